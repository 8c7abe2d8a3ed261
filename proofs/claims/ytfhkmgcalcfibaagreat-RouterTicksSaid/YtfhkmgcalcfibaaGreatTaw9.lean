/-
  PROVED: for every input RouterTicks answers true, and each argument reads afterwards as it read before.
-/
import Derived.Test.YtfhkmgcalcfibaaGreatTaw8
set_option linter.unusedVariables false
set_option linter.unusedSimpArgs false
set_option maxHeartbeats 64000000
namespace Go.Proofs.YtfhkmgcalcfibaaGreat
open Go.RowKit
open Go.Proofs.Tryz (prog)
variable {W w:World}{b bt cap n sz:Nat}{cs vs:List Value}{l:List ReqV}{now:Int}{o:Obj}{p:Option Addr}{r v:Value}{s:RtV}{t:TypeId}{xs:List Int}{y:Operand}
instance:Zad prog 171:=⟨by kernel_rfl⟩
instance:Zad prog 172:=⟨by kernel_rfl⟩
instance:Zad prog 180:=⟨by kernel_rfl⟩
instance:Zad prog 181:=⟨by kernel_rfl⟩
instance:Zad prog 24:=⟨by kernel_rfl⟩
instance:Zad prog 257:=⟨by kernel_rfl⟩
instance:Zad prog 258:=⟨by kernel_rfl⟩
instance:Zad prog 259:=⟨by kernel_rfl⟩
instance:Zad prog 269:=⟨by kernel_rfl⟩
instance:Zad prog 278:=⟨by kernel_rfl⟩
instance:Zad prog 31:=⟨by kernel_rfl⟩
instance:Zad prog 313:=⟨by kernel_rfl⟩
instance:Zad prog 49:=⟨by kernel_rfl⟩
instance:Zad prog 77:=⟨by kernel_rfl⟩
instance:Zad prog 78:=⟨by kernel_rfl⟩
instance:Zad prog 79:=⟨by kernel_rfl⟩
instance:Zad prog 80:=⟨by kernel_rfl⟩
instance:Zad prog 85:=⟨by kernel_rfl⟩
instance:Zad prog 89:=⟨by kernel_rfl⟩
instance:TU prog 9 TypeDesc.string:=⟨Tryz.underlying9⟩
instance:TU prog 40 (TypeDesc.int IntKind.u64):=⟨Tryz.underlying40⟩
section
attribute [local irreducible] OpTo wpListIn Code.wpIn MW Cal
theorem ZfV(i:Nat){fr:FN}{l:Row}{fn:Func}{R:Value->World->Prop}{q b off n s t:Nat}{u v:Value}{ty:TypeId}{t':TypeId}{fz:Nat×Nat}{c:Cx} [ht:TAgg c.P ty n](hdf:c.df=[])(hr:fn.results=[ResultVar.cell q ty,ResultVar.tmp s,ResultVar.tmp t].toArray)(hq:look fr q=some (.pointer (some ⟨b,off,none⟩)))(hl:nthO l i=some [(b, .cells cs.toArray t' fz)])(hv:seg cs off n=some vs)(hu:look fr s=some u)(hw:look fr t=some v)
  (h:∀w,Mem c.S c.W w l.flatten->R (.tuple [.agg vs.toArray,u,v].toArray) w):G c (Post c.P fn R) [] (.ext .ret) fr l:=
 ZdT hdf hr (λa w F M=> .cons (.cell (F.e hq) (Zam ht.h (M.at_ _ (Zak hl)) (by simpa using hv))) (.cons (.tmp (F.e hu)) (.cons (.tmp (F.e hw)) .nil))) h
def PhTk(now:Int)(s:RtV)(r:Value)(W w':World):Prop:=
 if Zaj s=true then
  if Zag now=true then∃x' e' va ea u es,r= .tuple #[.agg (rtC (ZbF now s).1 x').toArray,u, .int .i64 0]/\RtOw (ZbF now s).1 x' e'/\OwnS 69 40 va ((ZbF now s).2).length (nosC ((ZbF now s).2)) ea/\OwnS 61 2 u (sdn (ZbF now s).2.length) (sdC (ZbF now s).2.length va) es/\Mem [] W w' (es::ea::e'.row:Row).flatten
  else r= .tuple #[.agg rtZ.toArray, .slice none 0 0, .int .i64 2]/\Ext [] W w'
 else r= .tuple #[.agg rtZ.toArray, .slice none 0 0, .int .i64 1]/\Ext [] W w'
theorem PhTk.v1(h:Zaj s=false)(E:Ext [] W w):PhTk now s (.tuple #[.agg rtZ.toArray, .slice none 0 0, .int .i64 1]) W w:=by
 unfold PhTk
 rw[h,if_neg Q5]
 exact⟨rfl,E⟩
theorem PhTk.v2(h:Zaj s=true)(h2:Zag now=false)(E:Ext [] W w):PhTk now s (.tuple #[.agg rtZ.toArray, .slice none 0 0, .int .i64 2]) W w:=by
 unfold PhTk
 rw[if_pos h,h2,if_neg Q5]
 exact⟨rfl,E⟩
theorem PhTk.v0(h:Zaj s=true)(h2:Zag now=true)(k:∃x' e' va ea u es,r= .tuple #[.agg (rtC (ZbF now s).1 x').toArray,u, .int .i64 0]/\RtOw (ZbF now s).1 x' e'/\OwnS 69 40 va ((ZbF now s).2).length (nosC ((ZbF now s).2)) ea/\OwnS 61 2 u (sdn (ZbF now s).2.length) (sdC (ZbF now s).2.length va) es/\Mem [] W w (es::ea::e'.row:Row).flatten):PhTk now s r W w:=by
 unfold PhTk
 rw[if_pos h,if_pos h2]
 exact k
theorem Zsf(h:Zaj s=true):RtSm s:=by
 obtain⟨h0,h1,h2,h3,h4,h5,h6,h7,h8,h9,h10,h11,h12,h13⟩:=ZbT h
 have a1:=(Zcq.1 h4).1
 have a2:=(Zec.1 h5).1
 have a3:=(Zbc.1 h6).1
 have a4:=(Zbd.1 h7).1
 have a5:=(Za5.1 h8).1
 have a6:=(Zbp.1 h9).1
 have a7:=(ZaV.1 h10).1
 constructor<;>omega
theorem Zt1{x:RtX}{e:RtE}(h:RtOw s x e):RtOw (raiV now s) x e:=by
 obtain⟨a1,a2,a3,a4,a5,a6,a7⟩:=h
 unfold raiV
 split<;>exact⟨a1,a2,a3,a4,a5,a6,a7⟩
theorem Zun{al:List NotV}{x:RtX}{e:RtE}(h:RtOw s x e):RtOw (helV now s al).1 x e:=by
 obtain⟨a1,a2,a3,a4,a5,a6,a7⟩:=h
 unfold helV
 split<;>exact⟨a1,a2,a3,a4,a5,a6,a7⟩
theorem ZlC(hs:IsRt s)(hv:Zaj s=true)(hq:Sq16 s.rq)(hn:Zag now=true):(tk1 now s).2.length<=512:=by
 have h3:Sq16 (raiV now s).rq:=by unfold raiV;split<;>exact hq
 have:=(ZtT (now:=now) [] (ZkP (now:=now) hs) (Zng hv hn) h3).2
 show(setD now (raiV now s) []).2.length<=512
 simpa using this
theorem Zt0(hq:Sq16 s.rq):Sq16 (raiV now s).rq:=by unfold raiV;split<;>exact hq
theorem Zp7{S:List Nat}{W0 w:World}{row r1 sel r2:Row}{ent:EN}{e:TypeId}{xs:List Value}(M:Mem S W0 w row.flatten)(h:Pk row ent r1)(h2:PkL r1 sel r2)(hO:OwnS e sz v n xs ent):∀b' o s' k c,v= .slice (some ⟨b',o,s'⟩) k c->b'∉sel.flatten.map (·.1):=by
 rintro b' o s' k c rfl hm
 rcases hO with⟨e,_⟩|⟨b,cap,j,e,rfl,_⟩
 ·cases e
 ·cases e
  have hn:=(M.perm (h.perm.trans (List.Perm.append_left _ h2.perm))).nd
  rw[List.singleton_append,List.map_cons,List.nodup_cons] at hn
  exact hn.1 (by rw[List.map_append];exact List.mem_append_left _ hm)
def JX.rt(b:Nat)(t:TypeId)(n:Nat)(o:Obj):JX:=⟨λw=>∃cs:List Value,w.heap[b]? =some (.cells cs.toArray t (0,0))/\cs.length=n,λa b' E⟨cs,h1,h2⟩=>⟨cs,by rw[E.block b (Array.getElem?_eq_some_iff.1 h1).1 Q5];exact h1,h2⟩,[],λw=>∀o',w.heap[b]? =some o'->o'=o,λa b' E hI o' ho=>hI o' (by rw[E.block b (Array.getElem?_eq_some_iff.1 ho).1 Q5];exact ho)⟩
theorem rowI(h:w.heap[b]? =some o):(JX.rt b t n o).I w:=λo' ho=>by
 rw[h] at ho
 exact(Option.some.inj ho).symm
theorem rowJ(h:w.heap[b]? =some (.cells cs.toArray t (0,0)))(hn:cs.length=n):(JX.rt b t n o).J w:=⟨cs,h,hn⟩
theorem Zqc{c:Cx}{x:RX}{fr:FN}{l:Row}{d:Nat}{ty:TypeId}{pos:String}{af:Array Edge}(i:Nat){b off n:Nat}{t':TypeId}{fz:Nat×Nat} [ht:TAgg c.P t n](hx:Ev fr y=some (.pointer (some ⟨b,off,none⟩)))(hl:nthO l i=some [(b, .cells cs.toArray t' fz)])(hv:seg cs off n=some vs):
  OpF c x [] ⟨some d, .load t y,ty,pos,af,none⟩ fr l (λv r=>∃_:Unit,v= .agg vs.toArray/\True/\r=l):=λa w F M _=>ZbM (F.e hx) (M.at_ _ (Zak hl)) hv ⟨Ext.refl _ _,l,⟨(),rfl,trivial,rfl⟩,M⟩
theorem Zkf(l:List ReqV)(now:Int):(dueR l now).due.Sublist l:=by
 unfold dueR
 split
 ·exact sC0 _
 ·split
  ·exact sC0 _
  ·exact List.filter_sublist
theorem Zme{full:Bool}{T l:List AdvV}(hl:Zbh l=true)(hT:Zbh T=true)(il:∀x∈l,IsAv x)(iT:∀x∈T,IsAv x):∀x∈mrg full l T,IsAv x:=λx hx=>by
 rcases((ZeW full l T (Zdl hl) (Zdl hT) (λx h=>(il x h).1) (λx h=>(iT x h).1)).1 x).1 hx with⟨h1,_⟩|⟨y,h1,_,rfl⟩
 ·exact il x h1
 ·exact iT y h1
theorem Zkz{st:RtV×List NotV}(h:st.2.length<=529)(hs:IsRt st.1)(hv:Zaj st.1=true)(hn:Zag now=true):(annT now st).2.length<=100000:=by
 unfold annT
 split
 ·omega
 ·have h1:=(Zbp.1 (ZbT hv).2.2.2.2.2.2.2.2.2.1).1
  have h2:=(Zkf st.1.rq now).length_le
  have h3:=(ZaV.1 (Zfu hs hv hn)).1
  have h4:=(ZaV.1 (ZbT hv).2.2.2.2.2.2.2.2.2.2.1).1
  have h5:(annU now st.1).sent.length<=(annA now st.1).2.length+st.1.av.length:=by rw[Zhc hs hv hn];exact Zem _ _ _
  show(st.2++(dueR st.1.rq now).due.map rqN++(annU now st.1).sent.map upN).length<=100000
  rw[List.length_append,List.length_append,List.length_map,List.length_map]
  omega
theorem ZlR(s:RtV)(x:RtX)(now:Int)(hs:IsRt s)(hq:Sq16 s.rq)(W:World)(hX:RtAt W s x):Cal prog 122 [.agg (rtC s x).toArray, .int .i64 now].toArray W λr w'=>PhTk now s r W w':=by
 refine yS (n:=155) Tryz.func122 rfl rfl ?_
 cases hv:Zaj s
 ·refine gQ 2 rfl ?_
  refine Zai rfl rfl λb2=>Zac λb4=>?_
  refine W4 [7,0,0,3,0,2,0,0,6] @Zee ?_
  exact ZfV 0 rfl rfl rfl rfl rfl rfl rfl λw M=>PhTk.v1 hv M.ext
 cases hn:Zag now
 ·refine gQ 2 rfl ?_
  refine Zai rfl rfl λb2=>Zac λb4=>?_
  refine W4 [7,0,0,3,0,6,0,3,0,2,0,0,6] (T2 @Zee @Zas) ?_
  exact ZfV 0 rfl rfl rfl rfl rfl rfl rfl λw M=>PhTk.v2 hv hn M.ext
 have hsm:=Zsf hv
 have hvA:=ZbT hv
 obtain⟨hn0,hn1⟩:=Zbt hn
 obtain⟨hr0,hr1⟩:=Zbt hvA.2.1
 refine gQ 2 rfl (Zai rfl rfl λb2=>Zac λb4=>?_)
 refine W4 [7,0,0,3,0,6,0,3,0,4,0] (T2 @Zee @Zas) ?_
 refine ZaU (ι:=RtX×RtE) (λj=> .agg (rtC s j.1).toArray) (λj=>RtOw s j.1 j.2) (λj=>j.2.row) rfl rfl (λw M=>Cal.mono (ZkN s x hsm w (hX.later M.ext)) λr w2 h=>by obtain⟨y,e,h1,h2,h3⟩:=h;exact⟨(y,e),h2,h1,h3⟩) ?_
 rintro⟨⟨v6,v7,v8,v9,v10,v11,v12⟩,⟨e6,e7,e8,e9,e10,e11,e12⟩⟩ oC
 dsimp only[RtE.row,List.cons_append,List.nil_append] at oC⊢
 refine Zdf 8 rfl rfl rfl oC.one rfl rfl rfl ?_
 refine gQ 3 rfl (Zc0 (ι:=Unit) ⟨λ_=>True,λ_=>[(1, .int .i64 now),(2, .pointer (some ⟨b2,0,none⟩)),(4, .pointer (some ⟨b4,0,none⟩))],λ_=>[e12,e11,e10,e9,e8,e7,e6,[(b4, .cells rtZ.toArray 53 (0,0))],[(b2, .cells (rtC (raiV now s) ⟨v6,v7,v8,v9,v10,v11,v12⟩).toArray 53 (0,0))]]⟩ ?_ ?_)
 ·have o6:=oC.og
  by_cases c1:0<s.og.length
  ·by_cases c2:s.raised+8<=now
   ·have e1:raiV now s= {s with seq:=IntKind.u16.wrap (s.seq+1),raised:=now}:=if_pos ⟨c1,c2⟩
    rw[e1]
    refine W3 [3,0,0,2,0,2,0,0,4,0,3,0,0,1,0,5,0,1] ?_
    exact gJ () trivial
   ·have e1:raiV now s=s:=if_neg λh=>c2 h.2
    rw[e1]
    refine W3 [3,0,0,2,0,2,0,0,4,0,1] ?_
    exact gJ () trivial
  ·have e1:raiV now s=s:=if_neg λh=>c1 h.1
   rw[e1]
   refine W3 [3,0,0,2,0,10] ?_
   exact gJ () trivial
 rintro⟨⟩-
 dsimp only
 have oR:=Zt1 (now:=now) oC
 have hB1:=Zng hv hn
 have hB2:=ZkP (now:=now) hs
 have hB3:=Zt0 (now:=now) hq
 refine W3 [3,0,1] ?_
 refine ZfY (ι:=RtX×RtE×Value×EN) (λj=> .tuple #[.agg (rtC (tk1 now s).1 j.1).toArray,j.2.2.1]) (λj=>RtOw (tk1 now s).1 j.1 j.2.1/\OwnS 69 40 j.2.2.1 ((tk1 now s).2).length (nosC ((tk1 now s).2)) j.2.2.2) (λj=>j.2.2.2::j.2.1.row) (.cons .z (.cons .z (.cons .z (.cons .z (.cons .z (.cons .z (.cons .z .nil))))))) rfl rfl (λw M hH2=>Cal.mono (ZpI (raiV now s) _ now ⟨e6,e7,e8,e9,e10,e11,e12⟩ hB2 hB1 hB3 hn oR w hH2) λr w2 h=>by obtain⟨y,e,va,ea,h1,h2,h3,h4⟩:=h;exact⟨(y,e,va,ea),h1,⟨h2,h3⟩,h4⟩) ?_
 clear oC oR
 rintro⟨⟨v6,v7,v8,v9,v10,v11,v12⟩,⟨e6,e7,e8,e9,e10,e11,e12⟩,va,ea⟩ ⟨oT,oA⟩
 have hl1:=ZlC hs hv hq hn
 obtain⟨hT1,hT2⟩:=ZmW hs hv hq hn
 obtain⟨s1,hs1⟩:∃s1,s1=(tk1 now s).1:=⟨_,rfl⟩
 obtain⟨a1,ha1⟩:∃a1,a1=(tk1 now s).2:=⟨_,rfl⟩
 dsimp only[RtE.row,List.cons_append,List.nil_append] at oT oA⊢
 rw[<-hs1] at oT hT1 hT2⊢
 rw[<-ha1] at oA hl1
 refine gQ 3 rfl ?_
 refine Zdf 9 rfl rfl rfl oT.one rfl rfl rfl ?_
 refine gQ 4 rfl (Zc0 (ι:=Value×EN) ⟨λj=>OwnS 69 40 j.1 ((helV now s1 a1).2).length (nosC ((helV now s1 a1).2)) j.2,λj=>[(1, .int .i64 now),(2, .pointer (some ⟨b2,0,none⟩)),(4, .pointer (some ⟨b4,0,none⟩)),(7,j.1)],λj=>[j.2,e12,e11,e10,e9,e8,e7,e6,[(b4, .cells rtZ.toArray 53 (0,0))],[(b2, .cells (rtC (helV now s1 a1).1 ⟨v6,v7,v8,v9,v10,v11,v12⟩).toArray 53 (0,0))]]⟩ ?_ ?_)
 ·by_cases c1:s1.nextH<=now
  ·have e1:helV now s1 a1=(greS s1 now,greV s1 a1):=if_pos c1
   rw[e1]
   obtain⟨q7,c7,e,hq7⟩:=Zbr oT.aj
   dsimp only at e
   subst e
   have hj:=hT2.aj
   have hjq:=hT2.q
   have hjl:=(senH hT1).2
   have hI1:=Zmo s1.hello
   refine W3 [4,0,3,0,4,0] ?_
   refine g_v (λa w F M R r=>Zaq F rfl (Znz _) r) (g_bs rfl rfl rfl (ZcM Qd) (λb63=>?_))
   refine ZaY 1 0 (enc:=noC) rfl rfl Qd rfl rfl (Zez Qd) Q4 (λ_=>rfl) (λv64 es64 hO64=>?_) (Zfk _)
   refine W3 [7,0,5] ?_
   refine Zao (.s .z) (ZcT 68 67 66 (ZdI hj) hq7 (λi(j:Value×EN)=>OwnS 69 40 j.1 ((greI s1 a1 i)).length (nosC ((greI s1 a1 i))) j.2) (λj=>[(1, .int .i64 now),(2, .pointer (some ⟨b2,0,none⟩)),(4, .pointer (some ⟨b4,0,none⟩)),(7,j.1)]) (λj=>[j.2,e12,e11,e10,e9,e8,e7,e6,[(b4, .cells rtZ.toArray 53 (0,0))],[(b2, .cells (rtC s1 ⟨v6, .slice q7 s1.aj.length c7,v8,v9,v10,v11,v12⟩).toArray 53 (0,0))]]) (_,_) ?_ ?_ ?_)
   ·show OwnS _ _ _ _ _ _
    unfold greI
    rw[List.take_zero,List.map_nil,List.append_nil]
    exact hO64
   ·rintro i ⟨v,ent⟩ y hi hy hym b7 j7 rfl rfl f1 hO
    have yj:=hj y hym
    have yq:=hjq y hym
    dsimp only at hO⊢
    have hgl:(greI s1 a1 i).length<=1100:=by have:=ZnP (s:=s1) (al:=a1) (i:=i);omega
    have hI2:IsNo (heaV y):=Zmp _ _
    have hb2:=Zub y.nb (rxV y.q)
    refine W3 [6,0,6,0,0] ?_
    refine Zac λb9=>?_
    refine W3 [0,2] ?_
    refine Zik 1 rfl (gQ 1 rfl (Zil 9 155 8 rfl Q7 (Zaw 2 rfl (Zc1 0 rfl rfl (Zo0 Qd) ?_))))
    refine Zaw 1 rfl (ZfK 0 rfl rfl (aj_q Qd) ?_)
    refine Zf1 rfl rfl (λw M=>ZpL _ Qd _) ?_
    refine fe_v (λa w F M R r=>Zaq F rfl Qd r) ?_
    refine Zln rfl rfl rfl (ZcM Qd) ?_
    refine Zjp 7 rfl hO (.head _) (Zez hI2) Q0 Q0 (Zfk _) (λv2 ent2 hO2=>?_)
    rw[show greI s1 a1 i++[heaN y.nb (rxV y.q)]=greI s1 a1 (i+1) from(Zlc hi hy).symm] at hO2
    refine W3 [5,0,2] ?_
    exact gR (_,_) hO2
   ·rintro⟨v,ent⟩ i hi hO
    subst hi
    dsimp only at hO⊢
    rw[show greI s1 a1 s1.aj.length=greV s1 a1 by unfold greI greV;rw[List.take_length]] at hO
    refine W4 [6,0,2,0,5,0,0,1,0,4,0,1,0,1] @ZcS ?_
    exact gJ (_,_) hO
  ·have e1:helV now s1 a1=(s1,a1):=if_neg c1
   rw[e1]
   refine W3 [4,0,3,0,1] ?_
   exact gJ (_,_) oA
 rintro⟨va2,ea2⟩ oA2
 dsimp only at oA2⊢
 have oH:=Zun (now:=now) (al:=a1) oT
 have hH1:=ZqX (al:=a1) hT1 hn
 have hH2:=ZqW (now:=now) (al:=a1) hT2
 have hl2:(helV now s1 a1).2.length<=529:=by have:=(senH hT1).2;unfold helV;split<;>simp[greV]<;>omega
 have htk:ZbF now s=annT now (helV now s1 a1):=by rw[hs1,ha1];rfl
 clear hq hX hsm hvA hr0 hr1 oT oA hT1 hT2 hl1
 obtain⟨st,hst⟩:∃st,st=helV now s1 a1:=⟨_,rfl⟩
 rw[<-hst] at oA2 oH hH1 hH2 hl2 htk⊢
 clear hst hs1 ha1
 refine gQ 2 rfl (Zc0 (ι:=RtX×RtE×Value×EN) ⟨λj=>RtOw (annT now st).1 j.1 j.2.1/\OwnS 69 40 j.2.2.1 ((annT now st).2).length (nosC ((annT now st).2)) j.2.2.2,λj=>[(1, .int .i64 now),(2, .pointer (some ⟨b2,0,none⟩)),(4, .pointer (some ⟨b4,0,none⟩)),(7,j.2.2.1)],λj=>[j.2.2.2,j.2.1.av,j.2.1.rq,j.2.1.ins,j.2.1.ro,j.2.1.sr,j.2.1.aj,j.2.1.og,[(b4, .cells rtZ.toArray 53 (0,0))],[(b2, .cells (rtC (annT now st).1 j.1).toArray 53 (0,0))]]⟩ ?_ ?_)
 ·by_cases c4:now<st.1.quiet
  ·have e4:annT now st=st:=if_pos c4
   rw[e4]
   have c5:decide (now<st.1.quiet)=true:=dqT c4
   refine W4 [2,0,1,0,3,0,1] @Zgf ?_
   exact gJ (⟨v6,v7,v8,v9,v10,v11,v12⟩,⟨e6,e7,e8,e9,e10,e11,e12⟩,va2,ea2) ⟨oH,oA2⟩
  ·have e4:annT now st=(annS now st.1,annN now st.1 st.2):=if_neg c4
   rw[e4]
   have c5:decide (now<st.1.quiet)=false:=dqF c4
   have hv2:=ZbT hH1
   have hrq:=(Zbp.1 hv2.2.2.2.2.2.2.2.2.2.1).1
   have hQ1:=ZkA hH1 hn
   have hQ2:=Zhd (now:=now) hH2
   have hdI:=Zkf st.1.rq now
   have hdl:=hdI.length_le
   refine W4 [2,0,1,0,3,0,3,0,1] @Zgf ?_
   refine ZaU (ι:=Value×Value×EN×EN) (λj=> .tuple [j.1,j.2.1, .int .i64 (dueR st.1.rq now).err].toArray) (λj=>OwnS 171 40 j.1 ((dueR st.1.rq now).due).length (rqsC ((dueR st.1.rq now).due)) j.2.2.1/\OwnS 171 40 j.2.1 ((dueR st.1.rq now).aft).length (rqsC ((dueR st.1.rq now).aft)) j.2.2.2) (λj=>[j.2.2.1,j.2.2.2]) rfl rfl (λw M=>Cal.mono (ZvB st.1.rq hH2.rq v11 now w (oH.rq.slAt M λq hq=>List.mem_flatten_of_mem Q5 hq)) λr w2 h=>by obtain⟨u1,u2,f1,f2,h1,h2,h3,h4⟩:=h;exact⟨(u1,u2,f1,f2),h1,⟨h2,h3⟩,h4⟩) ?_
   rintro⟨w1,w2,d1,d2⟩ ⟨oD1,oD2⟩
   dsimp only[List.cons_append,List.nil_append] at oD1 oD2⊢
   obtain⟨qd,cd,rfl,hqd⟩:=Zbr oD1
   have oQ:RtOw (annQ now st.1) ⟨v6,v7,v8,v9,v10,w2,v12⟩ ⟨e6,e7,e8,e9,e10,d2,e12⟩:=⟨oH.og,oH.aj,oH.sr,oH.ro,oH.ins,oD2,oH.av⟩
   refine W3 [13,0,11] ?_
   refine Zao (.s (.s .z)) (ZcT 105 104 103 (ZbB (λy hy=>hH2.rq y (hdI.subset hy))) hqd (λi(j:Value×EN)=>OwnS 69 40 j.1 ((st.2++(((dueR st.1.rq now).due.take i).map rqN))).length (nosC ((st.2++(((dueR st.1.rq now).due.take i).map rqN)))) j.2) (λj=>[(1, .int .i64 now),(2, .pointer (some ⟨b2,0,none⟩)),(4, .pointer (some ⟨b4,0,none⟩)),(7,j.1)]) (λj=>[j.2,d1,d2,e12,e11,e10,e9,e8,e7,e6,[(b4, .cells rtZ.toArray 53 (0,0))],[(b2, .cells (rtC (annQ now st.1) ⟨v6,v7,v8,v9,v10,w2,v12⟩).toArray 53 (0,0))]]) (_,_) ?_ ?_ ?_)
   ·show OwnS _ _ _ _ _ _
    rw[List.take_zero,List.map_nil,List.append_nil]
    exact oA2
   ·rintro i ⟨v,ent⟩ y hi hy hym b7 j7 rfl rfl f1 hO
    have yI:=hH2.rq y (hdI.subset hym)
    have yd:IsDv y.to:=yI
    dsimp only at hO⊢
    have hgl:(st.2++(((dueR st.1.rq now).due.take i).map rqN)).length<=700:=by rw[List.length_append,List.length_map,List.length_take];have:=hdI.length_le;omega
    have hnx:(st.2++(((dueR st.1.rq now).due.take (i+1)).map rqN))=(st.2++(((dueR st.1.rq now).due.take i).map rqN))++[rqN y]:=by rw[List.take_succ_eq_append_getElem hi,List.map_append,<-List.append_assoc,<-hy];rfl
    have hI2:IsNo (rqN y):=yd
    have hb5:=Zqu y.to yd y.seq y.hops
    refine W3 [6,0,6,0,0] ?_
    refine Zac λb14=>?_
    refine W3 [0,5,0,1,0,1,0,0] ?_
    refine g_bs rfl rfl rfl (ZcM Qd) (λb117=>?_)
    refine ZaY 2 0 (enc:=noC) rfl rfl Qd rfl rfl (Zez Qd) Q4 (λ_=>rfl) (λv118 es118 hO118=>?_) (Zfk _)
    refine W3 [5,0,2] ?_
    exact gR (_,_) (by show OwnS _ _ _ _ _ _;rw[hnx];exact hO118)
   ·rintro⟨va3,ea3⟩ i hi hO
    subst hi
    dsimp only at hO⊢
    rw[List.take_length] at hO
    refine W3 [6,0,2,0,8] ?_
    refine Zmt 9 155 (e8.map (·.1)++[b2]) [2,3,4,5,6,8] [(7,5)] (JX.rt b2 53 14 (.cells (rtC (annQ now st.1) ⟨v6,v7,v8,v9,v10,w2,v12⟩).toArray 53 (0,0))) [e8,[(b2, .cells (rtC (annQ now st.1) ⟨v6,v7,v8,v9,v10,w2,v12⟩).toArray 53 (0,0))]] [ea3,d1,d2,e12,e11,e10,e9,e7,e6,[(b4, .cells rtZ.toArray 53 (0,0))]] rfl Q7 (PkL.cons (.s (.s (.s (.s (.s (.s (.s (.z)))))))) (.cons (.s (.s (.s (.s (.s (.s (.s (.s (.s (.s (.z))))))))))) .nil)).perm Q5 (λw M=>rowJ (M.at_ _ (List.mem_flatten_of_mem (l:=[(b2,(.cells (rtC (annQ now st.1) ⟨v6,v7,v8,v9,v10,w2,v12⟩).toArray 53 (0,0)))]) Q5 (.head _))) rfl) ?_
    refine ZAd (v:= .agg (rtC (annQ now st.1) ⟨v6,v7,v8,v9,v10,w2,v12⟩).toArray) (λa w F M⟨cs,j1,j2⟩=>ZbM (F.e rfl) j1 (ZbH j2) ⟨Ext.refl _ _,λhI=>by have h:=hI _ j1;injection h with h _ _;rw[h]⟩) ?_
    refine ZaT 1 rfl (Zrf (κ:=Unit) (λ_ _=> .agg (rtC (annQ now st.1) ⟨v6,v7,v8,v9,v10,w2,v12⟩).toArray) (λ_ _=>True) (λ_ _=>[ea3,d1,d2,e12,e11,e10,e9,e8,e7,e6,[(b4, .cells rtZ.toArray 53 (0,0))],[(b2, .cells (rtC (annQ now st.1) ⟨v6,v7,v8,v9,v10,w2,v12⟩).toArray 53 (0,0))]]) (.x .any) (λi hi=>Zqc 11 rfl rfl rfl) (λ_ _ _ _=>trivial) (λ_ _ _ _ w M=>rowJ (M.at_ _ (List.mem_flatten_of_mem (l:=[(b2,(.cells (rtC (annQ now st.1) ⟨v6,v7,v8,v9,v10,w2,v12⟩).toArray 53 (0,0)))]) Q5 (.head _))) rfl) ?_ (hIr:=λ_ _ w M=>rowI (M.at_ _ (List.mem_flatten_of_mem (l:=[(b2,(.cells (rtC (annQ now st.1) ⟨v6,v7,v8,v9,v10,w2,v12⟩).toArray 53 (0,0)))]) Q5 (.head _)))))
    refine Zfm (κ:=Value×EN) (λ_ j=>j.1) (λ_ j=>OwnS 100 37 j.1 ((annV (annQ now st.1))).length (avsC ((annV (annQ now st.1)))) j.2) (λ_ j=>[j.2]) (.x .any) (λf=>rfl) (λ_ _=>rfl) (λ_ _ w M=>Cal.mono (Zhi (annQ now st.1) ⟨v6,v7,v8,v9,v10,w2,v12⟩ hQ2 (Zcq.1 hv2.2.2.2.2.1).1 (Za5.1 hv2.2.2.2.2.2.2.2.2.1).1 w ⟨(oQ.og.slAt M λq hq=>List.mem_flatten_of_mem Q5 hq),(oQ.aj.slAt M λq hq=>List.mem_flatten_of_mem Q5 hq),(oQ.sr.slAt M λq hq=>List.mem_flatten_of_mem Q5 hq),(oQ.ro.slAt M λq hq=>List.mem_flatten_of_mem Q5 hq),(oQ.ins.slAt M λq hq=>List.mem_flatten_of_mem Q5 hq),(oQ.rq.slAt M λq hq=>List.mem_flatten_of_mem Q5 hq),(oQ.av.slAt M λq hq=>List.mem_flatten_of_mem Q5 hq)⟩) λr w2 h=>by obtain⟨ent,h2,h3⟩:=h;exact⟨(r,ent),rfl,h2,by simpa using h3⟩) (λ_ _ _ _=>trivial) (λ_ _ _ _ w M=>rowJ (M.at_ _ (List.mem_flatten_of_mem (l:=[(b2,(.cells (rtC (annQ now st.1) ⟨v6,v7,v8,v9,v10,w2,v12⟩).toArray 53 (0,0)))]) Q5 (.head _))) rfl) ?_ (hIr:=λ_ _ w M=>rowI (M.at_ _ (List.mem_flatten_of_mem (l:=[(b2,(.cells (rtC (annQ now st.1) ⟨v6,v7,v8,v9,v10,w2,v12⟩).toArray 53 (0,0)))]) Q5 (.head _))))
    refine Zuu (κ:=(Value×EN)×Value×EN) [(0, .agg (rtC (annQ now st.1) ⟨v6,v7,v8,v9,v10,w2,v12⟩).toArray)] (λ_ j=> .tuple [.agg (rtC ({annQ now st.1 with sr:=(annA now st.1).1}) ({ (⟨v6,v7,v8,v9,v10,w2,v12⟩:RtX) with sr:=j.2.1})).toArray,j.1.1].toArray) (λ_ j=>OwnS 100 37 j.1.1 ((annA now st.1).2).length (avsC ((annA now st.1).2)) j.1.2/\OwnS 166 38 j.2.1 ((annA now st.1).1).length (srsC ((annA now st.1).1)) j.2.2) (λi j=>[j.1.2,j.2.2]++[i.2.2,ea3,d1,d2,e12,e11,e10,e9,e7,e6,[(b4, .cells rtZ.toArray 53 (0,0))],[(b2, .cells (rtC (annQ now st.1) ⟨v6,v7,v8,v9,v10,w2,v12⟩).toArray 53 (0,0))]]) (.x .any) ?_ ?_ (λ_ _ _ _=>trivial) (λ_ _ _ _ w M=>rowJ (M.at_ _ (List.mem_flatten_of_mem (l:=[(b2,(.cells (rtC (annQ now st.1) ⟨v6,v7,v8,v9,v10,w2,v12⟩).toArray 53 (0,0)))]) Q5 (.head _))) rfl) (λ_ _ w M=>rowI (M.at_ _ (List.mem_flatten_of_mem (l:=[(b2,(.cells (rtC (annQ now st.1) ⟨v6,v7,v8,v9,v10,w2,v12⟩).toArray 53 (0,0)))]) Q5 (.head _)))) ?_
    ·intro q hq
     rw[List.mem_singleton.1 hq]
     exact⟨by simp,List.mem_of_elem_eq_true rfl⟩
    ·intro i hi
     refine ZkY (c:=⟨prog,none,155,[],[],W,fldT,slcT,Zbj,Zbi⟩) (fn:=209) (sel:=[e8]) (vs:=[.agg (rtC (annQ now st.1) ⟨v6,v7,v8,v9,v10,w2,v12⟩).toArray, .int .i64 now,i.2.1]) (κ:=(Value×EN)×Value×EN) (λj=> .tuple [.agg (rtC ({annQ now st.1 with sr:=(annA now st.1).1}) ({ (⟨v6,v7,v8,v9,v10,w2,v12⟩:RtX) with sr:=j.2.1})).toArray,j.1.1].toArray) _ (λj=>[j.1.2,j.2.2]) ?_ ?_ ?_ ?_ ?_
     ·exact .cons (.s (.s (.s (.s (.s (.s (.s (.s .z)))))))) .nil
     ·exact λb hb=>List.mem_append_left _ (by simpa using hb)
     ·rfl
     ·rfl
     ·exact λw M hW=>Cal.mono (Zst (annQ now st.1) ⟨v6,v7,v8,v9,v10,w2,v12⟩ now e8 (annV (annQ now st.1)) (Zf2 hQ2) (Nat.le_trans (ZaV.1 (ZmJ hQ2 hQ1)).1 Q0) hQ2.sr oQ.one oQ.sr i.2.1 w hW (hi.2.slAt M λq hq=>List.mem_flatten_of_mem Q5 hq) (Zp7 M .z (PkL.cons (.s (.s (.s (.s (.s (.s (.s (.z)))))))) .nil) hi.2)) λr w2 h=>by obtain⟨va,ea,u8,f8,h1,h2,h3,h4⟩:=h;exact⟨((va,ea),u8,f8),h1,⟨h2,h3⟩,h4⟩
    refine ZeB (λq=> .tuple [.agg (rtC ({annQ now st.1 with sr:=(annA now st.1).1}) ({ (⟨v6,v7,v8,v9,v10,w2,v12⟩:RtX) with sr:=q.2.2.1})).toArray,q.2.1.1].toArray) (.tn 2) (λ_ _=>rfl) (λ_ _ _=>⟨_,rfl,rfl⟩) (λ_ _ w M=>rowJ (M.at_ _ (List.mem_flatten_of_mem (l:=[(b2,(.cells (rtC (annQ now st.1) ⟨v6,v7,v8,v9,v10,w2,v12⟩).toArray 53 (0,0)))]) Q5 (.head _))) rfl) ?_ (hIr:=λ_ _ w M=>rowI (M.at_ _ (List.mem_flatten_of_mem (l:=[(b2,(.cells (rtC (annQ now st.1) ⟨v6,v7,v8,v9,v10,w2,v12⟩).toArray 53 (0,0)))]) Q5 (.head _))))
    refine ZeB (λq=> .agg (rtC ({annQ now st.1 with sr:=(annA now st.1).1}) ({ (⟨v6,v7,v8,v9,v10,w2,v12⟩:RtX) with sr:=q.2.2.1})).toArray) (.x .any) (λ_ _=>rfl) (λ_ _ _=>trivial) (λ_ _ w M=>rowJ (M.at_ _ (List.mem_flatten_of_mem (l:=[(b2,(.cells (rtC (annQ now st.1) ⟨v6,v7,v8,v9,v10,w2,v12⟩).toArray 53 (0,0)))]) Q5 (.head _))) rfl) ?_ (hIr:=λ_ _ w M=>rowI (M.at_ _ (List.mem_flatten_of_mem (l:=[(b2,(.cells (rtC (annQ now st.1) ⟨v6,v7,v8,v9,v10,w2,v12⟩).toArray 53 (0,0)))]) Q5 (.head _))))
    refine Zio 2 5 (.tail _ (.head _)) Q0 ?_
    refine Zy0 13 (λ_=>rtC (annQ now st.1) ⟨v6,v7,v8,v9,v10,w2,v12⟩) (λq=>rtC ({annQ now st.1 with sr:=(annA now st.1).1}) ({ (⟨v6,v7,v8,v9,v10,w2,v12⟩:RtX) with sr:=q.2.2.1})) (λq=>rtC ({annQ now st.1 with sr:=(annA now st.1).1}) ({ (⟨v6,v7,v8,v9,v10,w2,v12⟩:RtX) with sr:=q.2.2.1})) (λq=>[q.2.1.2,q.2.2.2,q.1.2.2,ea3,d1,d2,e12,e11,e10,e9,e7,e6,[(b4, .cells rtZ.toArray 53 (0,0))],[(b2, .cells (rtC ({annQ now st.1 with sr:=(annA now st.1).1}) ({ (⟨v6,v7,v8,v9,v10,w2,v12⟩:RtX) with sr:=q.2.2.1})).toArray 53 (0,0))]]) rfl (λ_ _=>rfl) (λ_ _=>rfl) (λq hq=>ZtV _ oQ.one (Zc7 hq.2.2)) (λ_ _=>rfl) (λ_ _=>rfl) (λ_ _=>rfl) Q5 (λq _ w M=>rowJ (M.at_ _ (List.mem_flatten_of_mem (l:=[(b2, .cells (rtC ({annQ now st.1 with sr:=(annA now st.1).1}) ({ (⟨v6,v7,v8,v9,v10,w2,v12⟩:RtX) with sr:=q.2.2.1})).toArray 53 (0,0))]) Q5 (.head _))) rfl) ?_ (hIr:=λ_ _ w M=>rowI (M.at_ _ (List.mem_flatten_of_mem (l:=[(b2,(.cells (rtC (annQ now st.1) ⟨v6,v7,v8,v9,v10,w2,v12⟩).toArray 53 (0,0)))]) Q5 (.head _))))
    refine ZfJ rfl (λi hi=>rfl) (λi hi=>⟨_,rfl,?_⟩)
    obtain⟨⟨_,un,fn⟩,⟨ua,fa⟩,u8,f8⟩:=i
    obtain⟨_,oN,oS⟩:=hi
    dsimp only at oN oS⊢
    have oS2:RtOw {annQ now st.1 with sr:=(annA now st.1).1} ⟨v6,v7,u8,v9,v10,w2,v12⟩ ⟨e6,e7,f8,e9,e10,d2,e12⟩:=⟨oQ.og,oQ.aj,oS,oQ.ro,oQ.ins,oQ.rq,oQ.av⟩
    have hAi:∀x∈(annA now st.1).2,IsAv x:=λx hx=>Zf2 hQ2 x ((ZgI now st.1).subset hx)
    have hU:=Zhc hH2 hH1 hn
    refine W3 [6,0,2] ?_
    refine ZaU (ι:=Value×Value×EN×EN) (λj=> .tuple [.agg (plC j.1 (annU now st.1).full).toArray,j.2.1, .bool (annU now st.1).urg, .int .i64 (annU now st.1).err].toArray) (λj=>OwnS 100 37 j.1 ((annU now st.1).told).length (avsC ((annU now st.1).told)) j.2.2.1/\OwnS 100 37 j.2.1 ((annU now st.1).sent).length (avsC ((annU now st.1).sent)) j.2.2.2) (λj=>[j.2.2.1,j.2.2.2]) rfl rfl (λw M=>Cal.mono (Zx2 st.1.av (annA now st.1).2 hH2.av hAi v12 ua st.1.full now w (oH.av.slAt M λq hq=>List.mem_flatten_of_mem Q5 hq) (oN.slAt M λq hq=>List.mem_flatten_of_mem Q5 hq)) λr w2 h=>by obtain⟨u1,u2,f1,f2,h1,h2,h3,h4⟩:=h;exact⟨(u1,u2,f1,f2),h1,⟨h2,h3⟩,by simpa using h4⟩) ?_
    rintro⟨up,us,eu,es⟩ ⟨oU1,oU2⟩
    dsimp only[List.cons_append,List.nil_append] at oU1 oU2⊢
    obtain⟨qs,cs,rfl,hqs⟩:=Zbr oU2
    have hone:(plC up (annU now st.1).full).all (·.oneCell')=true:=by simp only[plC,List.all_cons,List.all_nil,Zc7 oU1];rfl
    refine gQ 5 rfl (Zac λb16=>?_)
    refine Zdf 0 rfl rfl rfl hone rfl rfl rfl ?_
    refine W3 [7,0,1] ?_
    refine Zdf 16 rfl rfl rfl hone rfl rfl rfl ?_
    refine gQ 10 rfl (Zao (.s (.s (.s (.s (.z))))) (Zao (.s (.s (.s (.s (.s (.s (.s (.s (.s (.s (.s (.s (.z))))))))))))) (Zao (.s (.s (.s (.s (.s (.s (.s (.s (.s (.s (.s (.s (.z))))))))))))) (Zao (.s (.s (.s (.s (.s (.s (.s (.s (.s (.s (.z))))))))))) (Zao (.s (.s (.s (.s (.s (.z)))))) (Zao (.s (.s (.s (.s (.s (.s (.s (.s (.s (.z)))))))))) ?_))))))
    have hsv:(annU now st.1).sent.length<=1040:=by rw[hU];exact Nat.le_trans (Zem _ _ _) (by have:=(ZaV.1 (Zfu hH2 hH1 hn)).1;have:=(ZaV.1 hv2.2.2.2.2.2.2.2.2.2.2.1).1;omega)
    have hsi:∀x∈(annU now st.1).sent,IsAv x:=by rw[hU];exact Zme (Zfu hH2 hH1 hn) hv2.2.2.2.2.2.2.2.2.2.2.1 hAi hH2.av
    refine ZcT 142 141 140 (ZbV hsi) hqs (λi(j:Value×EN)=>OwnS 69 40 j.1 (((st.2++(dueR st.1.rq now).due.map rqN)++(((annU now st.1).sent.take i).map upN))).length (nosC (((st.2++(dueR st.1.rq now).due.map rqN)++(((annU now st.1).sent.take i).map upN)))) j.2) (λj=>[(1, .int .i64 now),(2, .pointer (some ⟨b2,0,none⟩)),(4, .pointer (some ⟨b4,0,none⟩)),(7,j.1)]) (λj=>[j.2,eu,d2,e10,e9,f8,[(b16, .cells (plC up (annU now st.1).full).toArray 51 (0,0))],es,fa,fn,d1,e12,e11,e7,e6,[(b4, .cells rtZ.toArray 53 (0,0))],[(b2, .cells (rtC (annS now st.1) ⟨v6,v7,u8,v9,v10,w2,up⟩).toArray 53 (0,0))]]) (_,_) ?_ ?_ ?_
    ·show OwnS _ _ _ _ _ _
     rw[List.take_zero,List.map_nil,List.append_nil]
     exact hO
    ·rintro i ⟨v,ent⟩ y hi hy hym b7 j7 rfl rfl f1 hO
     have yI:=hsi y hym
     have yd:=yI.1
     dsimp only at hO⊢
     have hgl:((st.2++(dueR st.1.rq now).due.map rqN)++(((annU now st.1).sent.take i).map upN)).length<=2000:=by rw[List.length_append,List.length_append,List.length_map,List.length_map,List.length_take];omega
     have hnx:((st.2++(dueR st.1.rq now).due.map rqN)++(((annU now st.1).sent.take (i+1)).map upN))=((st.2++(dueR st.1.rq now).due.map rqN)++(((annU now st.1).sent.take i).map upN))++[upN y]:=by rw[List.take_succ_eq_append_getElem hi,List.map_append,<-List.append_assoc,<-hy];rfl
     have hI2:IsNo (upN y):=yd
     refine W3 [6,0,6,0,0] ?_
     refine Zac λb21=>?_
     refine W4 [0,4,0,0] @ZpD ?_
     refine g_bs rfl rfl rfl (ZcM Qd) (λb149=>?_)
     refine ZaY 2 0 (enc:=noC) rfl rfl Qd rfl rfl (Zez Qd) Q4 (λ_=>rfl) (λv150 es150 hO150=>?_) (Zfk _)
     refine W3 [5,0,2] ?_
     exact gR (_,_) (by show OwnS _ _ _ _ _ _;rw[hnx];exact hO150)
    ·rintro⟨va4,ea4⟩ i hi hO
     subst hi
     dsimp only at hO⊢
     rw[List.take_length] at hO
     refine W3 [6,0,2,0,1] ?_
     exact gJ (⟨v6,v7,u8,v9,v10,w2,up⟩,⟨e6,e7,f8,e9,e10,d2,eu⟩,va4,ea4) ⟨⟨oQ.og,oQ.aj,oS,oQ.ro,oQ.ins,oQ.rq,oU1⟩,hO⟩ rfl (List.Sublist.cons_cons _ (List.Sublist.cons_cons _ (List.Sublist.cons_cons _ (List.Sublist.cons_cons _ (List.Sublist.cons_cons _ (List.Sublist.cons_cons _ (List.Sublist.cons _ (List.Sublist.cons _ (List.Sublist.cons _ (List.Sublist.cons _ (List.Sublist.cons _ (List.Sublist.cons _ (List.Sublist.cons _ (List.Sublist.cons_cons _ (List.Sublist.cons_cons _ (List.Sublist.cons_cons _ (List.Sublist.cons_cons _ (List.Sublist.refl _))))))))))))))))))
 rintro⟨⟨v6,v7,v8,v9,v10,v11,v12⟩,⟨e6,e7,e8,e9,e10,e11,e12⟩,va4,ea4⟩ ⟨oF,oA4⟩
 dsimp only at oF oA4⊢
 rw[<-htk] at oF oA4⊢
 have hal:(ZbF now s).2.length<=100000:=by rw[htk];exact Zkz hl2 hH2 hH1 hn
 obtain⟨qv,cv,rfl,_⟩:=Zbr oA4
 refine W3 [2] ?_
 refine Zms 3 155 [2] rfl Q7 (ZfK 9 rfl rfl rfl (Zaw 1 rfl (Zir (λf=>rfl) (λ_ _=>rfl) (λ_ _ w M=>Zwc _ (ZbF now s).2 hal ⟨qv,cv,rfl⟩ w) (Zf0 rfl rfl (λi hi=>rfl) (λi hi=>?_)))))
 obtain⟨_,uj,ej⟩:=i
 obtain⟨_,oJ⟩:=hi
 dsimp only at oJ⊢
 skip
 refine Zdf 9 rfl rfl rfl oF.one rfl rfl rfl ?_
 exact gQ 5 rfl (ZfV 9 rfl rfl rfl rfl rfl rfl rfl λw M=>PhTk.v0 hv hn ⟨_,⟨e6,e7,e8,e9,e10,e11,e12⟩,_,_,_,_,rfl,oF,oA4,oJ,M.sub (subO (.cons_cons _ (.cons_cons _ (.cons_cons _ (.cons_cons _ (.cons_cons _ (.cons_cons _ (.cons_cons _ (.cons_cons _ (.cons_cons _ (List.nil_sublist _)))))))))))⟩)
theorem Zzc(hv:ZaB l=true)(hn:Zag now=true):(dueR l now).err=0:=by rw[Zzd hv hn]
def JX.sr(b:Nat)(s:RtV)(x:RtX)(now frm:Int)(va vs:Value)(X:List Nat):JX:=⟨λw=>∃u8,w.heap[b]? =some (.cells (stC s {x with sr:=u8} now frm va vs).toArray 142 (0,0)),λa b' E⟨u,h⟩=>⟨u,by rw[E.block b (Array.getElem?_eq_some_iff.1 h).1 Q5];exact h⟩,X,λ_=>True,λ_ _ _ h=>h⟩
theorem ZoX(s:RtV)(x:RtX)(now frm:Int)(va vs:Value)(b:Nat)(al:List NotV)(ea:EN)(e:RtE)(hs:IsRt s)(hv:Zaj s=true)(hal:al.length<=1000)(hn:Zag now=true)(hA:OwnS 69 40 va al.length (nosC al) ea)(hO:RtOw s x e)(W:World)(hH:InW W ((ea::[(b, .cells (stC s x now frm va vs).toArray 142 (0,0))]::e.row):Row).flatten):Cal prog 70 [.pointer (some ⟨b,0,none⟩)].toArray W λr w'=>r= .tuple #[]/\PhSe (annS now s) (annN now s al) now frm vs b (((ea::[(b, .cells (stC s x now frm va vs).toArray 142 (0,0))]::e.row):Row).flatten.map (·.1)) W w':=by
 obtain⟨v6,v7,v8,v9,v10,v11,v12⟩:=x
 obtain⟨e6,e7,e8,e9,e10,e11,e12⟩:=e
 obtain⟨hn0,hn1⟩:=Zbt hn
 have hv2:=ZbT hv
 have hrv:=hv2.2.2.2.2.2.2.2.2.2.1
 have hrq:=(Zbp.1 hrv).1
 have hQ1:=ZkA hv hn
 have hQ2:=Zhd (now:=now) hs
 have hdI:=Zkf s.rq now
 have hdl:=hdI.length_le
 have hde:=Zzc hrv hn
 have hU:=Zhc hs hv hn
 have hUe:(annU now s).err=0:=by rw[hU]
 refine Zdw (n:=104) (ea::[(b, .cells (stC s ⟨v6,v7,v8,v9,v10,v11,v12⟩ now frm va vs).toArray 142 (0,0))]::(⟨e6,e7,e8,e9,e10,e11,e12⟩:RtE).row) hH Zbj Zbi Tryz.func70 rfl rfl rfl ?_
 dsimp only[RtE.row]
 refine W3 [2] ?_
 refine Zjj 16 104 [9,10,11,14,15] [(12,10),(13,10)] rfl Q7 (ZaT 1 rfl (fk_v (λa w F M R r=>Zan (F.e rfl) rfl r) (ZaT 2 rfl (Zdc 1 rfl rfl rfl (ZaT 1 rfl (fk_v (λa w F M R r=>Zan (F.e rfl) rfl r) (ZaT 1 rfl (Zdc 1 rfl rfl rfl ?_))))))))
 refine Zfm (κ:=Value×Value×EN×EN) (λ_ j=> .tuple [j.1,j.2.1, .int .i64 (dueR s.rq now).err].toArray) (λ_ j=>OwnS 171 40 j.1 ((dueR s.rq now).due).length (rqsC ((dueR s.rq now).due)) j.2.2.1/\OwnS 171 40 j.2.1 ((dueR s.rq now).aft).length (rqsC ((dueR s.rq now).aft)) j.2.2.2) (λ_ j=>[j.2.2.1,j.2.2.2]) (.x .any) (λf=>rfl) (λ_ _=>rfl) (λ_ _ w M=>Cal.mono (Zsh s.rq hs.rq v11 now w (hO.rq.slAt M λq hq=>List.mem_flatten_of_mem Q5 hq)) λr w2 h=>by obtain⟨u1,u2,f1,f2,h1,h2,h3,h4⟩:=h;exact⟨(u1,u2,f1,f2),h1,⟨h2,h3⟩,h4⟩) (λ_ _ _ _=>trivial) (λ_ _ _ _ _ _=>trivial) ?_
 refine ZeB (λq=> .tuple [q.2.1,q.2.2.1, .int .i64 (dueR s.rq now).err].toArray) (.tn 3) (λ_ _=>rfl) (λ_ _ _=>⟨_,rfl,rfl⟩) (λ_ _ _ _=>trivial) (ZeB (λq=>q.2.1) (.x .any) (λ_ _=>rfl) (λ_ _ _=>trivial) (λ_ _ _ _=>trivial) (Zio 3 10 (.tail _ (.head _)) Q0 (Zio 3 10 (.tail _ (.head _)) Q0 (ZeB (λq=>q.2.1) (.x .any) (λ_ _=>rfl) (λ_ _ _=>trivial) (λ_ _ _ _=>trivial) (Ztf 12 10 (λq=> .tuple [q.2.1,q.2.2.1, .int .i64 (dueR s.rq now).err].toArray) (λq=>q.2.2.1) (λq=>q.2.2.1) (.x .any) (.head _) (λ_ _=>rfl) (λ_ _=>rfl) (λ_ _=>rfl) (λ_ _ _=>trivial) (λ_ _ _ _=>trivial) (ZfJ rfl (λi hi=>rfl) (λi hi=>⟨_,rfl,?_⟩)))))))
 obtain⟨_,w1,w2,d1,d2⟩:=i
 obtain⟨_,oD1,oD2⟩:=hi
 dsimp only at oD1 oD2⊢
 obtain⟨qd,cd,rfl,hqd⟩:=Zbr oD1
 have oQ:RtOw (annQ now s) ⟨v6,v7,v8,v9,v10,w2,v12⟩ ⟨e6,e7,e8,e9,e10,d2,e12⟩:=⟨hO.og,hO.aj,hO.sr,hO.ro,hO.ins,oD2,hO.av⟩
 refine W3 [9,0,4,0,2,0,10] ?_
 refine Zao (.s (.s .z)) (ZcT 36 35 34 (ZbB (λy hy=>hs.rq y (hdI.subset hy))) hqd (λi(j:Value×EN)=>OwnS 69 40 j.1 ((al++(((dueR s.rq now).due.take i).map rqN))).length (nosC ((al++(((dueR s.rq now).due.take i).map rqN)))) j.2) (λj=>[(0, .pointer (some ⟨b,0,none⟩))]) (λj=>[j.2,d1,d2,[(b, .cells (stC (annQ now s) ⟨v6,v7,v8,v9,v10,w2,v12⟩ now frm j.1 vs).toArray 142 (0,0))],e12,e11,e10,e9,e8,e7,e6]) (_,_) ?_ ?_ ?_)
 ·show OwnS _ _ _ _ _ _
  rw[List.take_zero,List.map_nil,List.append_nil]
  exact hA
 ·rintro i ⟨v,ent⟩ y hi hy hym b7 j7 rfl rfl f1 hN
  have yI:=hs.rq y (hdI.subset hym)
  have yd:IsDv y.to:=yI
  dsimp only at hN⊢
  have hgl:(al++(((dueR s.rq now).due.take i).map rqN)).length<=1100:=by rw[List.length_append,List.length_map,List.length_take];omega
  have hnx:(al++(((dueR s.rq now).due.take (i+1)).map rqN))=(al++(((dueR s.rq now).due.take i).map rqN))++[rqN y]:=by rw[List.take_succ_eq_append_getElem hi,List.map_append,<-List.append_assoc,<-hy];rfl
  have hI2:IsNo (rqN y):=yd
  refine W3 [6,0,6,0,0] ?_
  refine Zac λb6=>?_
  refine W3 [0,2] ?_
  refine Zik 1 rfl (gQ 1 rfl (Zil 14 104 13 rfl Q7 (Zaw 2 rfl (fe_v (λa w F M R r=>Zan (F.e rfl) rfl r) (Zaw 1 rfl (Zc1 3 rfl rfl rfl (Zaw 1 rfl (ZfK 0 rfl rfl (Zsk Qd) ?_))))))))
  refine Zaw 1 rfl (Zc1 0 rfl rfl (Zgg Qd) ?_)
  refine Zaw 1 rfl (Zc1 0 rfl rfl (ZpN Qd) ?_)
  refine Zf1 rfl rfl (λw M=>Zm1 _ Qd _ _ _) ?_
  refine Zln rfl rfl rfl (ZcM Qd) ?_
  refine Zjp 12 rfl hN (.head _) (Zez hI2) Q0 Q0 (Zfk _) (λv2 ent2 hN2=>?_)
  refine W3 [0,1,0,4,0,2] ?_
  exact gR (_,_) (by show OwnS _ _ _ _ _ _;rw[hnx];exact hN2)
 ·rintro⟨va3,ea3⟩ i hi hN
  subst hi
  dsimp only at hN⊢
  rw[List.take_length] at hN
  refine W3 [6,0,2,0,3] ?_
  refine Zmt 26 104 (b::e8.map (·.1)) [13,14,15,16,17,18,23,24,25] [(19,17),(20,17),(21,17)] (JX.sr b (annQ now s) ⟨v6,v7,v8,v9,v10,w2,v12⟩ now frm va3 vs [22]) [[(b, .cells (stC (annQ now s) ⟨v6,v7,v8,v9,v10,w2,v12⟩ now frm va3 vs).toArray 142 (0,0))],e8] [ea3,d1,d2,e12,e11,e10,e9,e7,e6] rfl Q7 (PkL.cons (.s (.s (.s (.z)))) (.cons (.s (.s (.s (.s (.s (.s (.s (.z)))))))) .nil)).perm Q5 (λw M=>⟨v8,M.at_ _ (List.mem_flatten_of_mem (l:=[(b, .cells (stC (annQ now s) ⟨v6,v7,v8,v9,v10,w2,v12⟩ now frm va3 vs).toArray 142 (0,0))]) Q5 (.head _))⟩) (ZaT 1 rfl (fk_v (λa w F M R r=>Zan (F.e rfl) rfl r) (ZaT 2 rfl ?_)))
  refine ZAe (vs:=plC v12 s.full) rfl (λw h=>by obtain⟨u,h⟩:=h;exact⟨_,_,_,h,rfl⟩) ?_
  refine ZaT 1 rfl (fk_v (λa w F M R r=>Zan (F.e rfl) rfl r) (ZaT 1 rfl ?_))
  refine ZAf (v:= .int .i64 now) rfl (λw h=>by obtain⟨u,h⟩:=h;exact⟨_,_,_,h,rfl⟩) ?_
  refine ZaT 2 rfl (fk_v (λa w F M R r=>Zan (F.e rfl) rfl r) (ZaT 1 rfl (Zrf (κ:=Unit) (λ_ _=> .agg (rtC (annQ now s) ⟨v6,v7,v8,v9,v10,w2,v12⟩).toArray) (λ_ _=>True) (λ_ _=>[ea3,d1,d2,[(b, .cells (stC (annQ now s) ⟨v6,v7,v8,v9,v10,w2,v12⟩ now frm va3 vs).toArray 142 (0,0))],e12,e11,e10,e9,e8,e7,e6]) (.x .any) (λi hi=>Zqc 3 rfl rfl rfl) (λ_ _ _ _=>trivial) (λ_ _ _ _ w M=>by exact⟨v8,M.at_ _ (List.mem_flatten_of_mem (l:=[(b, .cells (stC (annQ now s) ⟨v6,v7,v8,v9,v10,w2,v12⟩ now frm va3 vs).toArray 142 (0,0))]) Q5 (.head _))⟩) ?_)))
  refine Zfm (κ:=Value×EN) (λ_ j=>j.1) (λ_ j=>OwnS 100 37 j.1 ((annV (annQ now s))).length (avsC ((annV (annQ now s)))) j.2) (λ_ j=>[j.2]) (.x .any) (λf=>rfl) (λ_ _=>rfl) (λ_ _ w M=>Cal.mono (Zk5 (annQ now s) ⟨v6,v7,v8,v9,v10,w2,v12⟩ hQ2 hQ1 w ⟨(oQ.og.slAt M λq hq=>List.mem_flatten_of_mem Q5 hq),(oQ.aj.slAt M λq hq=>List.mem_flatten_of_mem Q5 hq),(oQ.sr.slAt M λq hq=>List.mem_flatten_of_mem Q5 hq),(oQ.ro.slAt M λq hq=>List.mem_flatten_of_mem Q5 hq),(oQ.ins.slAt M λq hq=>List.mem_flatten_of_mem Q5 hq),(oQ.rq.slAt M λq hq=>List.mem_flatten_of_mem Q5 hq),(oQ.av.slAt M λq hq=>List.mem_flatten_of_mem Q5 hq)⟩) λr w2 h=>by obtain⟨ent,h2,h3⟩:=h;exact⟨(r,ent),rfl,h2,by simpa using h3⟩) (λ_ _ _ _=>trivial) (λ_ _ _ _ w M=>by exact⟨v8,M.at_ _ (List.mem_flatten_of_mem (l:=[(b, .cells (stC (annQ now s) ⟨v6,v7,v8,v9,v10,w2,v12⟩ now frm va3 vs).toArray 142 (0,0))]) Q5 (.head _))⟩) ?_
  refine Zrf (κ:=((Value×EN)×Value×EN)) (λ_ j=>j.1.1) (λ_ j=>OwnS 100 37 j.1.1 ((annA now s).2).length (avsC ((annA now s).2)) j.1.2/\OwnS 166 38 j.2.1 ((annA now s).1).length (srsC ((annA now s).1)) j.2.2) (λi j=>[j.2.2,j.1.2,[(b, .cells (stC (annQ now s) ⟨v6,v7,j.2.1,v9,v10,w2,v12⟩ now frm va3 vs).toArray 142 (0,0))]]++[i.2.2,ea3,d1,d2,e12,e11,e10,e9,e7,e6]) (.x .any) (λi hi=>?_) (λ_ _ _ _=>trivial) (λ_ j _ _ w M=>by exact⟨j.2.1,M.at_ _ (List.mem_flatten_of_mem (l:=[(b, .cells (stC (annQ now s) ⟨v6,v7,j.2.1,v9,v10,w2,v12⟩ now frm va3 vs).toArray 142 (0,0))]) Q5 (.head _))⟩) ?_
  ·refine ZkY (c:=⟨prog,none,104,[],(((ea::[(b, .cells (stC s ⟨v6,v7,v8,v9,v10,v11,v12⟩ now frm va vs).toArray 142 (0,0))]::(⟨e6,e7,e8,e9,e10,e11,e12⟩:RtE).row):Row).flatten.map (·.1)),W,fldT,slcT,Zbj,Zbi⟩) (fn:=165) (sel:=[[(b, .cells (stC (annQ now s) ⟨v6,v7,v8,v9,v10,w2,v12⟩ now frm va3 vs).toArray 142 (0,0))],e8]) (vs:=[.pointer (some ⟨b,0,none⟩),i.2.1]) (κ:=((Value×EN)×Value×EN)) (λj=>j.1.1) _ (λj=>[j.2.2,j.1.2,[(b, .cells (stC (annQ now s) ⟨v6,v7,j.2.1,v9,v10,w2,v12⟩ now frm va3 vs).toArray 142 (0,0))]]) ?_ ?_ ?_ ?_ ?_
   ·exact .cons (.s (.s (.s (.s (.z))))) (.cons (.s (.s (.s (.s (.s (.s (.s (.s (.z))))))))) .nil)
   ·intro k hk
    simpa using hk
   ·rfl
   ·rfl
   ·exact λw M hW=>Cal.mono (ZrL (annQ now s) ⟨v6,v7,v8,v9,v10,w2,v12⟩ now frm va3 vs b e8 (annV (annQ now s)) (Zf2 hQ2) (Nat.le_trans (ZaV.1 (ZmJ hQ2 hQ1)).1 Q0) hQ2.sr oQ.sr i.2.1 w hW (hi.2.slAt M λq hq=>List.mem_flatten_of_mem Q5 hq) (Zp7 M .z (PkL.cons (.s (.s (.s (.z)))) (.cons (.s (.s (.s (.s (.s (.s (.s (.z)))))))) .nil)) hi.2)) λr w2 h=>by obtain⟨u8,f8,ent,h1,h2,h3⟩:=h;exact⟨((r,ent),u8,f8),rfl,⟨h1,h2⟩,h3⟩
  have hAi:∀x∈(annA now s).2,IsAv x:=λx hx=>Zf2 hQ2 x ((ZgI now s).subset hx)
  refine Zfm (κ:=Value×Value×EN×EN) (λ_ j=> .tuple [.agg (plC j.1 (annU now s).full).toArray,j.2.1, .bool (annU now s).urg, .int .i64 (annU now s).err].toArray) (λ_ j=>OwnS 100 37 j.1 ((annU now s).told).length (avsC ((annU now s).told)) j.2.2.1/\OwnS 100 37 j.2.1 ((annU now s).sent).length (avsC ((annU now s).sent)) j.2.2.2) (λ_ j=>[j.2.2.1,j.2.2.2]) (.x .any) (λf=>rfl) (λ_ _=>rfl) (λi hi w M=>Cal.mono (Zxv s.av (annA now s).2 hs.av hAi v12 i.2.1.1 s.full now w (hO.av.slAt M λq hq=>List.mem_flatten_of_mem Q5 hq) (hi.2.1.slAt M λq hq=>List.mem_flatten_of_mem Q5 hq)) λr w2 h=>by obtain⟨u1,u2,f1,f2,h1,h2,h3,h4⟩:=h;exact⟨(u1,u2,f1,f2),h1,⟨h2,h3⟩,by simpa using h4⟩) (λ_ _ _ _=>trivial) (λi _ _ _ w M=>by exact⟨i.2.2.1,M.at_ _ (List.mem_flatten_of_mem (l:=[(b, .cells (stC (annQ now s) ⟨v6,v7,i.2.2.1,v9,v10,w2,v12⟩ now frm va3 vs).toArray 142 (0,0))]) Q5 (.head _))⟩) ?_
  refine ZeB (λq=> .tuple [.agg (plC q.2.1 (annU now s).full).toArray,q.2.2.1, .bool (annU now s).urg, .int .i64 (annU now s).err].toArray) (.tn 4) (λ_ _=>rfl) (λ_ _ _=>⟨_,rfl,rfl⟩) (λq _ w M=>by exact⟨q.1.2.2.1,M.at_ _ (List.mem_flatten_of_mem (l:=[(b, .cells (stC (annQ now s) ⟨v6,v7,q.1.2.2.1,v9,v10,w2,v12⟩ now frm va3 vs).toArray 142 (0,0))]) Q5 (.head _))⟩) (ZeB (λq=> .agg (plC q.2.1 (annU now s).full).toArray) (.x .any) (λ_ _=>rfl) (λ_ _ _=>trivial) (λq _ w M=>by exact⟨q.1.2.2.1,M.at_ _ (List.mem_flatten_of_mem (l:=[(b, .cells (stC (annQ now s) ⟨v6,v7,q.1.2.2.1,v9,v10,w2,v12⟩ now frm va3 vs).toArray 142 (0,0))]) Q5 (.head _))⟩) (Zio 4 17 (.tail _ (.head _)) Q0 (Zio 4 17 (.tail _ (.head _)) Q0 (Zio 4 17 (.tail _ (.head _)) Q0 (Zwx ?_)))))
  refine Zwv (len:=2) 22 (λq=>plC q.2.1 (annU now s).full) (.head _) (.head _) (by decide) (λ_ _=>rfl) (λ_ _=>rfl) (λq hq=>?_) (λq hq p hp=>?_) rfl (λq _ w M=>by exact⟨q.1.2.2.1,M.at_ _ (List.mem_flatten_of_mem (l:=[(b, .cells (stC (annQ now s) ⟨v6,v7,q.1.2.2.1,v9,v10,w2,v12⟩ now frm va3 vs).toArray 142 (0,0))]) Q5 (.head _))⟩) ?_
  ·simp only[plC,List.all_cons,List.all_nil,Zc7 hq.2.1]
   rfl
  ·obtain⟨r,hr,hpr⟩:=List.mem_flatten.1 hp
   simp only[List.cons_append,List.nil_append,List.mem_cons,List.not_mem_nil,or_false] at hr
   rcases hr with rfl|rfl|rfl|rfl|rfl|rfl|hr
   ·obtain⟨cs,e⟩:=ZkW hq.2.1 p hpr
    exact .inr ⟨cs,_,_,e,by decide⟩
   ·obtain⟨cs,e⟩:=ZkW hq.2.2 p hpr
    exact .inr ⟨cs,_,_,e,by decide⟩
   ·obtain⟨cs,e⟩:=ZkW hq.1.2.2 p hpr
    exact .inr ⟨cs,_,_,e,by decide⟩
   ·obtain⟨cs,e⟩:=ZkW hq.1.2.1 p hpr
    exact .inr ⟨cs,_,_,e,by decide⟩
   ·rw[List.mem_singleton.1 hpr]
    exact .inl (.inl (.head _))
   ·obtain⟨cs,e⟩:=ZkW hq.1.1.2 p hpr
    exact .inr ⟨cs,_,_,e,by decide⟩
   ·exact .inl (.inr (List.mem_flatten_of_mem (l:=r) (by simpa using hr) hpr))
  refine Ztf 19 17 (λq=> .tuple [.agg (plC q.1.2.1 (annU now s).full).toArray,q.1.2.2.1, .bool (annU now s).urg, .int .i64 (annU now s).err].toArray) (λq=>q.1.2.2.1) (λq=>q.1.2.2.1) (.x .any) (.head _) (λ_ _=>rfl) (λ_ _=>rfl) (λ_ _=>rfl) (λ_ _ _=>trivial) (λq _ w M=>by exact⟨q.1.1.2.2.1,M.at_ _ (List.mem_flatten_of_mem (l:=[(b, .cells (stC (annQ now s) ⟨v6,v7,q.1.1.2.2.1,v9,v10,w2,v12⟩ now frm va3 vs).toArray 142 (0,0))]) Q5 (.head _))⟩) ?_
  refine Ztf 20 17 (λq=> .tuple [.agg (plC q.1.2.1 (annU now s).full).toArray,q.1.2.2.1, .bool (annU now s).urg, .int .i64 (annU now s).err].toArray) (λ_=> .bool (annU now s).urg) (λ_=> .bool (annU now s).urg) (.x .any) (.tail _ (.head _)) (λ_ _=>rfl) (λ_ _=>rfl) (λ_ _=>rfl) (λ_ _ _=>trivial) (λq _ w M=>by exact⟨q.1.1.2.2.1,M.at_ _ (List.mem_flatten_of_mem (l:=[(b, .cells (stC (annQ now s) ⟨v6,v7,q.1.1.2.2.1,v9,v10,w2,v12⟩ now frm va3 vs).toArray 142 (0,0))]) Q5 (.head _))⟩) (ZfJ rfl (λi hi=>rfl) (λi hi=>⟨_,rfl,?_⟩))
  obtain⟨⟨⟨⟨_,un,fn⟩,⟨ua,fa⟩,u8,f8⟩,up,us,eu,es⟩,bp⟩:=i
  obtain⟨⟨⟨_,oN⟩,oL,oS⟩,oU1,oU2⟩:=hi
  dsimp only[List.cons_append,List.nil_append] at oN oL oS oU1 oU2⊢
  obtain⟨qs,cs,rfl,hqs⟩:=Zbr oU2
  have hone:(plC up (annU now s).full).all (·.oneCell')=true:=by simp only[plC,List.all_cons,List.all_nil,Zc7 oU1];rfl
  refine W3 [10,0,5] ?_
  refine Zwq 0 rfl rfl (show seg (plC up (annU now s).full) 0 2=some (plC up (annU now s).full) from rfl) ?_
  refine W3 [0,2] ?_
  refine Zdf 5 rfl rfl rfl hone rfl rfl rfl ?_
  refine gQ 10 rfl (Zao (.s (.s (.s (.s (.s (.s (.s (.z)))))))) ?_)
  have hsv:(annU now s).sent.length<=1040:=by rw[hU];exact Nat.le_trans (Zem _ _ _) (by have:=(ZaV.1 (Zfu hs hv hn)).1;have:=(ZaV.1 hv2.2.2.2.2.2.2.2.2.2.2.1).1;omega)
  have hsi:∀x∈(annU now s).sent,IsAv x:=by rw[hU];exact Zme (Zfu hs hv hn) hv2.2.2.2.2.2.2.2.2.2.2.1 hAi hs.av
  refine ZcT 88 87 86 (ZbV hsi) hqs (λi(j:Value×EN)=>OwnS 69 40 j.1 (((al++(((dueR s.rq now).due).map rqN))++(((annU now s).sent.take i).map upN))).length (nosC (((al++(((dueR s.rq now).due).map rqN))++(((annU now s).sent.take i).map upN)))) j.2) (λj=>[(0, .pointer (some ⟨b,0,none⟩))]) (λj=>[j.2,[(bp, .cells (plC up (annU now s).full).toArray 51 (0,0))],eu,es,f8,fa,[(b, .cells (stC (annS now s) ⟨v6,v7,u8,v9,v10,w2,up⟩ now frm j.1 vs).toArray 142 (0,0))],fn,d1,d2,e12,e11,e10,e9,e7,e6]) (_,_) ?_ ?_ ?_
  ·show OwnS _ _ _ _ _ _
   rw[List.take_zero,List.map_nil,List.append_nil]
   exact hN
  ·rintro i ⟨v,ent⟩ y hi hy hym b7 j7 rfl rfl f1 hN
   have yI:=hsi y hym
   have yd:=yI.1
   dsimp only at hN⊢
   have hgl:((al++(((dueR s.rq now).due).map rqN))++(((annU now s).sent.take i).map upN)).length<=3000:=by rw[List.length_append,List.length_append,List.length_map,List.length_map,List.length_take];omega
   have hnx:((al++(((dueR s.rq now).due).map rqN))++(((annU now s).sent.take (i+1)).map upN))=((al++(((dueR s.rq now).due).map rqN))++(((annU now s).sent.take i).map upN))++[upN y]:=by rw[List.take_succ_eq_append_getElem hi,List.map_append,<-List.append_assoc,<-hy];rfl
   have hI2:IsNo (upN y):=yd
   refine W3 [6,0,6,0,0] ?_
   refine Zac λb12=>?_
   refine W3 [0,2] ?_
   refine Zik 1 rfl (gQ 1 rfl (Zil 9 104 8 rfl Q7 (Zaw 2 rfl (fe_v (λa w F M R r=>Zan (F.e rfl) rfl r) (Zaw 1 rfl (Zc1 6 rfl rfl rfl (ZfK 0 rfl rfl (ZjA Qd) ?_)))))))
   refine Zf1 rfl rfl (λw M=>ZrV _ Qd _) ?_
   refine Zln rfl rfl rfl (ZcM Qd) ?_
   refine Zjp 7 rfl hN (.head _) (Zez hI2) Q0 Q0 (Zfk _) (λv2 ent2 hN2=>?_)
   refine W3 [0,1,0,4,0,2] ?_
   exact gR (_,_) (by show OwnS _ _ _ _ _ _;rw[hnx];exact hN2)
  ·rintro⟨va4,ea4⟩ i hi hN
   subst hi
   dsimp only at hN⊢
   rw[List.take_length] at hN
   refine Zao (.s (.s (.s (.s (.z))))) (Zao (.s (.s (.s (.s (.s (.s (.s (.s (.s (.s (.s (.s (.s (.z)))))))))))))) (Zao (.s (.s (.s (.s (.s (.s (.s (.s (.s (.s (.s (.s (.s (.z)))))))))))))) (Zao (.s (.s (.s (.s (.s (.s (.s (.s (.s (.s (.s (.z)))))))))))) (Zao (.s (.s (.s (.s (.s (.s (.z))))))) (Zao (.s (.s (.s (.s (.s (.s (.s (.s (.s (.z)))))))))) (Zao (.s (.s (.s (.s (.s (.s (.z))))))) ?_))))))
   refine W3 [6,0,2,0,1] ?_
   exact Zmr rfl rfl λw M=>⟨rfl,⟨v6,v7,u8,v9,v10,w2,up⟩,⟨e6,e7,f8,e9,e10,d2,eu⟩,_,_,⟨oQ.og,oQ.aj,oS,oQ.ro,oQ.ins,oQ.rq,oU1⟩,hN,M.sub (subO (List.Sublist.cons_cons _ (List.Sublist.cons_cons _ (List.Sublist.cons_cons _ (List.Sublist.cons_cons _ (List.Sublist.cons_cons _ (List.Sublist.cons_cons _ (List.Sublist.cons_cons _ (List.Sublist.cons _ (List.Sublist.cons _ (List.Sublist.cons _ (List.Sublist.cons _ (List.Sublist.cons _ (List.Sublist.cons _ (List.Sublist.cons _ (List.Sublist.cons_cons _ (List.Sublist.cons_cons _ (List.Sublist.refl _))))))))))))))))))⟩
theorem ZnI{al:List NotV}(hv:Zaj s=true)(h:al.length<=512):(helV now s al).2.length<=529:=by
 have:=(senH hv).2
 unfold helV
 split<;>simp[greV]<;>omega
theorem vAs{p:Prop}(h:p:=by
  exact gJ () trivial rfl (List.Sublist.cons_cons _ (List.Sublist.cons_cons _ (List.Sublist.cons_cons _ (List.Sublist.cons_cons _ (List.Sublist.cons_cons _ (List.Sublist.cons_cons _ (List.Sublist.cons_cons _ (List.Sublist.cons_cons _ (List.Sublist.cons_cons _ (List.Sublist.cons _ (List.Sublist.refl _)))))))))))):p:=h
theorem Zj0(s:RtV)(x:RtX)(now:Int)(hs:IsRt s)(hq:Sq16 s.rq)(W:World)(hX:RtAt W s x):Cal prog 22 [.agg (rtC s x).toArray, .int .i64 now].toArray W λr w'=>PhTk now s r W w':=by
 refine yS (n:=72) Tryz.func22 rfl rfl ?_
 cases hv:Zaj s
 ·refine gQ 2 rfl ?_
  refine Zai rfl rfl λb2=>Zac λb4=>?_
  refine W4 [7,0,0,3,0,2,0,0,6] @Zes ?_
  exact ZfV 0 rfl rfl rfl rfl rfl rfl rfl λw M=>PhTk.v1 hv M.ext
 cases hn:Zag now
 ·refine gQ 2 rfl ?_
  refine Zai rfl rfl λb2=>Zac λb4=>?_
  refine W4 [7,0,0,3,0,6,0,3,0,2,0,0,6] (T2 @Zes @Zc9) ?_
  exact ZfV 0 rfl rfl rfl rfl rfl rfl rfl λw M=>PhTk.v2 hv hn M.ext
 have hsm:=Zsf hv
 have hvA:=ZbT hv
 obtain⟨hn0,hn1⟩:=Zbt hn
 obtain⟨hr0,hr1⟩:=Zbt hvA.2.1
 refine gQ 2 rfl (Zai rfl rfl λb2=>Zac λb4=>?_)
 refine W4 [7,0,0,3,0,6,0,3,0,4,0,1] (T2 @Zes @Zc9) ?_
 refine ZaU (ι:=Nat×RtX×RtE) (λj=> .pointer (some ⟨j.1,0,none⟩)) (λj=>RtOw s j.2.1 j.2.2) (λj=>[(j.1, .cells (stC s j.2.1 now 0 (.slice none 0 0) (.slice none 0 0)).toArray 142 (0,0))]::j.2.2.row) rfl rfl (λw M=>Cal.mono (ZrG s x now 0 hsm w (hX.later M.ext)) λr w2 h=>by obtain⟨b,y,e,h1,h2,h3⟩:=h;exact⟨(b,y,e),h1,h2,h3⟩) ?_
 rintro⟨bs,⟨v6,v7,v8,v9,v10,v11,v12⟩,⟨e6,e7,e8,e9,e10,e11,e12⟩⟩ oC
 dsimp only[RtE.row,List.cons_append,List.nil_append] at oC⊢
 refine gQ 4 rfl (Zc0 (ι:=Unit) ⟨λ_=>True,λ_=>[(1, .int .i64 now),(4, .pointer (some ⟨b4,0,none⟩)),(7, .pointer (some ⟨bs,0,none⟩))],λ_=>[[(bs, .cells (stC (raiV now s) ⟨v6,v7,v8,v9,v10,v11,v12⟩ now 0 (.slice none 0 0) (.slice none 0 0)).toArray 142 (0,0))],e12,e11,e10,e9,e8,e7,e6,[(b4, .cells rtZ.toArray 53 (0,0))]]⟩ ?_ ?_)
 ·have o6:=oC.og
  by_cases c1:0<s.og.length
  ·by_cases c2:s.raised+8<=now
   ·have e1:raiV now s= {s with seq:=IntKind.u16.wrap (s.seq+1),raised:=now}:=if_pos ⟨c1,c2⟩
    rw[e1]
    refine W3 [3,0,2,0,0,2,0,2,0,2,0,0,4,0,3,0,2,0,0,0,2,0,5,0,2,0,1] ?_
    exact vAs
   ·have e1:raiV now s=s:=if_neg λh=>c2 h.2
    rw[e1]
    refine W3 [3,0,2,0,0,2,0,2,0,2,0,0,4,0,1] ?_
    exact vAs
  ·have e1:raiV now s=s:=if_neg λh=>c1 h.1
   rw[e1]
   refine W3 [3,0,2,0,0,2,0,13] ?_
   exact vAs
 rintro⟨⟩-
 dsimp only
 have oR:=Zt1 (now:=now) oC
 have hB1:=Zng hv hn
 have hB2:=ZkP (now:=now) hs
 have hB3:=Zt0 (now:=now) hq
 refine Zba (gQ 4 rfl ?_)
 refine ZfY (ι:=RtX×RtE×Value×EN) (λ_=> .tuple #[]) (λj=>RtOw (tk1 now s).1 j.1 j.2.1/\OwnS 69 40 j.2.2.1 ((tk1 now s).2).length (nosC ((tk1 now s).2)) j.2.2.2) (λj=>j.2.2.2::[(bs, .cells (stC (tk1 now s).1 j.1 now 0 j.2.2.1 (.slice none 0 0)).toArray 142 (0,0))]::j.2.1.row) (.cons .z (.cons .z (.cons .z (.cons .z (.cons .z (.cons .z (.cons .z (.cons .z (.cons .z .nil))))))))) rfl rfl (λw M hH2=>Cal.mono (ZmZ (raiV now s) _ now 0 (.slice none 0 0) (.slice none 0 0) bs [] [] ⟨e6,e7,e8,e9,e10,e11,e12⟩ hB2 hB1 hB3 Q5 hn (OwnS.nilL _ _ _) oR w hH2) λr w2 h=>by obtain⟨h0,y,e,va,ea,h1,h2,h3⟩:=h;exact⟨(y,e,va,ea),h0,⟨h1,h2⟩,h3⟩) ?_
 clear oC oR
 rintro⟨⟨v6,v7,v8,v9,v10,v11,v12⟩,⟨e6,e7,e8,e9,e10,e11,e12⟩,va,ea⟩ ⟨oT,oA⟩
 have hl1:=ZlC hs hv hq hn
 obtain⟨hT1,hT2⟩:=ZmW hs hv hq hn
 obtain⟨s1,hs1⟩:∃s1,s1=(tk1 now s).1:=⟨_,rfl⟩
 obtain⟨a1,ha1⟩:∃a1,a1=(tk1 now s).2:=⟨_,rfl⟩
 dsimp only[RtE.row,List.cons_append,List.nil_append] at oT oA⊢
 rw[<-hs1] at oT hT1 hT2⊢
 rw[<-ha1] at oA hl1
 refine gQ 3 rfl (Zc0 (ι:=Value×EN) ⟨λj=>OwnS 69 40 j.1 ((helV now s1 a1).2).length (nosC ((helV now s1 a1).2)) j.2,λj=>[(1, .int .i64 now),(4, .pointer (some ⟨b4,0,none⟩)),(7, .pointer (some ⟨bs,0,none⟩))],λj=>[j.2,[(bs, .cells (stC (helV now s1 a1).1 ⟨v6,v7,v8,v9,v10,v11,v12⟩ now 0 j.1 (.slice none 0 0)).toArray 142 (0,0))],e12,e11,e10,e9,e8,e7,e6,[(b4, .cells rtZ.toArray 53 (0,0))]]⟩ ?_ ?_)
 ·by_cases c1:s1.nextH<=now
  ·have e1:helV now s1 a1=(greS s1 now,greV s1 a1):=if_pos c1
   rw[e1]
   refine W3 [4,0,2,0,3,0,2] ?_
   refine ZfY (ι:=Value×EN) (λ_=> .tuple #[]) (λj=>OwnS 69 40 j.1 ((greV s1 a1)).length (nosC ((greV s1 a1))) j.2) (λj=>[j.2,[(bs, .cells (stC (greS s1 now) ⟨v6,v7,v8,v9,v10,v11,v12⟩ now 0 j.1 (.slice none 0 0)).toArray 142 (0,0))],e7]) (.cons .z (.cons .z (.cons (.s (.s (.s (.s (.s .z))))) .nil))) rfl rfl (λw M hH2=>Cal.mono (Zwl s1 ⟨v6,v7,v8,v9,v10,v11,v12⟩ now 0 va (.slice none 0 0) bs a1 ea e7 hT2.aj hT2.q (senH hT1).2 Q0 hn oA oT.aj w hH2) λr w2 h=>by obtain⟨va2,ea2,h1,h2,h3⟩:=h;exact⟨(va2,ea2),h1,h2,h3⟩) ?_
   rintro⟨va2,ea2⟩ oA2
   dsimp only[List.cons_append,List.nil_append] at oA2⊢
   exact Zao (.s (.s (.s (.s (.s (.s (.s (.z)))))))) (Zao (.s (.s (.s (.s (.s (.s (.s (.z)))))))) (Zao (.s (.s (.s (.s (.s (.s (.s (.z)))))))) (Zao (.s (.s (.s (.s (.s (.s (.s (.z)))))))) (Zao (.s (.s (.s (.s (.s (.s (.s (.z)))))))) (Zao (.s (.s (.s (.s (.s (.s (.z))))))) (Zao (.s (.s (.s (.s (.s (.s (.z))))))) (gQ 1 rfl (gJ (_,_) oA2 rfl (List.Sublist.refl _)))))))))
  ·have e1:helV now s1 a1=(s1,a1):=if_neg c1
   rw[e1]
   refine W3 [4,0,2,0,3,0,1] ?_
   exact gJ (_,_) oA rfl (List.Sublist.refl _)
 rintro⟨va2,ea2⟩ oA2
 dsimp only at oA2⊢
 have oH:=Zun (now:=now) (al:=a1) oT
 have hH1:=ZqX (al:=a1) hT1 hn
 have hH2:=ZqW (now:=now) (al:=a1) hT2
 have hl2:=ZnI (now:=now) hT1 hl1
 have htk:ZbF now s=annT now (helV now s1 a1):=by rw[hs1,ha1];rfl
 clear hq hX hsm hvA hr0 hr1 oT oA hT1 hT2 hl1
 obtain⟨st,hst⟩:∃st,st=helV now s1 a1:=⟨_,rfl⟩
 rw[<-hst] at oA2 oH hH1 hH2 hl2 htk⊢
 clear hst hs1 ha1
 refine gQ 2 rfl (Zc0 (ι:=RtX×RtE×Value×EN) ⟨λj=>RtOw (annT now st).1 j.1 j.2.1/\OwnS 69 40 j.2.2.1 ((annT now st).2).length (nosC ((annT now st).2)) j.2.2.2,λj=>[(1, .int .i64 now),(4, .pointer (some ⟨b4,0,none⟩)),(7, .pointer (some ⟨bs,0,none⟩))],λj=>[j.2.2.2,[(bs, .cells (stC (annT now st).1 j.1 now 0 j.2.2.1 (.slice none 0 0)).toArray 142 (0,0))],j.2.1.av,j.2.1.rq,j.2.1.ins,j.2.1.ro,j.2.1.sr,j.2.1.aj,j.2.1.og,[(b4, .cells rtZ.toArray 53 (0,0))]]⟩ ?_ ?_)
 ·by_cases c4:now<st.1.quiet
  ·have e4:annT now st=st:=if_pos c4
   rw[e4]
   have c5:decide (now<st.1.quiet)=true:=dqT c4
   refine gQ 3 rfl ?_
   refine Zb6 (v:= .bool true) rfl rfl (λw M=>by rw[<-c5];exact ZjJ st.1 ⟨v6,v7,v8,v9,v10,v11,v12⟩ now 0 va2 (.slice none 0 0) bs w (M.at_ _ (Zak (i:=1) rfl))) ?_
   exact gQ 5 rfl (gJ (⟨v6,v7,v8,v9,v10,v11,v12⟩,⟨e6,e7,e8,e9,e10,e11,e12⟩,va2,ea2) ⟨oH,oA2⟩)
  ·have e4:annT now st=(annS now st.1,annN now st.1 st.2):=if_neg c4
   rw[e4]
   have c5:decide (now<st.1.quiet)=false:=dqF c4
   refine gQ 3 rfl ?_
   refine Zb6 (v:= .bool false) rfl rfl (λw M=>by rw[<-c5];exact ZjJ st.1 ⟨v6,v7,v8,v9,v10,v11,v12⟩ now 0 va2 (.slice none 0 0) bs w (M.at_ _ (Zak (i:=1) rfl))) ?_
   refine gQ 6 rfl ?_
   refine ZfY (ι:=RtX×RtE×Value×EN) (λ_=> .tuple #[]) (λj=>RtOw (annS now st.1) j.1 j.2.1/\OwnS 69 40 j.2.2.1 ((annN now st.1 st.2)).length (nosC ((annN now st.1 st.2))) j.2.2.2) (λj=>j.2.2.2::[(bs, .cells (stC (annS now st.1) j.1 now 0 j.2.2.1 (.slice none 0 0)).toArray 142 (0,0))]::j.2.1.row) (.cons .z (.cons .z (.cons .z (.cons .z (.cons .z (.cons .z (.cons .z (.cons .z (.cons .z .nil))))))))) rfl rfl (λw M hW=>Cal.mono (ZoX st.1 _ now 0 va2 (.slice none 0 0) bs st.2 ea2 ⟨e6,e7,e8,e9,e10,e11,e12⟩ hH2 hH1 Q0 hn oA2 oH w hW) λr w2 h=>by obtain⟨h0,y,e,va,ea,h1,h2,h3⟩:=h;exact⟨(y,e,va,ea),h0,⟨h1,h2⟩,h3⟩) ?_
   rintro⟨⟨v6,v7,v8,v9,v10,v11,v12⟩,⟨e6,e7,e8,e9,e10,e11,e12⟩,va3,ea3⟩ ⟨oF,oA3⟩
   dsimp only[RtE.row,List.cons_append,List.nil_append] at oF oA3⊢
   exact gQ 1 rfl (gJ (⟨v6,v7,v8,v9,v10,v11,v12⟩,⟨e6,e7,e8,e9,e10,e11,e12⟩,va3,ea3) ⟨oF,oA3⟩)
 rintro⟨⟨v6,v7,v8,v9,v10,v11,v12⟩,⟨e6,e7,e8,e9,e10,e11,e12⟩,va4,ea4⟩ ⟨oF,oA4⟩
 dsimp only at oF oA4⊢
 rw[<-htk] at oF oA4⊢
 have hal:(ZbF now s).2.length<=100000:=by rw[htk];exact Zkz hl2 hH2 hH1 hn
 obtain⟨qv,cv,rfl,_⟩:=Zbr oA4
 refine W3 [2] ?_
 refine Zms 6 72 [5] rfl Q7 (Zaw 1 rfl (fe_v (λa w F M R r=>Zan (F.e rfl) rfl r) (Zaw 1 rfl (ZfK 1 rfl rfl rfl (Zaw 1 rfl (Zir (λf=>rfl) (λ_ _=>rfl) (λ_ _ w M=>Zpr (ZbF now s).1 _ now 0 _ (ZbF now s).2 bs hal ⟨qv,cv,rfl⟩ w (M.at_ _ (Zak (i:=1) rfl))) (Zf0 rfl rfl (λi hi=>rfl) (λi hi=>?_))))))))
 obtain⟨_,uj,ej⟩:=i
 obtain⟨_,oJ⟩:=hi
 dsimp only at oJ⊢
 skip
 refine Zdf 10 rfl rfl rfl oF.one rfl rfl rfl ?_
 exact gQ 5 rfl (ZfV 10 rfl rfl rfl rfl rfl rfl rfl λw M=>PhTk.v0 hv hn ⟨_,⟨e6,e7,e8,e9,e10,e11,e12⟩,_,_,_,_,rfl,oF,oA4,oJ,M.sub (subO (.cons_cons _ (.cons_cons _ (.cons _ (.cons_cons _ (.cons_cons _ (.cons_cons _ (.cons_cons _ (.cons_cons _ (.cons_cons _ (.cons_cons _ (List.nil_sublist _))))))))))))⟩)
theorem ZwK(l:List AdjV)(hx:∀x∈l,IsAj x)(hlen:l.length<=100000)(u v:Value)(W:World)(hu:SlAt W 8 u l.length (ajsC l))(hv:SlAt W 8 v l.length (ajsC l)):
  Cal prog 95 [u,v].toArray W λr w'=>r= .bool true/\Ext [] W w':=by
 obtain⟨q1,cap1,rfl,_⟩:=id hu
 obtain⟨q2,cap2,rfl,_⟩:=id hv
 have hm1:=hu.memB [] Q5
 have hm2:=hv.memB [] Q5
 refine yS (n:=26) Tryz.func95 rfl rfl ?_
 refine W3 [15,0,11] ?_
 refine Zau (ι:=Nat) ⟨λ(i:Nat)=>l.length-i,λ(i:Nat)=>i<=l.length/\(True),λ(i:Nat)=>[(13, .int .i64 i),(12, .int .i64 l.length),(0, .slice q1 l.length cap1),(1, .slice q2 l.length cap2)],λ(i:Nat)=>[]⟩ 0 ⟨Q0,trivial⟩ (λa F=>F.only [13,12,0,1] rfl) Qa ?_
 rintro i ⟨hi_i,hdm⟩
 by_cases hlt_i:i<l.length
 ·obtain⟨b,o,cs,t',fz,rfl,hb,hs⟩:=hm1 Q0
  obtain⟨x,hx0⟩:∃x,x=l[i]:=⟨_,rfl⟩
  have hxm:x∈l:=by rw[hx0];exact List.getElem_mem hlt_i
  have hxi:IsAj x:=hx _ hxm
  have f1:seg cs (o+(i:Int).toNat*8) 8=some (ajC x):=by rw[hx0];exact Zal (ZdI hx) hs hlt_i Q0
  obtain⟨b',o',cs',t2,fz',rfl,hb',hs'⟩:=hm2 Q0
  have f2:seg cs' (o'+(i:Int).toNat*8) 8=some (ajC x):=by rw[hx0];exact Zal (ZdI hx) hs' hlt_i Q0
  have f3:ZaZ ajK (ajC x)=true:=ZmN hxi
  have f4:eqVs (ajC x) (ajC x)=true:=by rw[ZzI hxi hxi];simp
  refine W3 [6,0,11,1009,2,0,0,2,0,0] ?_
  refine Zlo rfl rfl (ZmN Qd) (ZmN Qd) (ZzI Qd Qd) ?_
  exact vAc
 ·refine W3 [6,0,2,0,8] ?_
  exact vA5
theorem ZwH(l:List SrcV)(hx:∀x∈l,IsSr x)(hlen:l.length<=100000)(u v:Value)(W:World)(hu:SlAt W 38 u l.length (srsC l))(hv:SlAt W 38 v l.length (srsC l)):
  Cal prog 96 [u,v].toArray W λr w'=>r= .bool true/\Ext [] W w':=by
 obtain⟨q1,cap1,rfl,_⟩:=id hu
 obtain⟨q2,cap2,rfl,_⟩:=id hv
 have hm1:=hu.memB [] Q5
 have hm2:=hv.memB [] Q5
 refine yS (n:=26) Tryz.func96 rfl rfl ?_
 refine W3 [15,0,11] ?_
 refine Zau (ι:=Nat) ⟨λ(i:Nat)=>l.length-i,λ(i:Nat)=>i<=l.length/\(True),λ(i:Nat)=>[(13, .int .i64 i),(12, .int .i64 l.length),(0, .slice q1 l.length cap1),(1, .slice q2 l.length cap2)],λ(i:Nat)=>[]⟩ 0 ⟨Q0,trivial⟩ (λa F=>F.only [13,12,0,1] rfl) Qa ?_
 rintro i ⟨hi_i,hdm⟩
 by_cases hlt_i:i<l.length
 ·obtain⟨b,o,cs,t',fz,rfl,hb,hs⟩:=hm1 Q0
  obtain⟨x,hx0⟩:∃x,x=l[i]:=⟨_,rfl⟩
  have hxm:x∈l:=by rw[hx0];exact List.getElem_mem hlt_i
  have hxi:IsSr x:=hx _ hxm
  have f1:seg cs (o+(i:Int).toNat*38) 38=some (srC x):=by rw[hx0];exact Zal (ZbN hx) hs hlt_i Q0
  obtain⟨b',o',cs',t2,fz',rfl,hb',hs'⟩:=hm2 Q0
  have f2:seg cs' (o'+(i:Int).toNat*38) 38=some (srC x):=by rw[hx0];exact Zal (ZbN hx) hs' hlt_i Q0
  have f3:ZaZ srK (srC x)=true:=ZlH hxi
  have f4:eqVs (srC x) (srC x)=true:=by rw[ZxA hxi hxi];simp
  refine W3 [6,0,11,1009,2,0,0,2,0,0] ?_
  refine Zlo rfl rfl (ZlH Qd) (ZlH Qd) (ZxA Qd Qd) ?_
  exact vAc
 ·refine W3 [6,0,2,0,8] ?_
  exact vA5
theorem ZwI(l:List ReqV)(hx:∀x∈l,IsRq x)(hlen:l.length<=100000)(u v:Value)(W:World)(hu:SlAt W 40 u l.length (rqsC l))(hv:SlAt W 40 v l.length (rqsC l)):
  Cal prog 99 [u,v].toArray W λr w'=>r= .bool true/\Ext [] W w':=by
 obtain⟨q1,cap1,rfl,_⟩:=id hu
 obtain⟨q2,cap2,rfl,_⟩:=id hv
 have hm1:=hu.memB [] Q5
 have hm2:=hv.memB [] Q5
 refine yS (n:=26) Tryz.func99 rfl rfl ?_
 refine W3 [15,0,11] ?_
 refine Zau (ι:=Nat) ⟨λ(i:Nat)=>l.length-i,λ(i:Nat)=>i<=l.length/\(True),λ(i:Nat)=>[(13, .int .i64 i),(12, .int .i64 l.length),(0, .slice q1 l.length cap1),(1, .slice q2 l.length cap2)],λ(i:Nat)=>[]⟩ 0 ⟨Q0,trivial⟩ (λa F=>F.only [13,12,0,1] rfl) Qa ?_
 rintro i ⟨hi_i,hdm⟩
 by_cases hlt_i:i<l.length
 ·obtain⟨b,o,cs,t',fz,rfl,hb,hs⟩:=hm1 Q0
  obtain⟨x,hx0⟩:∃x,x=l[i]:=⟨_,rfl⟩
  have hxm:x∈l:=by rw[hx0];exact List.getElem_mem hlt_i
  have hxi:IsRq x:=hx _ hxm
  have f1:seg cs (o+(i:Int).toNat*40) 40=some (rqC x):=by rw[hx0];exact Zal (ZbB hx) hs hlt_i Q0
  obtain⟨b',o',cs',t2,fz',rfl,hb',hs'⟩:=hm2 Q0
  have f2:seg cs' (o'+(i:Int).toNat*40) 40=some (rqC x):=by rw[hx0];exact Zal (ZbB hx) hs' hlt_i Q0
  have f3:ZaZ rqK (rqC x)=true:=ZlW hxi
  have f4:eqVs (rqC x) (rqC x)=true:=by rw[ZxR hxi hxi];simp
  refine W3 [6,0,11,1009,2,0,0,2,0,0] ?_
  refine Zlo rfl rfl (ZlW Qd) (ZlW Qd) (ZxR Qd Qd) ?_
  exact vAc
 ·refine W3 [6,0,2,0,8] ?_
  exact vA5
theorem ZwJ(l:List NotV)(hx:∀x∈l,IsNo x)(hlen:l.length<=100000)(u v:Value)(W:World)(hu:SlAt W 40 u l.length (nosC l))(hv:SlAt W 40 v l.length (nosC l)):
  Cal prog 292 [u,v].toArray W λr w'=>r= .bool true/\Ext [] W w':=by
 obtain⟨q1,cap1,rfl,_⟩:=id hu
 obtain⟨q2,cap2,rfl,_⟩:=id hv
 have hm1:=hu.memB [] Q5
 have hm2:=hv.memB [] Q5
 refine yS (n:=26) Tryz.func292 rfl rfl ?_
 refine W3 [15,0,11] ?_
 refine Zau (ι:=Nat) ⟨λ(i:Nat)=>l.length-i,λ(i:Nat)=>i<=l.length/\(True),λ(i:Nat)=>[(13, .int .i64 i),(12, .int .i64 l.length),(0, .slice q1 l.length cap1),(1, .slice q2 l.length cap2)],λ(i:Nat)=>[]⟩ 0 ⟨Q0,trivial⟩ (λa F=>F.only [13,12,0,1] rfl) Qa ?_
 rintro i ⟨hi_i,hdm⟩
 by_cases hlt_i:i<l.length
 ·obtain⟨b,o,cs,t',fz,rfl,hb,hs⟩:=hm1 Q0
  obtain⟨x,hx0⟩:∃x,x=l[i]:=⟨_,rfl⟩
  have hxm:x∈l:=by rw[hx0];exact List.getElem_mem hlt_i
  have hxi:IsNo x:=hx _ hxm
  have f1:seg cs (o+(i:Int).toNat*40) 40=some (noC x):=by rw[hx0];exact Zal (ZjZ hx) hs hlt_i Q0
  obtain⟨b',o',cs',t2,fz',rfl,hb',hs'⟩:=hm2 Q0
  have f2:seg cs' (o'+(i:Int).toNat*40) 40=some (noC x):=by rw[hx0];exact Zal (ZjZ hx) hs' hlt_i Q0
  have f3:ZaZ noK (noC x)=true:=Zma hxi
  have f4:eqVs (noC x) (noC x)=true:=by rw[ZyD hxi hxi];simp
  refine W3 [6,0,11,1009,2,0,0,2,0,0] ?_
  refine Zlo rfl rfl (Zma Qd) (Zma Qd) (ZyD Qd Qd) ?_
  exact vAc
 ·refine W3 [6,0,2,0,8] ?_
  exact vA5
theorem ZkI(s:RtV)(hs:IsRt s)(hsm:RtSm s)(x y:RtX)(W:World)(h:RtAt W s x)(k:RtAt W s y):Cal prog 33 [.agg (rtC s x).toArray, .agg (rtC s y).toArray].toArray W λr w'=>r= .bool true/\Ext [] W w':=by
 obtain⟨v6,v7,v8,v9,v10,v11,v12⟩:=x
 obtain⟨u6,u7,u8,u9,u10,u11,u12⟩:=y
 obtain⟨a6,a7,a8,a9,a10,a11,a12⟩:=h
 obtain⟨b6,b7,b8,b9,b10,b11,b12⟩:=k
 dsimp only at a6 a7 a8 a9 a10 a11 a12 b6 b7 b8 b9 b10 b11 b12
 obtain⟨i1,i2,i3,i4,i5,i6,i7,i8⟩:=hs
 obtain⟨l1,l2,l3,l4,l5,l6,l7⟩:=hsm
 obtain⟨q6,c6,rfl,_⟩:=id a6
 obtain⟨q7,c7,rfl,_⟩:=id a7
 obtain⟨q8,c8,rfl,_⟩:=id a8
 obtain⟨q9,c9,rfl,_⟩:=id a9
 obtain⟨q10,c10,rfl,_⟩:=id a10
 obtain⟨q11,c11,rfl,_⟩:=id a11
 obtain⟨q12,c12,rfl,_⟩:=id a12
 obtain⟨r6,d6,rfl,_⟩:=id b6
 obtain⟨r7,d7,rfl,_⟩:=id b7
 obtain⟨r8,d8,rfl,_⟩:=id b8
 obtain⟨r9,d9,rfl,_⟩:=id b9
 obtain⟨r10,d10,rfl,_⟩:=id b10
 obtain⟨r11,d11,rfl,_⟩:=id b11
 obtain⟨r12,d12,rfl,_⟩:=id b12
 refine yS (n:=94) Tryz.func33 rfl rfl (gQ 2 rfl (Zai rfl rfl λb2=>Zai rfl rfl λb3=>?_))
 refine W4 [6,0,1,0,2,0,1,0,1,0,3,0,1,0,1,0,3,0,1,0,1,0,3,0,1,0,1,0,3,0,1,0,1,0,3,0,1,0,1,0,0,3,0,1,0,0,3,0,1,0,0,3,0,1,0,0,3,0,1,0,0,3,0,1,0] (T5 @Zzb @ZwK @ZwH @Ztl @Ztm) ?_
 refine W4 [0,3,0,1,0,0,5] (T2 @ZwI @Zok) ?_
 exact vA5
theorem Zsd(l:List NotV)(hx:∀x∈l,IsNo x)(hlen:l.length<=100000)(u v:Value)(W:World)(hu:SlAt W 40 u l.length (nosC l))(hv:SlAt W 40 v l.length (nosC l)):Cal prog 214 [.agg [.int .u64 0,u].toArray, .agg [.int .u64 0,v].toArray].toArray W λr w'=>r= .bool true/\Ext [] W w':=by
 obtain⟨q1,c1,rfl,_⟩:=id hu
 obtain⟨q2,c2,rfl,_⟩:=id hv
 refine yS (n:=17) Tryz.func214 rfl rfl (gQ 2 rfl (Zai rfl rfl λb2=>Zai rfl rfl λb3=>?_))
 refine W4 [6,0,1,0,3,0,1,0,0,5] @ZwJ ?_
 exact vA5
theorem Zza(l:List NotV)(hx:∀x∈l,IsNo x)(hlen:l.length<=100000)(va vb u v:Value)(W:World)(hA:SlAt W 40 va l.length (nosC l))(hB:SlAt W 40 vb l.length (nosC l))(hu:SlAt W 2 u (sdn l.length) (sdC l.length va))(hv:SlAt W 2 v (sdn l.length) (sdC l.length vb)):Cal prog 213 [u,v, .func (.func 214) #[] #[]].toArray W λr w'=>r= .bool true/\Ext [] W w':=by
 by_cases h0:0<l.length
 ·have e1:sdn l.length=1:=if_pos h0
  have e2:∀z,sdC l.length z=[.int .u64 0,z]:=λz=>if_pos h0
  rw[e1,e2] at hu hv
  have o1:va.oneCell'=true:=by obtain⟨q,c,rfl,_⟩:=id hA;rfl
  have o2:vb.oneCell'=true:=by obtain⟨q,c,rfl,_⟩:=id hB;rfl
  obtain⟨q1,c1,rfl,_⟩:=id hu
  obtain⟨q2,c2,rfl,_⟩:=id hv
  have hm1:=hu.memB [] Q5
  have hm2:=hv.memB [] Q5
  obtain⟨b,o,cs,t',fz,rfl,hb,hs⟩:=hm1 Q0
  obtain⟨b',o',cs',t2,fz',rfl,hb',hs'⟩:=hm2 Q0
  refine yS (n:=32) Tryz.func213 rfl rfl (gQ 27 rfl (Zau (ι:=Nat) ⟨λ(i:Nat)=>1-i,λ(i:Nat)=>i<=1,λ(i:Nat)=>[(17, .int .i64 i),(16, .int .i64 1),(15, .slice (some ⟨b,o,none⟩) 1 c1),(1, .slice (some ⟨b',o',none⟩) 1 c2),(2, .func (.func 214) #[] #[])],λ(i:Nat)=>[]⟩ 0 Q5 (λa F=>F.only [17,16,15,1,2] rfl) Qa ?_))
  intro i hi
  by_cases h1:i<1
  ·obtain rfl:i=0:=by omega
   have f1:seg cs (o+((0:Nat):Int).toNat*2) 2=some [.int .u64 0,va]:=by simpa using hs
   have f2:seg cs' (o'+((0:Nat):Int).toNat*2) 2=some [.int .u64 0,vb]:=by simpa using hs'
   have n1:([.int .u64 0,va]:List Value).all (·.oneCell')=true:=by simp only[List.all_cons,List.all_nil,o1];rfl
   have n2:([.int .u64 0,vb]:List Value).all (·.oneCell')=true:=by simp only[List.all_cons,List.all_nil,o2];rfl
   refine W3 [14,0,0] ?_
   refine Zac λb8=>gQ 1 rfl ?_
   refine Zdf 0 rfl rfl rfl n1 rfl rfl rfl ?_
   refine W3 [6,0,0] ?_
   refine Zac λb9=>?_
   refine Zdf 0 rfl rfl rfl n2 rfl rfl rfl ?_
   refine W4 [5,0,0,0,8,0,2] @Zsd ?_
   exact Zgz 1 Q5 Q5 (λa F=>F.only [17,16,15,1,2] rfl) Qb
  ·obtain rfl:i=1:=by omega
   refine W3 [9,0,8] ?_
   exact vA5
 ·have e1:sdn l.length=0:=if_neg h0
  have e2:∀z,sdC l.length z=[]:=λz=>if_neg h0
  rw[e1,e2] at hu hv
  obtain⟨q1,c1,rfl,_⟩:=id hu
  obtain⟨q2,c2,rfl,_⟩:=id hv
  refine yS (n:=32) Tryz.func213 rfl rfl (gQ 27 rfl (Zau (ι:=Nat) ⟨λ(i:Nat)=>0,λ(i:Nat)=>i=0,λ(i:Nat)=>[(17, .int .i64 i),(16, .int .i64 0),(15, .slice q1 0 c1),(1, .slice q2 0 c2),(2, .func (.func 214) #[] #[])],λ(i:Nat)=>[]⟩ 0 rfl (λa F=>F.only [17,16,15,1,2] rfl) Qa ?_))
  rintro i rfl
  refine W3 [9,0,8] ?_
  exact vA5
theorem Zm6(l:List NotV)(hx:∀x∈l,IsNo x)(hlen:l.length<=100000)(va vb u v:Value)(W:World)(hA:SlAt W 40 va l.length (nosC l))(hB:SlAt W 40 vb l.length (nosC l))(hu:SlAt W 2 u (sdn l.length) (sdC l.length va))(hv:SlAt W 2 v (sdn l.length) (sdC l.length vb)):Cal prog 123 [u,v].toArray W λr w'=>r= .bool true/\Ext [] W w':=by
 exact yS (n:=8) Tryz.func123 rfl rfl (gQ 9 rfl (Zb6 (v:= .bool true) rfl rfl (λw M=>Zza l hx hlen va vb u v w (hA.later M.ext) (hB.later M.ext) (hu.later M.ext) (hv.later M.ext)) (gQ 4 rfl (Zae rfl rfl rfl λw M=>⟨rfl,M.ext⟩))))
theorem ZtP{now:Int}{sr:List SrcV}:∀(ts:List DstV)(st:List ReqV×List NotV),(∀t∈ts,IsDv t)->(∀x∈st.2,IsNo x)->∀x∈(ts.foldl (stvS now sr) st).2,IsNo x
 |[],st,_,h=>h
 |t::ts,st,ht,h=>by
  rw[List.foldl_cons]
  refine ZtP ts _ (λx hx=>ht x (List.mem_cons_of_mem _ hx)) ?_
  have td:=ht t List.mem_cons_self
  unfold stvS
  split
  ·exact h
  ·split
   ·dsimp only
    split
    ·intro x hx
     rcases List.mem_append.1 hx with k|k
     ·exact h x k
     ·rw[List.mem_singleton.1 k];exact td
    ·exact h
   ·exact h
theorem ZxD{al:List NotV}(hs:IsRt s)(h:∀x∈al,IsNo x):∀x∈(setV now s al).2,IsNo x:=by
 show∀x∈(setD now s al).2,IsNo x
 unfold setD
 split
 ·exact h
 ·exact ZtP _ _ (Zfy (ZgO (now:=now) hs).ro).1 h
theorem ZuY(hs:IsRt s)(hv:Zaj s=true)(hq:Sq16 s.rq)(hn:Zag now=true):∀x∈(ZbF now s).2,IsNo x:=by
 obtain⟨h1,h2⟩:=ZmV hs hv hq hn
 have k1:∀x∈(tk1 now s).2,IsNo x:=ZxD (ZkP hs) Q5
 have k2:∀x∈(tk2 now s).2,IsNo x:=by
  unfold tk2 helV
  split
  ·intro x hx
   rcases List.mem_append.1 hx with k|k
   ·rcases List.mem_append.1 k with k|k
    ·exact k1 x k
    ·rw[List.mem_singleton.1 k];exact Zmo _
   ·obtain⟨y,_,rfl⟩:=List.mem_map.1 k
    exact Zmp _ _
  ·exact k1
 unfold ZbF annT
 split
 ·exact k2
 ·intro x hx
  rcases List.mem_append.1 hx with k|k
  ·rcases List.mem_append.1 k with k|k
   ·exact k2 x k
   ·obtain⟨y,hy,rfl⟩:=List.mem_map.1 k
    exact h2.rq y ((Zkf _ _).subset hy)
  ·obtain⟨y,hy,rfl⟩:=List.mem_map.1 k
   have hAi:∀x∈(annA now (tk2 now s).1).2,IsAv x:=λx hx=>Zf2 (Zhd h2) x ((ZgI now (tk2 now s).1).subset hx)
   rw[Zhc h2 h1 hn] at hy
   exact(Zme (Zfu h2 h1 hn) (ZbT h1).2.2.2.2.2.2.2.2.2.2.1 hAi h2.av y hy).1
theorem Zw9(hs:IsRt s)(hv:Zaj s=true)(hn:Zag now=true):IsRt (annS now s):=by
 obtain⟨a1,a2,a3,a4,a5,a6,a7,a8⟩:=Zhd (now:=now) hs
 refine⟨a1,a2,?_,a4,a5,a6,?_,a8⟩
 ·exact Zn8 hs.sr (annV (annQ now s)) [] s.sr (Zf2 ⟨a1,a2,a3,a4,a5,a6,a7,a8⟩) hs.sr
 ·show∀x∈(annU now s).told,IsAv x
  rw[Zhc hs hv hn]
  exact λx hx=>Zf2 (Zhd hs) x ((ZgI now s).subset hx)
theorem ZuX(hs:IsRt s)(hv:Zaj s=true)(hq:Sq16 s.rq)(hn:Zag now=true):IsRt (ZbF now s).1:=by
 obtain⟨h1,h2⟩:=ZmV hs hv hq hn
 unfold ZbF annT
 split
 ·exact h2
 ·exact Zw9 h2 h1 hn
theorem ZrX(hs:IsRt s)(hv:Zaj s=true)(hq:Sq16 s.rq)(hn:Zag now=true):(ZbF now s).2.length<=100000:=by
 obtain⟨h1,h2⟩:=ZmV hs hv hq hn
 exact Zkz (ZnI (ZmW hs hv hq hn).1 (ZlC hs hv hq hn)) h2 h1 hn
def Zoc:RtV:=⟨0,0,0,0,0,0,0,[],[],[],[],[],[],[]⟩
def ZuO:RtX:=⟨.slice none 0 0, .slice none 0 0, .slice none 0 0, .slice none 0 0, .slice none 0 0, .slice none 0 0, .slice none 0 0⟩
theorem ZxP:IsRt Zoc:=by constructor<;>simp[Zoc]
theorem ZxO:RtSm Zoc:=by constructor<;>simp[Zoc]
theorem ZtW(w:World):RtAt w Zoc ZuO:=⟨SlAt.nil w _,SlAt.nil w _,SlAt.nil w _,SlAt.nil w _,SlAt.nil w _,SlAt.nil w _,SlAt.nil w _⟩
theorem PhTk.e1(h:Zaj s=false)(k:PhTk now s r W w):r= .tuple [.agg rtZ.toArray, .slice none 0 0, .int .i64 1].toArray/\Ext [] W w:=by
 unfold PhTk at k
 rw[h,if_neg Q5] at k
 exact k
theorem PhTk.e2(h:Zaj s=true)(h2:Zag now=false)(k:PhTk now s r W w):r= .tuple [.agg rtZ.toArray, .slice none 0 0, .int .i64 2].toArray/\Ext [] W w:=by
 unfold PhTk at k
 rw[if_pos h,h2,if_neg Q5] at k
 exact k
theorem PhTk.e0(h:Zaj s=true)(h2:Zag now=true)(k:PhTk now s r W w):∃x' e' va ea u es,r= .tuple #[.agg (rtC (ZbF now s).1 x').toArray,u, .int .i64 0]/\RtOw (ZbF now s).1 x' e'/\OwnS 69 40 va ((ZbF now s).2).length (nosC ((ZbF now s).2)) ea/\OwnS 61 2 u (sdn (ZbF now s).2.length) (sdC (ZbF now s).2.length va) es/\Mem [] W w (es::ea::e'.row:Row).flatten:=by
 unfold PhTk at k
 rw[if_pos h,if_pos h2] at k
 exact k
theorem vAI{p:Prop}(h:p:=by
  refine W3 [0,10,0,0] ?_
  exact Zb6 (v:= .bool true) rfl rfl (λw M=>ZkI Zoc ZxP ZxO ZuO ZuO w (ZtW w) (ZtW w)) (gQ 4 rfl (Zb6 (v:= .bool true) rfl rfl (λw M=>Zm6 [] Q5 Q5 (.slice none 0 0) (.slice none 0 0) _ _ w (SlAt.nil w _) (SlAt.nil w _) (SlAt.nil w _) (SlAt.nil w _)) (gQ 13 rfl (Zae rfl rfl rfl λw M=>⟨rfl,M.ext⟩))))):p:=h
theorem ZhV(s:RtV)(x:RtX)(now:Int)(hs:IsRt s)(hq:Sq16 s.rq)(W:World)(hX:RtAt W s x):Cal prog 43 [.agg (rtC s x).toArray, .int .i64 now].toArray W λr w'=>r= .bool true/\Ext [] W w':=by
 refine yS (n:=46) Tryz.func43 rfl rfl (gQ 2 rfl (Zai rfl rfl λb2=>?_))
 refine W3 [5,0,1] ?_
 cases hv:Zaj s
 ·refine Zb6 (v:= .tuple [.agg rtZ.toArray, .slice none 0 0, .int .i64 1].toArray) rfl rfl (λw M=>Cal.mono (Zj0 s x now hs hq w (hX.later M.ext)) λr w2 h=>h.e1 hv) ?_
  refine gQ 4 rfl (Zac λb5=>?_)
  refine W3 [0,6,0,1] ?_
  refine Zb6 (v:= .tuple [.agg rtZ.toArray, .slice none 0 0, .int .i64 1].toArray) rfl rfl (λw M=>Cal.mono (ZlR s x now hs hq w (hX.later M.ext)) λr w2 h=>h.e1 hv) (gQ 4 rfl (Zac λb8=>?_))
  exact vAI
 cases hn:Zag now
 ·refine Zb6 (v:= .tuple [.agg rtZ.toArray, .slice none 0 0, .int .i64 2].toArray) rfl rfl (λw M=>Cal.mono (Zj0 s x now hs hq w (hX.later M.ext)) λr w2 h=>h.e2 hv hn) ?_
  refine gQ 4 rfl (Zac λb5=>?_)
  refine W3 [0,6,0,1] ?_
  refine Zb6 (v:= .tuple [.agg rtZ.toArray, .slice none 0 0, .int .i64 2].toArray) rfl rfl (λw M=>Cal.mono (ZlR s x now hs hq w (hX.later M.ext)) λr w2 h=>h.e2 hv hn) (gQ 4 rfl (Zac λb8=>?_))
  exact vAI
 have hk:=Zpj hs hv hq hn
 have hkr:=ZuX hs hv hq hn
 have hkn:=ZuY hs hv hq hn
 have hkl:=ZrX hs hv hq hn
 refine ZaU (ι:=RtX×RtE×Value×EN×Value×EN) (λj=> .tuple [.agg (rtC (ZbF now s).1 j.1).toArray,j.2.2.2.2.1, .int .i64 0].toArray) (λj=>RtOw (ZbF now s).1 j.1 j.2.1/\OwnS 69 40 j.2.2.1 ((ZbF now s).2).length (nosC ((ZbF now s).2)) j.2.2.2.1/\OwnS 61 2 j.2.2.2.2.1 (sdn (ZbF now s).2.length) (sdC (ZbF now s).2.length j.2.2.1) j.2.2.2.2.2) (λj=>j.2.2.2.2.2::j.2.2.2.1::j.2.1.row) rfl rfl (λw M=>Cal.mono (Zj0 s x now hs hq w (hX.later M.ext)) λr w2 h=>by obtain⟨y,e,va,ea,u,es,h1,h2,h3,h4,h5⟩:=h.e0 hv hn;exact⟨(y,e,va,ea,u,es),h1,⟨h2,h3,h4⟩,h5⟩) ?_
 rintro⟨⟨v6,v7,v8,v9,v10,v11,v12⟩,⟨e6,e7,e8,e9,e10,e11,e12⟩,va,ea,u,es⟩ ⟨o1,o2,o3⟩
 dsimp only[RtE.row,List.cons_append,List.nil_append] at o1 o2 o3⊢
 refine gQ 4 rfl (Zac λb5=>?_)
 refine Zdf 0 rfl rfl rfl o1.one rfl rfl rfl ?_
 refine W3 [6,0,1] ?_
 refine ZaU (ι:=RtX×RtE×Value×EN×Value×EN) (λj=> .tuple [.agg (rtC (ZbF now s).1 j.1).toArray,j.2.2.2.2.1, .int .i64 0].toArray) (λj=>RtOw (ZbF now s).1 j.1 j.2.1/\OwnS 69 40 j.2.2.1 ((ZbF now s).2).length (nosC ((ZbF now s).2)) j.2.2.2.1/\OwnS 61 2 j.2.2.2.2.1 (sdn (ZbF now s).2.length) (sdC (ZbF now s).2.length j.2.2.1) j.2.2.2.2.2) (λj=>j.2.2.2.2.2::j.2.2.2.1::j.2.1.row) rfl rfl (λw M=>Cal.mono (ZlR s x now hs hq w (hX.later M.ext)) λr w2 h=>by obtain⟨y,e,va,ea,u,es,h1,h2,h3,h4,h5⟩:=h.e0 hv hn;exact⟨(y,e,va,ea,u,es),h1,⟨h2,h3,h4⟩,h5⟩) ?_
 rintro⟨⟨u6,u7,u8,u9,u10,u11,u12⟩,⟨d6,d7,d8,d9,d10,d11,d12⟩,vb,eb,v,et⟩ ⟨p1,p2,p3⟩
 dsimp only[RtE.row,List.cons_append,List.nil_append] at p1 p2 p3⊢
 refine gQ 4 rfl (Zac λb8=>?_)
 refine Zdf 0 rfl rfl rfl p1.one rfl rfl rfl ?_
 refine W3 [10,0,0] ?_
 refine Zb6 (v:= .bool true) rfl rfl (λw M=>ZkI (ZbF now s).1 hkr (Zsf hk) _ _ w ⟨(o1.og.slAt M λq hq=>List.mem_flatten_of_mem Q5 hq),(o1.aj.slAt M λq hq=>List.mem_flatten_of_mem Q5 hq),(o1.sr.slAt M λq hq=>List.mem_flatten_of_mem Q5 hq),(o1.ro.slAt M λq hq=>List.mem_flatten_of_mem Q5 hq),(o1.ins.slAt M λq hq=>List.mem_flatten_of_mem Q5 hq),(o1.rq.slAt M λq hq=>List.mem_flatten_of_mem Q5 hq),(o1.av.slAt M λq hq=>List.mem_flatten_of_mem Q5 hq)⟩ ⟨(p1.og.slAt M λq hq=>List.mem_flatten_of_mem Q5 hq),(p1.aj.slAt M λq hq=>List.mem_flatten_of_mem Q5 hq),(p1.sr.slAt M λq hq=>List.mem_flatten_of_mem Q5 hq),(p1.ro.slAt M λq hq=>List.mem_flatten_of_mem Q5 hq),(p1.ins.slAt M λq hq=>List.mem_flatten_of_mem Q5 hq),(p1.rq.slAt M λq hq=>List.mem_flatten_of_mem Q5 hq),(p1.av.slAt M λq hq=>List.mem_flatten_of_mem Q5 hq)⟩) ?_
 refine gQ 4 rfl (Zb6 (v:= .bool true) rfl rfl (λw M=>Zm6 (ZbF now s).2 hkn hkl va vb u v w (o2.slAt M λq hq=>List.mem_flatten_of_mem Q5 hq) (p2.slAt M λq hq=>List.mem_flatten_of_mem Q5 hq) (o3.slAt M λq hq=>List.mem_flatten_of_mem Q5 hq) (p3.slAt M λq hq=>List.mem_flatten_of_mem Q5 hq)) ?_)
 refine W3 [5,0] ?_
 refine Zb6 (v:= .bool true) rfl rfl (λw M=>by rw[<-hk];exact Zes (ZbF now s).1 ⟨v6,v7,v8,v9,v10,v11,v12⟩ hkr w ⟨(o1.og.slAt M λq hq=>List.mem_flatten_of_mem Q5 hq),(o1.aj.slAt M λq hq=>List.mem_flatten_of_mem Q5 hq),(o1.sr.slAt M λq hq=>List.mem_flatten_of_mem Q5 hq),(o1.ro.slAt M λq hq=>List.mem_flatten_of_mem Q5 hq),(o1.ins.slAt M λq hq=>List.mem_flatten_of_mem Q5 hq),(o1.rq.slAt M λq hq=>List.mem_flatten_of_mem Q5 hq),(o1.av.slAt M λq hq=>List.mem_flatten_of_mem Q5 hq)⟩) ?_
 exact gQ 6 rfl (Zae rfl rfl rfl λw M=>⟨rfl,M.ext⟩)
def ZAm(q0:List ReqV)(p:Option Addr)(len cap bt:Nat)(r:Value)(W w':World):Prop:=∃(s:RtV)(x:RtX)(e:RtE)(k':Nat),r= .agg (rtC s x).toArray/\s.rq=q0/\IsRt s/\RtOw s x e/\Mem [bt] W w' ((bt,tobj p len cap k')::e.row.flatten)
theorem Zoh{len cap k:Nat}(s:RtV)(x:RtX)(hs:IsRt s)(hsm:RtSm s)(W:World)(hT:Zbz W bt p len xs)(hb:W.heap[bt]? =some (tobj p len cap k))(h:RtAt W s x)(hA:∀w',Ext [bt] W w'->RtAt w' s x):Cal prog 35 [.pointer (some ⟨bt,0,none⟩), .agg (rtC s x).toArray].toArray W λr w'=>ZAm s.rq p len cap bt r W w':=by
 obtain⟨v6,v7,v8,v9,v10,v11,v12⟩:=x
 obtain⟨a6,a7,a8,a9,a10,a11,a12⟩:=h
 dsimp only at a6 a7 a8 a9 a10 a11 a12
 obtain⟨q6,c6,rfl,_⟩:=id a6
 obtain⟨q7,c7,rfl,_⟩:=id a7
 obtain⟨q8,c8,rfl,_⟩:=id a8
 obtain⟨q9,c9,rfl,_⟩:=id a9
 obtain⟨q10,c10,rfl,_⟩:=id a10
 obtain⟨q11,c11,rfl,_⟩:=id a11
 obtain⟨q12,c12,rfl,_⟩:=id a12
 refine Zcm (n:=78) [bt] hb Q5 Zbj Zbi Tryz.func35 rfl rfl rfl (gQ 2 rfl (Zai rfl rfl λb3=>Zac λb4=>?_))
 refine W3 [4,0] ?_
 refine ZaU (ι:=RtX×RtE) (λj=> .agg (rtC s j.1).toArray) (λj=>RtOw s j.1 j.2) (λj=>j.2.row) rfl rfl (λw M=>Cal.mono (ZkN s _ hsm w (hA w M.ext)) λr w' h=>by
  obtain⟨x',e,h1,h2,N⟩:=h
  exact⟨(x',e),h2,h1,N⟩) ?_
 rintro⟨⟨v6,v7,v8,v9,v10,v11,v12⟩,⟨e6,e7,e8,e9,e10,e11,e12⟩⟩ ⟨o6,o7,o8,o9,o10,o11,o12⟩
 dsimp only[RtE.row,List.cons_append,List.nil_append] at o6 o7 o8 o9 o10 o11 o12⊢
 obtain⟨r6,d6,rfl,-⟩:=Zbr o6
 obtain⟨r7,d7,rfl,-⟩:=Zbr o7
 obtain⟨r8,d8,rfl,-⟩:=Zbr o8
 obtain⟨r9,d9,rfl,-⟩:=Zbr o9
 obtain⟨r10,d10,rfl,-⟩:=Zbr o10
 obtain⟨r11,d11,rfl,-⟩:=Zbr o11
 obtain⟨r12,d12,rfl,-⟩:=Zbr o12
 clear a6 a7 a8 a9 a10 a11 a12 hA
 obtain⟨i6,i7,i8,i9,i10,i11,i12,iq⟩:=hs
 obtain⟨l6,l7,l8,l9,l10,l11,l12⟩:=hsm
 have n10:=Zbb xs k (n:=10) Q0
 have dX:=ZuB s.self
 have oX:=Zt9
 have dN:=ZuB 99
 by_cases c0:nxV xs k 10=0
 ·refine W4 [0,6,0,9,0,2,0,5,0,0,3] @Za1 ?_
  exact Zbn 7 rfl rfl rfl rfl rfl λw M=>⟨⟨0,s.seq,s.raised,s.quiet,s.hello,s.nextH,s.full,s.og,s.aj,s.sr,s.ro,s.ins,s.rq,s.av⟩,⟨_,_,_,_,_,_,_⟩,⟨e6,e7,e8,e9,e10,e11,e12⟩,_,rfl,rfl,⟨i6,i7,i8,i9,i10,i11,i12,iq⟩,⟨o6,o7,o8,o9,o10,o11,o12⟩,rowT (M.sub (subO Qf))⟩
 by_cases c1:nxV xs k 10=1
 ·refine W4 [0,6,0,9,0,6,0,2,0,5,0,0,3] @Za1 ?_
  exact Zbn 7 rfl rfl rfl rfl rfl λw M=>⟨⟨s.self,s.seq,-1,s.quiet,s.hello,s.nextH,s.full,s.og,s.aj,s.sr,s.ro,s.ins,s.rq,s.av⟩,⟨_,_,_,_,_,_,_⟩,⟨e6,e7,e8,e9,e10,e11,e12⟩,_,rfl,rfl,⟨i6,i7,i8,i9,i10,i11,i12,iq⟩,⟨o6,o7,o8,o9,o10,o11,o12⟩,rowT (M.sub (subO Qf))⟩
 by_cases c2:nxV xs k 10=2
 ·refine W4 [0,6,0,9,0,6,0,6,0,2,0,5,0,0,3] @Za1 ?_
  exact Zbn 7 rfl rfl rfl rfl rfl λw M=>⟨⟨s.self,s.seq,s.raised,1099511627777,s.hello,s.nextH,s.full,s.og,s.aj,s.sr,s.ro,s.ins,s.rq,s.av⟩,⟨_,_,_,_,_,_,_⟩,⟨e6,e7,e8,e9,e10,e11,e12⟩,_,rfl,rfl,⟨i6,i7,i8,i9,i10,i11,i12,iq⟩,⟨o6,o7,o8,o9,o10,o11,o12⟩,rowT (M.sub (subO Qf))⟩
 by_cases c3:nxV xs k 10=3
 ·refine W4 [0,6,0,9,0,6,0,6,0,6,0,2,0,5,0,0,3] @Za1 ?_
  exact Zbn 7 rfl rfl rfl rfl rfl λw M=>⟨⟨s.self,s.seq,s.raised,s.quiet,s.hello,-5,s.full,s.og,s.aj,s.sr,s.ro,s.ins,s.rq,s.av⟩,⟨_,_,_,_,_,_,_⟩,⟨e6,e7,e8,e9,e10,e11,e12⟩,_,rfl,rfl,⟨i6,i7,i8,i9,i10,i11,i12,iq⟩,⟨o6,o7,o8,o9,o10,o11,o12⟩,rowT (M.sub (subO Qf))⟩
 by_cases c4:nxV xs k 10=4
 ·refine W4 [0,6,0,9,0,6,0,6,0,6,0,6,0,2,0,0,0] @Za1 ?_
  refine g_v (λa w F M R r=>Zaq F rfl (Zyh) r) (g_bs rfl rfl rfl (Zd4 Qd) (λb38=>?_))
  refine ZaY 7 0 (enc:=ogC) rfl rfl Qd rfl rfl (ZfH Qd) Q4 (λ_=>rfl) (λv39 es39 hO39=>?_) (Zhk _)
  refine W3 [1,0,5,0] ?_
  obtain⟨rN,cN,rfl,-⟩:=Zbr hO39
  refine W3 [0,3] ?_
  exact Zbn 8 rfl rfl rfl rfl rfl λw M=>⟨⟨s.self,s.seq,s.raised,s.quiet,s.hello,s.nextH,s.full,s.og++[ogX],s.aj,s.sr,s.ro,s.ins,s.rq,s.av⟩,⟨_,_,_,_,_,_,_⟩,⟨_,e7,e8,e9,e10,e11,e12⟩,_,rfl,rfl,⟨ZbW i6 Zt9,i7,i8,i9,i10,i11,i12,iq⟩,⟨by assumption,o7,o8,o9,o10,o11,o12⟩,rowT (M.sub (subO Qf))⟩
 by_cases c5:nxV xs k 10=5
 ·refine W4 [0,6,0,9,0,6,0,6,0,6,0,6,0,6,0,2,0] @Za1 ?_
  refine g_v (λa w F M R r=>Zaq F rfl (ZzF) r) (g_bs rfl rfl rfl (Zfv trivial) (λb46=>?_))
  refine ZaY 6 0 (enc:=ajC) rfl rfl Qd rfl rfl (Zhn trivial) Q4 (λ_=>rfl) (λv47 es47 hO47=>?_) (Zhm _)
  refine W3 [1,0,5,0] ?_
  obtain⟨rN,cN,rfl,-⟩:=Zbr hO47
  refine W3 [0,3] ?_
  exact Zbn 8 rfl rfl rfl rfl rfl λw M=>⟨⟨s.self,s.seq,s.raised,s.quiet,s.hello,s.nextH,s.full,s.og,s.aj++[⟨9,qu0,0,0⟩],s.sr,s.ro,s.ins,s.rq,s.av⟩,⟨_,_,_,_,_,_,_⟩,⟨e6,_,e8,e9,e10,e11,e12⟩,_,rfl,rfl,⟨i6,ZbW i7 (show IsAj _ from trivial),i8,i9,i10,i11,i12,ZbW iq BdQu.zero⟩,⟨o6,by assumption,o8,o9,o10,o11,o12⟩,rowT (M.sub (subO Qf))⟩
 by_cases c6:nxV xs k 10=6
 ·refine W4 [0,6,0,9,0,6,0,6,0,6,0,6,0,6,0,6,0,2,0,0,0,1,0] @Za1 ?_
  refine g_v (λa w F M R r=>Zaq F rfl (Zuz _) r) (g_v (λa w F M R r=>Zaq F rfl (ZxU _ Qd _) r) ?_)
  refine g_bs rfl rfl rfl (ZcK ⟨by assumption,trivial⟩) (λb59=>?_)
  refine ZaY 4 0 (enc:=roC) rfl rfl Qd rfl rfl (Zdy ⟨by assumption,trivial⟩) Q4 (λ_=>rfl) (λv60 es60 hO60=>?_) (Zd1 _)
  refine W3 [1,0,5,0] ?_
  obtain⟨rN,cN,rfl,-⟩:=Zbr hO60
  refine W3 [0,3] ?_
  exact Zbn 8 rfl rfl rfl rfl rfl λw M=>⟨⟨s.self,s.seq,s.raised,s.quiet,s.hello,s.nextH,s.full,s.og,s.aj,s.sr,s.ro++[⟨dvX s.self,9,di0,0⟩],s.ins,s.rq,s.av⟩,⟨_,_,_,_,_,_,_⟩,⟨e6,e7,e8,_,e10,e11,e12⟩,_,rfl,rfl,⟨i6,i7,i8,ZbW i9 (show IsRo _ from⟨dX,trivial⟩),i10,i11,i12,iq⟩,⟨o6,o7,o8,by assumption,o10,o11,o12⟩,rowT (M.sub (subO Qf))⟩
 by_cases c7:nxV xs k 10=7
 ·refine W4 [0,6,0,9,0,6,0,6,0,6,0,6,0,6,0,6,0,6,0,2,0,0,0] @Za1 ?_
  refine g_v (λa w F M R r=>Zaq F rfl (Zuz _) r) (g_v (λa w F M R r=>Zaq F rfl (Zul _ Qd _ _) r) ?_)
  refine g_bs rfl rfl rfl (Zcw ⟨by assumption,trivial⟩) (λb70=>?_)
  refine ZaY 3 0 (enc:=inC) rfl rfl Qd rfl rfl (Zbu ⟨by assumption,trivial⟩) Q4 (λ_=>rfl) (λv71 es71 hO71=>?_) (ZcE _)
  refine W3 [1,0,5,0] ?_
  obtain⟨rN,cN,rfl,-⟩:=Zbr hO71
  refine W3 [0,3] ?_
  exact Zbn 8 rfl rfl rfl rfl rfl λw M=>⟨⟨s.self,s.seq,s.raised,s.quiet,s.hello,s.nextH,s.full,s.og,s.aj,s.sr,s.ro,s.ins++[⟨dvX 99,9,di0,-2,0⟩],s.rq,s.av⟩,⟨_,_,_,_,_,_,_⟩,⟨e6,e7,e8,e9,_,e11,e12⟩,_,rfl,rfl,⟨i6,i7,i8,i9,ZbW i10 (show IsIn _ from⟨dN,trivial⟩),i11,i12,iq⟩,⟨o6,o7,o8,o9,by assumption,o11,o12⟩,rowT (M.sub (subO Qf))⟩
 by_cases c8:nxV xs k 10=8
 ·refine W4 [0,6,0,9,0,6,0,6,0,6,0,6,0,6,0,6,0,6,0,6,0,3,0,5,0,0,3] @Za1 ?_
  exact Zbn 7 rfl rfl rfl rfl rfl λw M=>⟨⟨s.self,s.seq,s.raised,s.quiet,s.hello,s.nextH,-1,s.og,s.aj,s.sr,s.ro,s.ins,s.rq,s.av⟩,⟨_,_,_,_,_,_,_⟩,⟨e6,e7,e8,e9,e10,e11,e12⟩,_,rfl,rfl,⟨i6,i7,i8,i9,i10,i11,i12,iq⟩,⟨o6,o7,o8,o9,o10,o11,o12⟩,rowT (M.sub (subO Qf))⟩
 have sj:IsAj (⟨s.self,qu0,0,0⟩:AdjV):=trivial
 refine W4 [0,6,0,9,0,6,0,6,0,6,0,6,0,6,0,6,0,6,0,6,0,1] @Za1 ?_
 refine ZfX 9 78 (bt::e7.map (·.1)) [5,6,7,8] [] [[(bt,tobj p len cap (nxK xs k))],e7] [e12,e11,e10,e9,e8,e6,[(b4,Obj.cells (rtC rt0 rx0).toArray 53 (0,0))],[(b3,Obj.cells (rtS s r6 d6 r7 d7 r8 d8 r9 d9 r10 d10 r11 d11 r12 d12).toArray 53 (0,0))]] rfl Q7 Zvr Q5 (Ze1 ?_)
 refine Zaw 60 rfl (fe_v (λa2 w F M R r=>ZcB (F.e rfl) (M.at_ _ (Zak (i:=7) rfl)) rfl r) (Zaw 60 rfl (fe_v (λa2 w F M R r=>ZcB (F.e rfl) (M.at_ _ (Zak (i:=7) rfl)) rfl r) (Zaw 60 rfl (Zg5 (κ:=QuaV×Nat) (λ_ j=> .agg (quC j.1).toArray) (λ_ j=>BdQu j.1) (λ_ j=>[e12,e11,e10,e9,e8,e7,e6,[(b4,Obj.cells (rtC rt0 rx0).toArray 53 (0,0))],[(b3,Obj.cells (rtS s r6 d6 r7 d7 r8 d8 r9 d9 r10 d10 r11 d11 r12 d12).toArray 53 (0,0))],[(bt,tobj p len cap j.2)]]) [] .any (λi hi=>?_) (λ_ _ _ _=>trivial) ?_)))))
 ·exact Zev 9 (λj:QuaV×Nat=> .agg (quC j.1).toArray) (λj=>BdQu j.1) (λj=>tobj p len cap j.2) (λ_=>[]) rfl rfl rfl (.head _) (λw M=>Cal.mono (ZiM w (hT.later M.ext) (M.at_ _ (Zak (i:=9) rfl))) λr w' h=>by
   obtain⟨o,k',ho,q,N⟩:=h
   exact⟨(o,k'),q,ho.b,by simpa using N⟩) (λ_=>rfl)
 refine Zg5 (κ:=Unit) (λi _=> .agg (ajC (⟨s.self,i.2.1,0,0⟩:AdjV)).toArray) (λ_ _=>True) (λi _=>[e12,e11,e10,e9,e8,e7,e6,[(b4,Obj.cells (rtC rt0 rx0).toArray 53 (0,0))],[(b3,Obj.cells (rtS s r6 d6 r7 d7 r8 d8 r9 d9 r10 d10 r11 d11 r12 d12).toArray 53 (0,0))],[(bt,tobj p len cap i.2.2)]]) [(5,14)] .any (λi hi=>?_) (λ_ _ _ _=>trivial) ?_
 ·exact OpF.mono (Zqb (λa w F M R r=>Zaq F rfl (ZzG _ _) r)) λu r h=>⟨(),h.1,trivial,h.2⟩
 refine Zg5 (κ:=Nat) (λ_ j=> .slice (some ⟨j,0,none⟩) 1 1) (λ_ _=>True) (λi j=>[[(j,Obj.cells (ajC ⟨s.self,i.1.2.1,0,0⟩).toArray 124 (0,0))],e12,e11,e10,e9,e8,e7,e6,[(b4,Obj.cells (rtC rt0 rx0).toArray 53 (0,0))],[(b3,Obj.cells (rtS s r6 d6 r7 d7 r8 d8 r9 d9 r10 d10 r11 d11 r12 d12).toArray 53 (0,0))],[(bt,tobj p len cap i.1.2.2)]]) [(6,15)] .any (λi hi=>?_) (λ_ _ _ _=>trivial) ?_
 ·exact Zt7 rfl rfl rfl (Zfv trivial)
 refine Zg5 (κ:=Value×EN) (λ_ j=>j.1) (λi j=>OwnS 124 8 j.1 (s.aj++[(⟨s.self,i.1.1.2.1,0,0⟩:AdjV)]).length (ajsC (s.aj++[(⟨s.self,i.1.1.2.1,0,0⟩:AdjV)])) j.2) (λi j=>[[(i.2,Obj.cells (ajC ⟨s.self,i.1.1.2.1,0,0⟩).toArray 124 (0,0))],e12,e11,e10,e9,e8,j.2,e6,[(b4,Obj.cells (rtC rt0 rx0).toArray 53 (0,0))],[(b3,Obj.cells (rtS s r6 d6 r7 d7 r8 d8 r9 d9 r10 d10 r11 d11 r12 d12).toArray 53 (0,0))],[(bt,tobj p len cap i.1.1.2.2)]]) [(7,16)] .any (λi hi=>?_) (λ_ _ _ _=>trivial) ?_
 ·exact Zns (enc:=ajC) (x0:=(⟨s.self,i.1.1.2.1,0,0⟩:AdjV)) (f:=λe=>[[(i.2,Obj.cells (ajC ⟨s.self,i.1.1.2.1,0,0⟩).toArray 124 (0,0))],e12,e11,e10,e9,e8,e,e6,[(b4,Obj.cells (rtC rt0 rx0).toArray 53 (0,0))],[(b3,Obj.cells (rtS s r6 d6 r7 d7 r8 d8 r9 d9 r10 d10 r11 d11 r12 d12).toArray 53 (0,0))],[(bt,tobj p len cap i.1.1.2.2)]]) rfl rfl o7 ZpQ (λq hq=>List.mem_cons_of_mem _ (List.mem_map_of_mem hq)) (.head _) (Zhn trivial) Q0 Q0 (λent=>ZpQ.symm) (Zhm _)
 refine Zis rfl (by rintro i _ q hq;simp at hq;rcases hq with rfl|rfl|rfl|rfl<;>simp) ?_
 rintro⟨⟨⟨⟨_,o,k2⟩,_⟩,bz⟩,v17,e17⟩ ⟨⟨⟨⟨_,ho⟩,_⟩,_⟩,hO17⟩
 refine⟨_,rfl,?_⟩
 dsimp only at ho hO17⊢
 obtain⟨rN,cN,rfl,-⟩:=Zbr hO17
 refine W3 [1,0,5,0,0,3] ?_
 exact Zbn 8 rfl rfl rfl rfl rfl λw M=>⟨⟨s.self,s.seq,s.raised,s.quiet,s.hello,s.nextH,s.full,s.og,s.aj++[⟨s.self,o,0,0⟩],s.sr,s.ro,s.ins,s.rq,s.av⟩,⟨_,_,_,_,_,_,_⟩,⟨e6,e17,e8,e9,e10,e11,e12⟩,_,rfl,rfl,⟨i6,ZbW i7 (show IsAj _ from trivial),i8,i9,i10,i11,i12,ZbW iq ho⟩,⟨o6,hO17,o8,o9,o10,o11,o12⟩,rowT (M.sub (subO Qf))⟩
def RqB(l:List ReqV):Prop:=(∀y∈l,IsRq y)/\Sq16 l
theorem Zvo{i:Nat}{x:ReqV}(h:RqB l)(hx:IsRq x/\0<=x.seq/\x.seq<=65535):RqB (l.set i x):=by
 refine⟨λy hy=>?_,λy hy=>?_⟩
 ·rcases List.mem_or_eq_of_mem_set hy with k|rfl
  ·exact h.1 y k
  ·exact hx.1
 ·rcases List.mem_or_eq_of_mem_set hy with k|rfl
  ·exact h.2 y k
  ·exact hx.2
theorem Zvp{now seq hops frm:Int}{t:DstV}(h:RqB l)(hl:l.length<=64)(ht:IsDv t)(hq:0<=seq/\seq<=65535):RqB (addV l now t seq hops frm).l/\(addV l now t seq hops frm).l.length<=64:=by
 have k:=RqI.add (now:=now) (hops:=hops) (frm:=frm) (⟨h.1,h.2,Q0⟩:RqI l) ht hq
 refine⟨⟨k.is,k.sq⟩,?_⟩
 rcases ZrP l now seq hops frm t with e|e|⟨e,h5⟩<;>rw[e]
 ·simp
 ·exact hl
 ·exact h5
theorem ZxE{len cap k:Nat}(W:World)(hT:Zbz W bt p len xs)(hb:W.heap[bt]? =some (tobj p len cap k)):Cal prog 57 [.pointer (some ⟨bt,0,none⟩)].toArray W λv w'=>∃x k',v= .int .u16 x/\(0<=x/\x<=65535)/\Mem [bt] W w' [(bt,tobj p len cap k')]:=by
 have n1:=Zbb xs k (n:=6) Q0
 refine Zcm (n:=7) [bt] hb Q5 Zbj Zbi Tryz.func57 rfl rfl rfl ?_
 refine W4 [8,0,0,0,4] @Za1 ?_
 refine Zae rfl rfl rfl λw M=>?_
 exact⟨_,_,rfl,by rw[wr16];omega,M⟩
theorem Zl1{len cap k:Nat}(now:Int)(hnow:0<=now/\now<=1099511627776)(W:World)(hT:Zbz W bt p len xs)(hb:W.heap[bt]? =some (tobj p len cap k)):Cal prog 63 [.pointer (some ⟨bt,0,none⟩), .int .i64 now].toArray W λr w'=>∃(m:List ReqV)(k':Nat)(ent:EN),OwnS 171 40 r m.length (rqsC m) ent/\RqB m/\m.length<=64/\Mem [bt] W w' ((bt,tobj p len cap k')::ent):=by
 have n5:=Zbb xs k (n:=5) Q0
 refine Zcm (n:=55) [bt] hb Q5 Zbj Zbi Tryz.func63 rfl rfl rfl ?_
 refine W4 [14,0,4] @Za1 ?_
 refine Zba ?_
 refine Zau (ι:=Int×(List ReqV)×Value×EN×Nat) ⟨λ(d,out,u,es,k)=>d.toNat,λ(d,out,u,es,k)=>d<=5/\OwnS 171 40 u out.length (rqsC out) es/\RqB out/\out.length<=64,λ(d,out,u,es,k)=>[(6, .int .i64 d),(5,u),(0, .pointer (some ⟨bt,0,none⟩)),(1, .int .i64 now)],λ(d,out,u,es,k)=>[es,[(bt,tobj p len cap k)]]⟩ (_,[],_,[],_) ⟨by first|omega|(dsimp only;omega),OwnS.nilL _ _ _,⟨λy hy=>(List.not_mem_nil hy).elim,λy hy=>(List.not_mem_nil hy).elim⟩,by simp⟩ (λa F=>F.only [6,5,0,1] rfl) Qa ?_
 clear n5
 rintro⟨d,out,u,es,k⟩ ⟨hd,hOs,hI,hol⟩
 dsimp only at hd hOs hI hol⊢
 by_cases hlt:0<d
 ·have n4:=Zbb xs k (n:=4) Q0
  refine W4 [7,0,7,0] @Za1 ?_
  refine Zei rfl (Ze9 Q0 Q0) (gQ 8 rfl ?_)
  refine ZaX (ι:=Int×Nat) 1 (λj=> .int .i64 j.1) (λj=>True) (λj=>tobj p len cap j.2) (λ_=>[]) rfl rfl rfl (λw M=>Cal.mono (Zc5 now hnow.1 hnow.2 w (hT.later M.ext) (M.at_ _ (Zak (i:=1) rfl))) λr w' h=>by
    obtain⟨x,k',q,_,N⟩:=h
    exact⟨(x,k'),q,trivial,by simpa using N⟩) (λ_=>rfl) ?_
  rintro⟨t,k1⟩-
  dsimp only[List.nil_append]
  refine gQ 1 rfl ?_
  refine ZaX (ι:=DstV×Nat) 1 (λj=>dvV j.1) (λj=>IsDv j.1) (λj=>tobj p len cap j.2) (λ_=>[]) rfl rfl rfl (λw M=>Cal.mono (Zpi w (hT.later M.ext) (M.at_ _ (Zak (i:=1) rfl))) λr w' h=>by
    obtain⟨x,k',q,h1,_,N⟩:=h
    exact⟨(x,k'),q,h1,by simpa using N⟩) (λ_=>rfl) ?_
  rintro⟨x,k2⟩ xd
  dsimp only[List.nil_append] at xd⊢
  unfold dvV
  refine gQ 1 rfl ?_
  refine ZaX (ι:=Int×Nat) 1 (λj=> .int .u16 j.1) (λj=>0<=j.1/\j.1<=65535) (λj=>tobj p len cap j.2) (λ_=>[]) rfl rfl rfl (λw M=>Cal.mono (ZxE w (hT.later M.ext) (M.at_ _ (Zak (i:=1) rfl))) λr w' h=>by
    obtain⟨x,k',q,h16,N⟩:=h
    exact⟨(x,k'),q,h16,by simpa using N⟩) (λ_=>rfl) ?_
  rintro⟨q,k3⟩ h16
  dsimp only[List.nil_append]
  have n32:=Zbb xs k3 (n:=32) Q0
  refine W4 [1,0,0,1] @Za1 ?_
  refine ZaU (ι:=Value×(List ReqV)×Bool×Int×EN) (λj=> .tuple #[j.1, .bool j.2.2.1, .int .i64 j.2.2.2.1]) (λj=>OwnS 171 40 j.1 j.2.1.length (rqsC j.2.1) j.2.2.2.2/\RqB j.2.1/\j.2.1.length<=64) (λj=>[j.2.2.2.2]) rfl rfl (λw M=>Cal.mono (ZpX out hI.1 u t x xd q _ _ w (hOs.slAt M (λq hq=>List.mem_append_left _ hq))) λr w' h=>by
   obtain⟨u,ent,h1,h2,N⟩:=h
   exact⟨(u,_,_,_,ent),h1,⟨h2,Zvp hI hol xd h16⟩,by simpa using N⟩) ?_
  rintro⟨u1,m1,d1,c1,e1⟩ ⟨hO1,hI1,hl1⟩
  dsimp only[List.cons_append,List.nil_append] at hO1 hI1 hl1⊢
  refine gQ 15 rfl (g_if rfl (λh1=>?_) (λh1=>?_))
  ·replace h1:=dqU h1
   refine W3 [8,0,2] ?_
   exact yN (d-1,m1,_,_,_) ⟨by dsimp only;omega,by assumption,hI1,hl1⟩
  ·replace h1:=dqV h1
   refine W3 [5,0,2] ?_
   exact yN (d-1,out,_,_,_) ⟨by dsimp only;omega,by assumption,hI,hol⟩
 ·obtain⟨q4,c4,rfl,hq4⟩:=Zbr hOs
  refine W3 [7,0,2,0,11] ?_
  refine Zau (ι:=Nat×(List ReqV)×EN×Nat) ⟨λ(i,l,es,k)=>out.length-i,λ(i,l,es,k)=>i<=out.length/\l.length=out.length/\OwnS 171 40 (.slice q4 l.length c4) l.length (rqsC l) es/\RqB l/\(0<out.length->∃b j,q4=some ⟨b,0,none⟩/\es=[(b, .cells (rqsC l++j).toArray 171 (0,0))]),λ(i,l,es,k)=>[(43, .int .i64 i),(42, .int .i64 out.length),(5, .slice q4 out.length c4),(0, .pointer (some ⟨bt,0,none⟩))],λ(i,l,es,k)=>[es,[(bt,tobj p len cap k)]]⟩ (0,out,es,_) ⟨by first|omega|(dsimp only;omega),rfl,hOs,hI,hq4⟩ (λa F=>F.only [43,42,5,0] rfl) Qa ?_
  rintro⟨i,l,es,k⟩ ⟨hi,hll,hOs,hI,hq⟩
  dsimp only at hi hll hOs hI hq⊢
  by_cases hlt2:i<out.length
  ·obtain⟨bq,jq,rfl,rfl⟩:=hq Q0
   have n3:=Zbb xs k (n:=3) Q0
   have xd:IsRq (l[i]'Q0):=hI.1 _ (List.getElem_mem _)
   have hpt:=λz:Int=>Zp2 (enc:=rqC) (sz:=40) jq (l:=l) (i:=i) (ZbB hI.1) Q0 (ZeO xd z)
   obtain⟨x',hx'⟩:∃x':ReqV,x'= { (l[i]'Q0) with left:=1+nxV xs k 3}:=⟨_,rfl⟩
   have hI':RqB (l.set i x'):=Zvo hI (by
    rw[hx']
    exact⟨xd,hI.2 (l[i]'Q0) (List.getElem_mem _)⟩)
   have hst:put (rqsC l++jq) (0+(i:Int).toNat*40+39) [.int .i64 (1+nxV xs k 3)]=some (rqsC (l.set i x')++jq):=by
    rw[show 0+(i:Int).toNat*40+39=i*40+39 by simp,hx']
    exact hpt _
   have hO':=Znq (l':=l.set i x') hOs rfl rfl Q5 (by rw[Za2 (ZbB hI'.1),Za2 (ZbB hI.1)];simp)
   refine W4 [6,0,14,0,0,0,1] @Za1 ?_
   refine Zgy 0 rfl rfl rfl rfl hst rfl ?_
   refine W3 [4,0,2] ?_
   exact yN (i+1,l.set i x',_,_) ⟨by dsimp only;omega,by simp[hll],hO',hI',λ_=>⟨bq,jq,rfl,rfl⟩⟩
  ·have hOs':OwnS 171 40 (.slice q4 out.length c4) l.length (rqsC l) es:=by
    rw[hll] at hOs⊢
    exact hOs
   refine W3 [6,0,2,0,9] ?_
   exact Zae rfl rfl rfl λw M=>⟨l,_,es,hOs',hI,Q0,M.perm List.perm_append_comm⟩
def ZAn(p:Option Addr)(len cap bt:Nat)(r:Value)(W w':World):Prop:=∃(s:RtV)(x:RtX)(e:RtE)(k':Nat),r= .agg (rtC s x).toArray/\Sq16 s.rq/\IsRt s/\RtSm s/\RtA s x e/\Mem [bt] W w' ((bt,tobj p len cap k')::e.row.flatten)
theorem vAR{p:Prop}(h:p:=by
  exact Zev 4 (λj:Int×Nat=> .int .i64 j.1) (λj=>True) (λj=>tobj p len cap j.2) (λ_=>[]) rfl rfl rfl (.head _) (λw M=>Cal.mono (Zc5 now hnow.1 hnow.2 w (hT.later M.ext) (M.at_ _ (Zak (i:=4) rfl))) λr w' h=>by
   obtain⟨x,k',qq,_,N⟩:=h
   exact⟨(x,k'),qq,trivial,by simpa using N⟩) (λ_=>rfl)):p:=h
theorem vCU{p:Prop}(h:p:=by
  exact yN (j+1,aj,_,_,_) ⟨by dsimp only;omega,by dsimp only;omega,by assumption,iq,by simp;omega⟩):p:=h
theorem ZpS{len cap k:Nat}(now:Int)(hnow:0<=now/\now<=1099511627776)(W:World)(hT:Zbz W bt p len xs)(hb:W.heap[bt]? =some (tobj p len cap k)):Cal prog 21 [.pointer (some ⟨bt,0,none⟩), .int .i64 now].toArray W λr w'=>ZAn p len cap bt r W w':=by
 refine Zcm (n:=140) [bt] hb Q5 Zbj Zbi Tryz.func21 rfl rfl rfl (gQ 2 rfl (Zac λb4=>gQ 5 rfl ?_))
 refine ZaX (ι:=Int×Nat) 1 (λj=> .int .u64 j.1) (λj=>True) (λj=>tobj p len cap j.2) (λ_=>[]) rfl rfl rfl (λw M=>Cal.mono (Zrj w (hT.later M.ext) (M.at_ _ (Zak (i:=1) rfl))) λr w' h=>by
   obtain⟨x,k',q,N⟩:=h
   exact⟨(x,k'),q,trivial,by simpa using N⟩) (λ_=>rfl) ?_
 rintro⟨self,k1⟩-
 dsimp only[List.nil_append,List.cons_append]
 refine gQ 7 rfl ?_
 refine ZaX (ι:=Int×Nat) 1 (λj=> .int .u16 j.1) (λj=>True) (λj=>tobj p len cap j.2) (λ_=>[]) rfl rfl rfl (λw M=>Cal.mono (Zm2 w (hT.later M.ext) (M.at_ _ (Zak (i:=1) rfl))) λr w' h=>by
   obtain⟨x,k',q,N⟩:=h
   exact⟨(x,k'),q,trivial,by simpa using N⟩) (λ_=>rfl) ?_
 rintro⟨sq,k2⟩-
 dsimp only[List.nil_append,List.cons_append]
 refine gQ 2 rfl ?_
 refine ZaX (ι:=Int×Nat) 1 (λj=> .int .i64 j.1) (λj=>True) (λj=>tobj p len cap j.2) (λ_=>[]) rfl rfl rfl (λw M=>Cal.mono (Zc5 now hnow.1 hnow.2 w (hT.later M.ext) (M.at_ _ (Zak (i:=1) rfl))) λr w' h=>by
   obtain⟨x,k',q,_,N⟩:=h
   exact⟨(x,k'),q,trivial,by simpa using N⟩) (λ_=>rfl) ?_
 rintro⟨t1,k3⟩-
 dsimp only[List.nil_append,List.cons_append]
 have n40:=Zbb xs k3 (n:=40) Q0
 refine W4 [2,0,0] @Za1 ?_
 refine g_v (λa w F M R r=>ZoB (F.e rfl) (F.e rfl) r) (gQ 1 rfl ?_)
 refine ZaX (ι:=Int×Nat) 1 (λj=> .int .u16 j.1) (λj=>True) (λj=>tobj p len cap j.2) (λ_=>[]) rfl rfl rfl (λw M=>Cal.mono (Zm2 w (hT.later M.ext) (M.at_ _ (Zak (i:=1) rfl))) λr w' h=>by
   obtain⟨x,k',q,N⟩:=h
   exact⟨(x,k'),q,trivial,by simpa using N⟩) (λ_=>rfl) ?_
 rintro⟨hl,k4⟩-
 dsimp only[List.nil_append,List.cons_append]
 refine gQ 2 rfl ?_
 refine ZaX (ι:=Int×Nat) 1 (λj=> .int .i64 j.1) (λj=>True) (λj=>tobj p len cap j.2) (λ_=>[]) rfl rfl rfl (λw M=>Cal.mono (Zc5 now hnow.1 hnow.2 w (hT.later M.ext) (M.at_ _ (Zak (i:=1) rfl))) λr w' h=>by
   obtain⟨x,k',q,_,N⟩:=h
   exact⟨(x,k'),q,trivial,by simpa using N⟩) (λ_=>rfl) ?_
 rintro⟨t2,k5⟩-
 dsimp only[List.nil_append,List.cons_append]
 refine gQ 3 rfl ?_
 refine ZaX (ι:=List OrgV×Value×Nat×EN) 1 (λj=>j.2.1) (λj=>OwnS 85 34 j.2.1 j.1.length (ogsC j.1) j.2.2.2/\(∀y∈j.1,IsOg y)/\j.1.length<=8) (λj=>tobj p len cap j.2.2.1) (λj=>[j.2.2.2]) rfl rfl rfl (λw M=>Cal.mono (Zoy self now w (hT.later M.ext) (M.at_ _ (Zak (i:=1) rfl))) λr w' h=>by
  obtain⟨m,k',ent,h1,h2,h3,N⟩:=h
  exact⟨(m,r,k',ent),rfl,⟨h1,h2,h3⟩,by simpa using N⟩) (λ_=>rfl) ?_
 rintro⟨mo,uo,k6,e6⟩ ⟨o6,i6,l6⟩
 dsimp only[List.nil_append,List.cons_append] at o6 i6 l6⊢
 obtain⟨r6,d6,rfl,-⟩:=Zbr o6
 refine g_v (λa w F M R r=>Zaq F rfl rfl r) (Zac λb6=>?_)
 refine W3 [0,3] ?_
 generalize(if 0<now-nxV xs k3 40 then now-nxV xs k3 40 else 0)=q0
 refine Zc0 (ι:=Int×Nat) ⟨λ_=>True,λ(q,k)=>[(5, .int .u64 self),(6, .pointer (some ⟨b6,0,none⟩)),(0, .pointer (some ⟨bt,0,none⟩)),(1, .int .i64 now),(4, .pointer (some ⟨b4,0,none⟩))],λ(q,k)=>[[(b6,Obj.cells (rtC (⟨self,sq,t1,q,hl,t2,0,[],[],[],[],[],[],[]⟩:RtV) ⟨.slice r6 mo.length d6, .slice none 0 0, .slice none 0 0, .slice none 0 0, .slice none 0 0, .slice none 0 0, .slice none 0 0⟩).toArray 53 (0,0))],e6,[(b4,Obj.cells (rtC rt0 rx0).toArray 53 (0,0))],[(bt,tobj p len cap k)]]⟩ ?_ ?_
 ·refine W4 [3,0,2] @Zhl ?_
  refine g_if rfl (λh1=>?_) (λh1=>?_)
  focus
   replace h1:=dqU h1
   refine gQ 3 rfl ?_
  rotate_left 1
  focus
   replace h1:=dqV h1
   exact gQ 1 rfl (yJ (q0,nxK xs k6) trivial)
  refine ZaX (ι:=Int×Nat) 3 (λj=> .int .i64 j.1) (λj=>True) (λj=>tobj p len cap j.2) (λ_=>[]) rfl rfl rfl (λw M=>Cal.mono (Zc5 now hnow.1 hnow.2 w (hT.later M.ext) (M.at_ _ (Zak (i:=3) rfl))) λr w' h=>by
    obtain⟨x,k',q,_,N⟩:=h
    exact⟨(x,k'),q,trivial,by simpa using N⟩) (λ_=>rfl) ?_
  rintro⟨t3,k7⟩-
  dsimp only[List.nil_append,List.cons_append]
  refine W3 [1,0,1] ?_
  exact yJ (t3,k7) trivial
 rintro⟨q,k7⟩-
 dsimp only
 refine gQ 8 rfl (Zba ?_)
 refine Zau (ι:=Int×(List AdjV)×Value×EN×Nat) ⟨λ(j,aj,u,e7,k)=>(6-j).toNat,λ(j,aj,u,e7,k)=>1<=j/\j<=6/\OwnS 124 8 u aj.length (ajsC aj) e7/\(∀y∈aj,BdQu y.q)/\(aj.length:Int)<=j-1,λ(j,aj,u,e7,k)=>[(7, .int .u64 j),(5, .int .u64 self),(6, .pointer (some ⟨b6,0,none⟩)),(0, .pointer (some ⟨bt,0,none⟩)),(1, .int .i64 now),(4, .pointer (some ⟨b4,0,none⟩))],λ(j,aj,u,e7,k)=>[e7,[(b6,Obj.cells (rtC (⟨self,sq,t1,q,hl,t2,0,[],[],[],[],[],[],[]⟩:RtV) ⟨.slice r6 mo.length d6,u, .slice none 0 0, .slice none 0 0, .slice none 0 0, .slice none 0 0, .slice none 0 0⟩).toArray 53 (0,0))],e6,[(b4,Obj.cells (rtC rt0 rx0).toArray 53 (0,0))],[(bt,tobj p len cap k)]]⟩ (1,[],_,[],k7) ⟨by first|omega|(dsimp only;omega),by first|omega|(dsimp only;omega),OwnS.nilL _ _ _,λy hy=>(List.not_mem_nil hy).elim,by simp⟩ (λa F=>F.only [7,5,6,0,1,4] rfl) Qa ?_
 rintro⟨j,aj,u7,e7,k⟩ ⟨hj1,hj6,o7,iq,l7⟩
 dsimp only at hj1 hj6 o7 iq l7⊢
 obtain⟨r7,d7,rfl,-⟩:=Zbr o7
 by_cases hlt:j<=5
 ·by_cases hs:j=self
  ·have hst:(!decide (j=self))=false:=by simp[hs]
   refine W3 [7,0,10,0,12,0,2] ?_
   exact vCU
  ·have hst:(!decide (j=self))=true:=by simp[hs]
   refine W4 [7,0,10,0,1,0,4] @Zhl ?_
   refine g_if rfl (λh1=>?_) (λh1=>?_)
   focus
    replace h1:=Zbx h1
   rotate_left 1
   focus
    replace h1:=ZaJ h1
    refine W3 [5,0,2] ?_
    exact vCU
   have l7b:aj.length<=5:=by omega
   refine gQ 1 rfl (ZfX 14 140 (bt::e7.map (·.1)) [4,7,10,11,12,13] [] [[(bt,tobj p len cap (nxK xs k))],e7] [[(b6,Obj.cells (rtC (⟨self,sq,t1,q,hl,t2,0,[],[],[],[],[],[],[]⟩:RtV) ⟨.slice r6 mo.length d6, .slice r7 aj.length d7, .slice none 0 0, .slice none 0 0, .slice none 0 0, .slice none 0 0, .slice none 0 0⟩).toArray 53 (0,0))],e6,[(b4,Obj.cells (rtC rt0 rx0).toArray 53 (0,0))]] rfl Q7 Zvs Q5 (Ze1 ?_))
   refine Zaw 60 rfl (fe_v (λa2 w F M R r=>ZcB (F.e rfl) (M.at_ _ (Zak (i:=0) rfl)) rfl r) (Zaw 60 rfl (Zg5 (κ:=QuaV×Nat) (λ_ j=> .agg (quC j.1).toArray) (λ_ j=>BdQu j.1) (λ_ j=>[e7,[(b6,Obj.cells (rtC (⟨self,sq,t1,q,hl,t2,0,[],[],[],[],[],[],[]⟩:RtV) ⟨.slice r6 mo.length d6, .slice r7 aj.length d7, .slice none 0 0, .slice none 0 0, .slice none 0 0, .slice none 0 0, .slice none 0 0⟩).toArray 53 (0,0))],e6,[(b4,Obj.cells (rtC rt0 rx0).toArray 53 (0,0))],[(bt,tobj p len cap j.2)]]) [] .any (λi hi=>?_) (λ_ _ _ _=>trivial) ?_)))
   ·exact Zev 4 (λj:QuaV×Nat=> .agg (quC j.1).toArray) (λj=>BdQu j.1) (λj=>tobj p len cap j.2) (λ_=>[]) rfl rfl rfl (.head _) (λw M=>Cal.mono (ZiM w (hT.later M.ext) (M.at_ _ (Zak (i:=4) rfl))) λr w' h=>by
     obtain⟨o,k',ho,qq,N⟩:=h
     exact⟨(o,k'),qq,ho.b,by simpa using N⟩) (λ_=>rfl)
   refine Zaw 60 rfl (Zg5 (κ:=Int×Nat) (λ_ j=> .int .i64 j.1) (λ_ j=>True) (λ_ j=>[e7,[(b6,Obj.cells (rtC (⟨self,sq,t1,q,hl,t2,0,[],[],[],[],[],[],[]⟩:RtV) ⟨.slice r6 mo.length d6, .slice r7 aj.length d7, .slice none 0 0, .slice none 0 0, .slice none 0 0, .slice none 0 0, .slice none 0 0⟩).toArray 53 (0,0))],e6,[(b4,Obj.cells (rtC rt0 rx0).toArray 53 (0,0))],[(bt,tobj p len cap j.2)]]) [] .any (λi hi=>?_) (λ_ _ _ _=>trivial) ?_)
   ·exact vAR
   refine Zaw 60 rfl (Zg5 (κ:=Int×Nat) (λ_ j=> .int .i64 j.1) (λ_ j=>True) (λ_ j=>[e7,[(b6,Obj.cells (rtC (⟨self,sq,t1,q,hl,t2,0,[],[],[],[],[],[],[]⟩:RtV) ⟨.slice r6 mo.length d6, .slice r7 aj.length d7, .slice none 0 0, .slice none 0 0, .slice none 0 0, .slice none 0 0, .slice none 0 0⟩).toArray 53 (0,0))],e6,[(b4,Obj.cells (rtC rt0 rx0).toArray 53 (0,0))],[(bt,tobj p len cap j.2)]]) [] .any (λi hi=>?_) (λ_ _ _ _=>trivial) ?_)
   ·exact vAR
   refine Zg5 (κ:=Unit) (λi _=> .agg (ajC (⟨j,i.1.1.2.1,i.1.2.1,i.2.1⟩:AdjV)).toArray) (λ_ _=>True) (λi _=>[e7,[(b6,Obj.cells (rtC (⟨self,sq,t1,q,hl,t2,0,[],[],[],[],[],[],[]⟩:RtV) ⟨.slice r6 mo.length d6, .slice r7 aj.length d7, .slice none 0 0, .slice none 0 0, .slice none 0 0, .slice none 0 0, .slice none 0 0⟩).toArray 53 (0,0))],e6,[(b4,Obj.cells (rtC rt0 rx0).toArray 53 (0,0))],[(bt,tobj p len cap i.2.2)]]) [(4,57),(7,60),(10,63)] .any (λi hi=>?_) (λ_ _ _ _=>trivial) ?_
   ·exact OpF.mono (Zqb (λa w F M R r=>Zaq F rfl (ZzH _ _ _ _) r)) λu r h=>⟨(),h.1,trivial,h.2⟩
   refine Zg5 (κ:=Nat) (λ_ j=> .slice (some ⟨j,0,none⟩) 1 1) (λ_ _=>True) (λi b=>[[(b,Obj.cells (ajC (⟨j,i.1.1.1.2.1,i.1.1.2.1,i.1.2.1⟩:AdjV)).toArray 124 (0,0))],e7,[(b6,Obj.cells (rtC (⟨self,sq,t1,q,hl,t2,0,[],[],[],[],[],[],[]⟩:RtV) ⟨.slice r6 mo.length d6, .slice r7 aj.length d7, .slice none 0 0, .slice none 0 0, .slice none 0 0, .slice none 0 0, .slice none 0 0⟩).toArray 53 (0,0))],e6,[(b4,Obj.cells (rtC rt0 rx0).toArray 53 (0,0))],[(bt,tobj p len cap i.1.2.2)]]) [(11,64)] .any (λi hi=>?_) (λ_ _ _ _=>trivial) ?_
   ·exact Zt7 rfl rfl rfl (Zfv trivial)
   refine Zg5 (κ:=Value×EN) (λ_ b=>b.1) (λi b=>OwnS 124 8 b.1 (aj++[(⟨j,i.1.1.1.1.2.1,i.1.1.1.2.1,i.1.1.2.1⟩:AdjV)]).length (ajsC (aj++[(⟨j,i.1.1.1.1.2.1,i.1.1.1.2.1,i.1.1.2.1⟩:AdjV)])) b.2) (λi b=>[[(i.2,Obj.cells (ajC (⟨j,i.1.1.1.1.2.1,i.1.1.1.2.1,i.1.1.2.1⟩:AdjV)).toArray 124 (0,0))],b.2,[(b6,Obj.cells (rtC (⟨self,sq,t1,q,hl,t2,0,[],[],[],[],[],[],[]⟩:RtV) ⟨.slice r6 mo.length d6, .slice r7 aj.length d7, .slice none 0 0, .slice none 0 0, .slice none 0 0, .slice none 0 0, .slice none 0 0⟩).toArray 53 (0,0))],e6,[(b4,Obj.cells (rtC rt0 rx0).toArray 53 (0,0))],[(bt,tobj p len cap i.1.1.2.2)]]) [(12,65)] .any (λi hi=>?_) (λ_ _ _ _=>trivial) ?_
   ·exact Zns (enc:=ajC) (x0:=(⟨j,i.1.1.1.1.2.1,i.1.1.1.2.1,i.1.1.2.1⟩:AdjV)) (f:=λe=>[[(i.2,Obj.cells (ajC (⟨j,i.1.1.1.1.2.1,i.1.1.1.2.1,i.1.1.2.1⟩:AdjV)).toArray 124 (0,0))],e,[(b6,Obj.cells (rtC (⟨self,sq,t1,q,hl,t2,0,[],[],[],[],[],[],[]⟩:RtV) ⟨.slice r6 mo.length d6, .slice r7 aj.length d7, .slice none 0 0, .slice none 0 0, .slice none 0 0, .slice none 0 0, .slice none 0 0⟩).toArray 53 (0,0))],e6,[(b4,Obj.cells (rtC rt0 rx0).toArray 53 (0,0))],[(bt,tobj p len cap i.1.1.2.2)]]) rfl rfl o7 ZpP (λq hq=>List.mem_cons_of_mem _ (List.mem_map_of_mem hq)) (.head _) (Zhn trivial) Q0 Q0 (λent=>ZpP.symm) (Zhm _)
   refine Zis rfl (by rintro i _ q hq;simp at hq;rcases hq with rfl|rfl|rfl|rfl|rfl|rfl<;>simp) ?_
   rintro⟨⟨⟨⟨⟨⟨_,o,_⟩,ta,_⟩,tb,k8⟩,_⟩,bz⟩,v17,e17⟩ ⟨⟨⟨⟨⟨⟨_,ho⟩,_⟩,_⟩,_⟩,_⟩,hO17⟩
   refine⟨_,rfl,?_⟩
   dsimp only at ho hO17⊢
   obtain⟨rN,cN,rfl,-⟩:=Zbr hO17
   refine W3 [1,0,5,0,2] ?_
   exact yN (j+1,aj++[⟨j,o,ta,tb⟩], .slice rN _ cN,e17,k8) ⟨by dsimp only;omega,by dsimp only;omega,hO17,ZbW iq ho,by simp;omega⟩
 ·refine W3 [7,0,2,0,6] ?_
  refine ZaX (ι:=List SrcV×Value×Nat×EN) 4 (λj=>j.2.1) (λj=>AtE 38 j.2.1 j.1.length (srsC j.1) j.2.2.2/\(∀y∈j.1,IsSr y)/\j.1.length<=1000) (λj=>tobj p len cap j.2.2.1) (λj=>[j.2.2.2]) rfl rfl rfl (λw M=>Cal.mono (Zoi now hnow w (hT.later M.ext) (M.at_ _ (Zak (i:=4) rfl))) λr w' h=>by
   obtain⟨m,k',ent,h1,h2,h3,N⟩:=h
   exact⟨(m,r,k',ent),rfl,⟨h1.atE,h2,Nat.le_trans h3 (by decide)⟩,by simpa using N⟩) (λ_=>rfl) ?_
  rintro⟨ls,v8,k9,e8⟩ ⟨o8,i8,l8⟩
  dsimp only[List.nil_append,List.cons_append] at o8 i8 l8⊢
  obtain⟨r8,d8,rfl⟩:=o8.q
  refine W3 [1,0,7] ?_
  refine ZaX (ι:=List RouV×Value×Nat×EN) 5 (λj=>j.2.1) (λj=>AtE 39 j.2.1 j.1.length (rosC j.1) j.2.2.2/\(∀y∈j.1,IsRo y)/\j.1.length<=512) (λj=>tobj p len cap j.2.2.1) (λj=>[j.2.2.2]) rfl rfl rfl (λw M=>Cal.mono (ZpR now hnow w (hT.later M.ext) (M.at_ _ (Zak (i:=5) rfl))) λr w' h=>by
   obtain⟨m,k',ent,h1,h2,h3,N⟩:=h
   exact⟨(m,r,k',ent),rfl,⟨h1.atE,h2,h3⟩,by simpa using N⟩) (λ_=>rfl) ?_
  rintro⟨lr,vr,k10,er⟩ ⟨ar,ir,lr9⟩
  dsimp only[List.nil_append,List.cons_append] at ar ir lr9⊢
  obtain⟨qr,cr,rfl⟩:=ar.q
  refine gQ 5 rfl (Zba ?_)
  refine Zau (ι:=Nat×(List RouV)×Value×EN) ⟨λ(i,out,u,e9)=>lr.length-i,λ(i,out,u,e9)=>i<=lr.length/\OwnS 76 39 u out.length (rosC out) e9/\out.Sublist (lr.take i),λ(i,out,u,e9)=>[(76, .int .i64 i),(75, .int .i64 lr.length),(74, .slice qr lr.length cr),(5, .int .u64 self),(6, .pointer (some ⟨b6,0,none⟩)),(0, .pointer (some ⟨bt,0,none⟩)),(1, .int .i64 now),(4, .pointer (some ⟨b4,0,none⟩))],λ(i,out,u,e9)=>[e9,er,e8,e7,[(b6,Obj.cells (rtC (⟨self,sq,t1,q,hl,t2,0,[],[],[],[],[],[],[]⟩:RtV) ⟨.slice r6 mo.length d6, .slice r7 aj.length d7, .slice r8 ls.length d8,u, .slice none 0 0, .slice none 0 0, .slice none 0 0⟩).toArray 53 (0,0))],e6,[(b4,Obj.cells (rtC rt0 rx0).toArray 53 (0,0))],[(bt,tobj p len cap k10)]]⟩ (0,[],_,[]) ⟨by first|omega|(dsimp only;omega),OwnS.nilL _ _ _,by simp⟩ (λa F=>F.only [76,75,74,5,6,0,1,4] rfl) Qa ?_
  rintro⟨i,out,u9,e9⟩ ⟨hi,o9,hsub⟩
  dsimp only at hi o9 hsub⊢
  obtain⟨r9,d9,rfl,-⟩:=Zbr o9
  have hol:out.length<=i:=by have:=hsub.length_le;rw[List.length_take] at this;omega
  by_cases hlt2:i<lr.length
  ·obtain⟨br,orr,csr,tr,fzr,rfl,rfl,hsr⟩:=ar.mem Q0
   obtain⟨x,hx0⟩:∃x,x=lr[i]:=⟨_,rfl⟩
   have hxi:IsRo x:=ir _ (hx0▸List.getElem_mem hlt2)
   have f1:seg csr (orr+(i:Int).toNat*39) 39=some (roC x):=by rw[hx0];exact Zal (Zbw ir) hsr hlt2 Q0
   by_cases c1:x.to.rt=self
   ·have c1t:(!decide (x.to.rt=self))=false:=by simp[c1]
    refine W3 [6,0,6,0,0] ?_
    refine Zac λb9=>?_
    refine W3 [0,6,0,3,0,12,0,2] ?_
    exact yN (i+1,out,_,_) ⟨by dsimp only;omega,by assumption,Zhw hsub⟩
   ·have c1t:(!decide (x.to.rt=self))=true:=by simp[c1]
    by_cases c2:x.nb=self
    ·have c2t:(!decide (x.nb=self))=false:=by simp[c2]
     refine W3 [6,0,6,0,0] ?_
     refine Zac λb9=>?_
     refine W3 [0,6,0,3,0,1,0,5,0,4,0,2] ?_
     exact yN (i+1,out,_,_) ⟨by dsimp only;omega,by assumption,Zhw hsub⟩
    ·have c2t:(!decide (x.nb=self))=true:=by simp[c2]
     refine W3 [6,0,6,0,0] ?_
     refine Zac λb9=>?_
     refine W3 [0,6,0,3,0,1,0,5,0,2,0,0] ?_
     refine g_bs rfl rfl rfl (ZcK Qd) (λb94=>?_)
     refine ZaY 2 0 (enc:=roC) rfl rfl Qd rfl rfl (Zdy Qd) Q4 (λ_=>rfl) (λv95 es95 hO95=>?_) (Zd1 _)
     refine W3 [1,0,4,0,2] ?_
     exact yN (i+1,out++[x],_,_) ⟨by dsimp only;omega,by assumption,Zpl hlt2 hx0 hsub⟩
  ·have hil:i=lr.length:=by omega
   rw[hil,List.take_length] at hsub
   have i9:∀y∈out,IsRo y:=λy hy=>ir y (hsub.subset hy)
   refine W3 [6,0,2,0,8,0] ?_
   have hbt:bt<W.heap.size:=(Array.getElem?_eq_some_iff.1 hb).1
   have hol9:out.length<=512:=by omega
   clear ar ir
   refine ZaX (ι:=List InsV×Value×Nat×EN) 7 (λj=>j.2.1) (λj=>AtE 40 j.2.1 j.1.length (insC j.1) j.2.2.2/\(∀y∈j.1,IsIn y)/\j.1.length<=7) (λj=>tobj p len cap j.2.2.1) (λj=>[j.2.2.2]) rfl rfl rfl (λw M=>Cal.mono (Zk6 now hnow out i9 Q0 _ w (o9.slAt M (λq hq=>List.mem_append_left _ hq)) (Znr (o:=tobj p len cap k10) o9 M Q5 hbt) (hT.later M.ext) (M.at_ _ (Zak (i:=7) rfl))) λr w' h=>by
    obtain⟨m,k',ent,h1,h2,h3,N⟩:=h
    exact⟨(m,r,k',ent),rfl,⟨h1.atE,h2,h3⟩,by simpa using N⟩) (λ_=>rfl) ?_
   rintro⟨li,vi,k11,ei⟩ ⟨ai,ii,li7⟩
   dsimp only[List.nil_append,List.cons_append] at ai ii li7⊢
   obtain⟨qi,ci,rfl⟩:=ai.q
   refine gQ 5 rfl (Zba ?_)
   refine Zau (ι:=Nat×(List InsV)×Value×EN) ⟨λ(i,oi,u,e10)=>li.length-i,λ(i,oi,u,e10)=>i<=li.length/\OwnS 74 40 u oi.length (insC oi) e10/\oi.Sublist (li.take i),λ(i,oi,u,e10)=>[(104, .int .i64 i),(103, .int .i64 li.length),(102, .slice qi li.length ci),(5, .int .u64 self),(6, .pointer (some ⟨b6,0,none⟩)),(0, .pointer (some ⟨bt,0,none⟩)),(1, .int .i64 now),(4, .pointer (some ⟨b4,0,none⟩))],λ(i,oi,u,e10)=>[e10,ei,e9,er,e8,e7,[(b6,Obj.cells (rtC (⟨self,sq,t1,q,hl,t2,0,[],[],[],[],[],[],[]⟩:RtV) ⟨.slice r6 mo.length d6, .slice r7 aj.length d7, .slice r8 ls.length d8, .slice r9 out.length d9,u, .slice none 0 0, .slice none 0 0⟩).toArray 53 (0,0))],e6,[(b4,Obj.cells (rtC rt0 rx0).toArray 53 (0,0))],[(bt,tobj p len cap k11)]]⟩ (0,[],_,[]) ⟨by first|omega|(dsimp only;omega),OwnS.nilL _ _ _,by simp⟩ (λa F=>F.only [104,103,102,5,6,0,1,4] rfl) Qa ?_
   rintro⟨i,oi,u10,e10⟩ ⟨hi,o10,hsub2⟩
   dsimp only at hi o10 hsub2⊢
   obtain⟨r10,d10,rfl,-⟩:=Zbr o10
   have hol2:oi.length<=i:=by have:=hsub2.length_le;rw[List.length_take] at this;omega
   by_cases hlt3:i<li.length
   ·obtain⟨br,orr,csr,tr,fzr,rfl,rfl,hsr⟩:=ai.mem Q0
    obtain⟨x,hx0⟩:∃x,x=li[i]:=⟨_,rfl⟩
    have hxi:IsIn x:=ii _ (hx0▸List.getElem_mem hlt3)
    have f1:seg csr (orr+(i:Int).toNat*40) 40=some (inC x):=by rw[hx0];exact Zal (ZbU ii) hsr hlt3 Q0
    by_cases c1:x.to.rt=self
    ·have c1t:(!decide (x.to.rt=self))=false:=by simp[c1]
     refine W3 [6,0,6,0,0] ?_
     refine Zac λb11=>?_
     refine W3 [0,6,0,3,0,12,0,2] ?_
     exact yN (i+1,oi,_,_) ⟨by dsimp only;omega,by assumption,Zhw hsub2⟩
    ·have c1t:(!decide (x.to.rt=self))=true:=by simp[c1]
     by_cases c2:x.nb=self
     ·have c2t:(!decide (x.nb=self))=false:=by simp[c2]
      refine W3 [6,0,6,0,0] ?_
      refine Zac λb11=>?_
      refine W3 [0,6,0,3,0,1,0,5,0,4,0,2] ?_
      exact yN (i+1,oi,_,_) ⟨by dsimp only;omega,by assumption,Zhw hsub2⟩
     ·have c2t:(!decide (x.nb=self))=true:=by simp[c2]
      refine W3 [6,0,6,0,0] ?_
      refine Zac λb11=>?_
      refine W3 [0,6,0,3,0,1,0,5,0,2,0,0] ?_
      refine g_bs rfl rfl rfl (Zcw Qd) (λb122=>?_)
      refine ZaY 2 0 (enc:=inC) rfl rfl Qd rfl rfl (Zbu Qd) Q4 (λ_=>rfl) (λv123 es123 hO123=>?_) (ZcE _)
      refine W3 [1,0,4,0,2] ?_
      exact yN (i+1,oi++[x],_,_) ⟨by dsimp only;omega,by assumption,Zpl hlt3 hx0 hsub2⟩
   ·have hil2:i=li.length:=by omega
    rw[hil2,List.take_length] at hsub2
    have i10:∀y∈oi,IsIn y:=λy hy=>ii y (hsub2.subset hy)
    have hol10:oi.length<=7:=by omega
    clear ai ii
    refine W3 [6,0,2,0,6] ?_
    refine ZaX (ι:=List ReqV×Value×Nat×EN) 9 (λj=>j.2.1) (λj=>OwnS 171 40 j.2.1 j.1.length (rqsC j.1) j.2.2.2/\RqB j.1/\j.1.length<=64) (λj=>tobj p len cap j.2.2.1) (λj=>[j.2.2.2]) rfl rfl rfl (λw M=>Cal.mono (Zl1 now hnow w (hT.later M.ext) (M.at_ _ (Zak (i:=9) rfl))) λr w' h=>by
     obtain⟨m,k',ent,h1,h2,h3,N⟩:=h
     exact⟨(m,r,k',ent),rfl,⟨h1,h2,h3⟩,by simpa using N⟩) (λ_=>rfl) ?_
    rintro⟨lq,vq,k12,e11⟩ ⟨o11,i11,l11⟩
    dsimp only[List.nil_append,List.cons_append] at o11 i11 l11⊢
    obtain⟨r11,d11,rfl,-⟩:=Zbr o11
    refine W3 [1,0,5,0] ?_
    have hsI:IsRt (⟨self,sq,t1,q,hl,t2,0,mo,aj,ls,out,oi,lq,[]⟩:RtV):=⟨i6,λ_ _=>trivial,i8,i9,i10,i11.1,λy hy=>(List.not_mem_nil hy).elim,iq⟩
    refine ZaU (ι:=Value×EN) (λj=>j.1) (λj=>OwnS 100 37 j.1 (ZgS (⟨self,sq,t1,q,hl,t2,0,mo,aj,ls,out,oi,lq,[]⟩:RtV)).length (avsC (ZgS (⟨self,sq,t1,q,hl,t2,0,mo,aj,ls,out,oi,lq,[]⟩:RtV))) j.2) (λj=>[j.2]) rfl rfl (λw M=>Cal.mono (ZkQ (⟨self,sq,t1,q,hl,t2,0,mo,aj,ls,out,oi,lq,[]⟩:RtV) ⟨.slice r6 mo.length d6, .slice r7 aj.length d7, .slice r8 ls.length d8, .slice r9 out.length d9, .slice r10 oi.length d10, .slice r11 lq.length d11, .slice none 0 0⟩ hsI w ⟨o6.slAt M (λq hq=>List.mem_flatten_of_mem Q5 hq),o7.slAt M (λq hq=>List.mem_flatten_of_mem Q5 hq),o8.slAt (λq hq=>M.at_ q (List.mem_flatten_of_mem Q5 hq)),o9.slAt M (λq hq=>List.mem_flatten_of_mem Q5 hq),o10.slAt M (λq hq=>List.mem_flatten_of_mem Q5 hq),o11.slAt M (λq hq=>List.mem_flatten_of_mem Q5 hq),SlAt.nil _ _⟩) λr w' hh=>by
     obtain⟨ent,e1,e2⟩:=hh
     exact⟨(r,ent),rfl,e1,by simpa using e2⟩) ?_
    rintro⟨va,ea⟩ oa
    dsimp only[List.nil_append,List.cons_append] at oa⊢
    obtain⟨ra,da,rfl,-⟩:=Zbr oa
    have hla:=ZpG (⟨self,sq,t1,q,hl,t2,0,mo,aj,ls,out,oi,lq,[]⟩:RtV)
    skip
    refine ZaX (ι:=List AdvV×Value×Nat×EN) 11 (λj=>j.2.1) (λj=>OwnS 100 37 j.2.1 j.1.length (avsC j.1) j.2.2.2/\(∀y∈j.1,IsAv y)/\j.1.length<=1000) (λj=>tobj p len cap j.2.2.1) (λj=>[j.2.2.2]) rfl rfl rfl (λw M=>Cal.mono (ZuT (ZgS (⟨self,sq,t1,q,hl,t2,0,mo,aj,ls,out,oi,lq,[]⟩:RtV)) (Zsg hsI) Q0 _ w (oa.slAt M (λq hq=>List.mem_flatten_of_mem Q5 hq)) (λb o s k c e hq=>by have h9:=Znr (o:=tobj p len cap k12) oa M Q5 hbt b o s k c e;simp at hq;omega) (hT.later M.ext) (M.at_ _ (Zak (i:=11) rfl))) λr w' h=>by
     obtain⟨m,k',ent,h1,h2,h3,N⟩:=h
     exact⟨(m,r,k',ent),rfl,⟨h1,h2,Nat.le_trans h3 hla⟩,by simpa using N⟩) (λ_=>rfl) ?_
    rintro⟨lv,vv,k13,e12⟩ ⟨o12,i12,l12⟩
    dsimp only[List.nil_append,List.cons_append] at o12 i12 l12⊢
    obtain⟨r12,d12,rfl,-⟩:=Zbr o12
    refine gQ 2 rfl ?_
    refine ZaX (ι:=Int×Nat) 12 (λj=> .int .i64 j.1) (λj=>True) (λj=>tobj p len cap j.2) (λ_=>[]) rfl rfl rfl (λw M=>Cal.mono (Zc5 now hnow.1 hnow.2 w (hT.later M.ext) (M.at_ _ (Zak (i:=12) rfl))) λr w' h=>by
      obtain⟨x,k',q,_,N⟩:=h
      exact⟨(x,k'),q,trivial,by simpa using N⟩) (λ_=>rfl) ?_
    rintro⟨tf,k14⟩-
    dsimp only[List.nil_append,List.cons_append]
    refine W3 [0,1,0,4,0,0,3] ?_
    refine Zbn 11 rfl rfl rfl rfl rfl λw M=>?_
    exact⟨⟨self,sq,t1,q,hl,t2,tf,mo,aj,ls,out,oi,lq,lv⟩,⟨_,_,_,_,_,_,_⟩,⟨e6,e7,e8,e9,e10,e11,e12⟩,_,rfl,i11.2,⟨i6,λ_ _=>trivial,i8,i9,i10,i11.1,i12,iq⟩,⟨by dsimp only;omega,by dsimp only;omega,l8,by dsimp only;omega,by dsimp only;omega,by dsimp only;omega,l12⟩,⟨o6.atE,o7.atE,o8,o9.atE,o10.atE,o11.atE,o12.atE⟩,rowT (M.sub (subO Qf))⟩
def og1:OrgV:=⟨[32,1,0,0,0,0,0,0,0,0,0,0,0,0,0,1],128,[0,0,0,0,0,0,0,0,0,0,0,0,0,0,0,0],0⟩
theorem ZsX(W:World):Cal prog 278 [.int .u64 1].toArray W λv w'=>v= .int .i64 1/\Ext [] W w':=by
 refine yS (n:=25) Tryz.func278 rfl rfl (gQ 39 rfl (Zei rfl (w_u8 Q0 Q0) (g_v (v:= .int .u8 1) (λa w F M R r=>ZxK (q:=1) (F.e rfl) (F.e rfl) rfl (Nat.le_of_ble_eq_true Q7) r) (Zei rfl Qv ?_))))
 refine W3 [0,4] ?_
 exact vA5
theorem ZyJ(W:World):Cal prog 181 [.int .u64 1].toArray W λv w'=>v= .int .i64 1/\Ext [] W w':=by
 refine yS (n:=8) Tryz.func181 rfl rfl ?_
 refine W4 [12,0,4] @ZsX ?_
 exact vA5
theorem ZyP(s g:Value)(W:World):Cal prog 269 [s, .int .i64 0, .int .i64 1,g].toArray W λv w'=>v= .tuple #[]/\Ext [] W w':=by
 refine yS (n:=53) Tryz.func269 rfl rfl ?_
 refine W3 [3,0,4] ?_
 refine Zau (ι:=Unit) ⟨λ_=>0,λ_=>True,λ_=>[(8, .int .i64 1),(2, .int .i64 1)],λ_=>[]⟩ () trivial (λa F=>F.only [8,2] rfl) (List.nil_sublist _) ?_
 rintro⟨⟩-
 refine W3 [11,0,1] ?_
 exact Zmr rfl rfl λw M=>⟨rfl,M.ext⟩
theorem Zyb(s g:Value)(W:World):Cal prog 180 [s, .int .i64 0, .int .i64 1, .int .i64 1,g].toArray W λv w'=>v= .tuple #[]/\Ext [] W w':=by
 refine yS (n:=148) Tryz.func180 rfl rfl (gQ 11 rfl (Zau (ι:=Unit) ⟨λ_=>0,λ_=>True,λ_=>[(0,s),(1, .int .i64 0),(2, .int .i64 1),(3, .int .i64 1),(4,g)],λ_=>[]⟩ () trivial (λa F=>F.only [0,1,2,3,4] rfl) (List.nil_sublist _) ?_))
 rintro⟨⟩-
 refine W4 [5,0,17,0,5,0,1] @ZyP ?_
 refine ZdT rfl rfl (λa w F M=> .nil) ?_;intro w M;(try dsimp only[Zce])
 exact⟨rfl,M.ext⟩
theorem Zr7(q:Option Addr)(c:Nat)(g:Value)(W:World):Cal prog 85 [.slice q 1 c,g].toArray W λv w'=>v= .tuple #[]/\Ext [] W w':=by
 refine yS (n:=14) Tryz.func85 rfl rfl (gQ 11 rfl (Zei rfl (Ze9 Q0 Q0) ?_))
 refine W4 [0,1,0,1] (T2 @ZyJ @Zyb) ?_
 exact Zmr rfl rfl λw M=>⟨rfl,M.ext⟩
theorem ZmC(q:Option Addr)(c:Nat)(W:World):Cal prog 89 [.slice q 1 c].toArray W λv w'=>v= .slice q 1 c/\Ext [] W w':=by
 exact yS (n:=61) Tryz.func89 rfl rfl (gQ 22 rfl (Zae rfl rfl rfl λw M=>⟨rfl,M.ext⟩))
theorem Zp8(W:World):Cal prog 49 [.int .i64 1].toArray W λv w'=>v= .agg (ogC og1).toArray/\Ext [] W w':=by
 refine yS (n:=8) Tryz.func49 rfl rfl (gQ 2 rfl (Zac λb2=>gQ 5 rfl (Zei rfl (w_u8 Q0 Q0) ?_)))
 refine W3 [0,0,0,0,3] ?_
 exact vBj
def st1:RtV:=⟨7,0,5,21,0,5,5,[og1],[],[],[],[],[],[]⟩
theorem Zqk:IsOg og1:=by
 constructor<;>exact⟨rfl,by decide⟩
theorem Zr5(v:Value)(W:World)(hS:SlAt W 34 v 1 (ogsC [og1])):Cal prog 31 [.int .u64 7, .int .i64 5,v].toArray W λr w'=>∃u ent,r= .tuple #[.agg (rtC st1 ⟨u, .slice none 0 0, .slice none 0 0, .slice none 0 0, .slice none 0 0, .slice none 0 0, .slice none 0 0⟩).toArray, .int .i64 0]/\OwnS 85 34 u [og1].length (ogsC [og1]) ent/\Mem [] W w' ent:=by
 obtain⟨q,cap,rfl,_⟩:=id hS
 have hm:=hS.memB [] Q5
 have hxi:=Zqk
 have p1:og1.dip.length=16:=hxi.1.len
 have p2:og1.sip.length=16:=hxi.2.len
 have v1:ZcI og1.dip og1.dbits=true:=by decide
 have v2:ZcI og1.sip og1.sbits=true:=by decide
 have ht:Zag 5=true:=by decide
 refine yS (n:=56) Tryz.func31 rfl rfl (gQ 2 rfl (Zai rfl rfl λb3=>Zac λb6=>?_))
 refine W3 [6,0,15] ?_
 refine Zau (ι:=Nat) ⟨λ(i:Nat)=>1-i,λ(i:Nat)=>i<=1,λ(i:Nat)=>[(16, .int .i64 i),(15, .int .i64 (1:Nat)),(14, .slice q 1 cap),(3, .pointer (some ⟨b3,0,none⟩)),(1, .int .i64 5),(2, .slice q 1 cap),(6, .pointer (some ⟨b6,0,none⟩))],λ(i:Nat)=>[[(b6, .cells (rtC rt0 rx0).toArray 53 (0,0))],[(b3, .cells [.int .u64 7].toArray 41 (0,0))]]⟩ 0 Q0 (λa F=>F.only [16,15,14,3,1,2,6] rfl) Qa ?_
 intro i hi_i
 replace hi_i:i<=1:=hi_i
 by_cases hlt_i:i<1
 ·obtain⟨b,o,cs,t',fz,rfl,hb,hs⟩:=hm Q0
  have f1:seg cs (o+(i:Int).toNat*34) 34=some (ogC og1):=by
   have h1:seg cs (o+(i:Int).toNat*34) 34=some (ogC ([og1][i]'hlt_i)):=Zal (ls:=[og1]) (i:=i) (ZdF (by simpa using hxi)) hs hlt_i Q0
   have h0:i=0:=by omega
   subst h0
   exact h1
  refine W3 [6,0,6,0,0] ?_
  refine Zac λb9=>?_
  refine W4 [0,5,0,0,3,0,0,9,0,2] @ZdK ?_
  exact yN (i+1) Q6
 ·refine W4 [6,0,2,0,6,0,9] @Zc9 ?_
  refine Zdr rfl rfl (λw M=>ZuC [og1] _ _ (hS.later M.ext) (by decide)) (λv37 e37 hO=>?_)
  obtain⟨q4,c4,rfl,hq4⟩:=Zbr hO
  refine gQ 6 rfl (Zq9 (us:=[Value.pointer (some ⟨b3,0,none⟩)]) rfl rfl ?_)
  refine W4 [0,5,0,15,1009,0,2,0,3,0,0,0,0,4] (T3 @Zr7 @ZmC @Zfc) ?_
  exact Zcb 1 rfl rfl rfl rfl rfl rfl λw M=>⟨_,_,rfl,hO,M.sub (List.sublist_append_left _ _)⟩
def hel3:NotV:=⟨1,3,0,0,dvN,0⟩
theorem ZqY:IsNo hel3:=ZnZ
theorem Zv2(W:World):Cal prog 78 [.agg (noC hel3).toArray].toArray W λr w'=>r= .bool true/\Ext [] W w':=by
 refine yS (n:=117) Tryz.func78 rfl rfl (gQ 2 rfl (Zai rfl rfl λb1=>?_))
 refine W3 [6,0] ?_
 refine g_v (λa w F M R r=>Zaq F rfl (Znz _) r) (Zac λb3=>?_)
 refine W3 [0,6,0,13,0,1,0,4,0,0] ?_
 refine g_v (λa w F M R r=>Zi5 (F.e rfl) (F.e rfl) Q2 Q2 r) ?_
 exact gQ 6 rfl (Zae rfl rfl rfl λw M=>⟨rfl,M.ext⟩)
theorem Zwj(W:World):Cal prog 77 [.agg (noC hel3).toArray].toArray W λr w'=>r= .bool false/\Ext [] W w':=by
 refine yS (n:=6) Tryz.func77 rfl rfl (gQ 2 rfl (Zai rfl rfl λb1=>?_))
 refine W4 [5,0,0,5] @Zv2 ?_
 exact vA5
theorem ZyS(v:Value)(W:World)(hS:SlAt W 40 v 1 (nosC [hel3])):Cal prog 171 [v, .func (.func 77) #[] #[]].toArray W λr w'=>r= .int .i64 (-1)/\Ext [] W w':=by
 obtain⟨q,cap,rfl,_⟩:=id hS
 have hm:=hS.memB [] Q5
 have hxi:=ZqY
 refine yS (n:=19) Tryz.func171 rfl rfl (gQ 14 rfl (Zau (ι:=Nat) ⟨λ(i:Nat)=>1-i,λ(i:Nat)=>i<=1,λ(i:Nat)=>[(8, .int .i64 i),(7, .int .i64 (1:Nat)),(0, .slice q 1 cap),(1, .func (.func 77) #[] #[])],λ(i:Nat)=>[]⟩ 0 Q0 (λa F=>F.only [8,7,0,1] rfl) Qa ?_))
 intro i hi_i
 replace hi_i:i<=1:=hi_i
 by_cases hlt_i:i<1
 ·obtain⟨b,o,cs,t',fz,rfl,hb,hs⟩:=hm Q0
  have f1:seg cs (o+(i:Int).toNat*40) 40=some (noC hel3):=by
   have h1:seg cs (o+(i:Int).toNat*40) 40=some (noC ([hel3][i]'hlt_i)):=Zal (ls:=[hel3]) (i:=i) (ZjZ (by simpa using hxi)) hs hlt_i Q0
   have h0:i=0:=by omega
   subst h0
   exact h1
  refine W4 [6,0,15,0,0,0,7,0,2] Zwj ?_
  exact yN (i+1) Q6
 ·refine W3 [6,0,2,0,8] ?_
  exact vA5
theorem ZwV(v:Value)(W:World)(hS:SlAt W 40 v 1 (nosC [hel3])):Cal prog 79 [v, .func (.func 77) #[] #[]].toArray W λr w'=>r= .bool false/\Ext [] W w':=by
 refine yS (n:=9) Tryz.func79 rfl rfl ?_
 refine W4 [9,0,5] @ZyS ?_
 exact vA5
theorem ZoM(W:World):Cal prog 80 [.int .i64 1].toArray W λr w'=>r= .tuple [.func (.func 172) #[] #[], .bool true].toArray/\Ext [] W w':=by
 exact yS (n:=13) Tryz.func80 rfl rfl (gQ 29 rfl (Zbo rfl rfl rfl rfl λw M=>⟨rfl,M.ext⟩))
def quH:QuaV:=⟨true,1,1,4,0⟩
theorem ZvE(W:World):Cal prog 259 [.agg (quC qu0).toArray, .int .u16 3].toArray W λr w'=>r= .agg (quC quH).toArray/\Ext [] W w':=by
 refine yS (n:=54) Tryz.func259 rfl rfl (gQ 2 rfl (Zai rfl rfl λb2=>Zac λb4=>?_))
 refine W3 [4,0] ?_
 refine Zb6 (v:= .agg (quC qu0).toArray) rfl rfl (λw M=>Zfz qu0 BdQu.zero w) ?_
 refine W3 [0,6,0,0,0,0,7,0,15,0,0,0,4] ?_
 exact vBj
end
section
section
variable {c:Cx} {Q:Exit->Act->World->Prop} {ks:List KF} {fr:FN} {l:Row} {all:Array Oper} {rest:List Oper} {d:Nat} {ty:TypeId} {pos:String} {af:Array Edge} {g:Option (Nat×Bool)}
theorem Zwo{t e:TypeId}{x i:Operand}{k:IntKind}{len cap:Nat}{m:Int}(hx:Ev fr x=some (.slice p len cap))(hi:Ev fr i=some (.int k m)) [ht:TU c.P t (.slice e)] [hs:TSz c.P e sz](h0:0<=m)(h1:m<=len)(hk:∀q,G c Q ks (.ops all rest) ((d, .slice q (len-m.toNat) (cap-m.toNat))::fr) l)(hd:Nat.blt d c.n=true:=by rfl)(hg:gOk all fr g=some true:=by rfl):
  G c Q ks (.ops all (⟨some d, .slice t x (some i) none none,ty,pos,af,g⟩::rest)) fr l:=
 g_op rfl hd hg λa w F M=>Znu (F.e hx) (F.e hi) h0 h1 λq a' F'=>hk q a' w F' M
end
attribute [local irreducible] OpTo wpListIn Code.wpIn MW Cal
theorem ZAi(q:Option Addr)(c:Nat)(t g:Value)(W:World):Cal prog 313 [.slice q 0 c,t,g].toArray W λr w'=>r= .tuple [.int .i64 0, .bool false].toArray/\Ext [] W w':=by
 refine yS (n:=49) Tryz.func313 rfl rfl (gQ 22 rfl (Zau (ι:=Unit) ⟨λ_=>0,λ_=>True,λ_=>[(9, .int .i64 0),(10, .int .i64 0),(8, .int .i64 0),(0, .slice q 0 c),(1,t),(2,g)],λ_=>[]⟩ () trivial (λa F=>F.only [9,10,8,0,1,2] rfl) (List.nil_sublist _) ?_))
 rintro⟨⟩-
 refine W3 [11,0,23] ?_
 exact Zbo rfl rfl rfl rfl λw M=>⟨rfl,M.ext⟩
def ZAl(frm now:Int):AdjV:=⟨frm,qu0,0,now⟩
def ZkB(frm now:Int):AdjV:=⟨frm,quH,Zaz now 5,now⟩
theorem Zv9(s:RtV)(x:RtX)(now frm:Int)(va vs:Value)(b:Nat)(q:Option Addr)(c:Nat)(h7:x.aj= .slice q 0 c)(W:World)(hb:W.heap[b]? =some (.cells (stC s x now frm va vs).toArray 142 (0,0))):Cal prog 257 [.pointer (some ⟨b,0,none⟩)].toArray W λr w'=>r= .tuple [.int .i64 0, .bool false].toArray/\Ext [] W w':=by
 obtain⟨v6,v7,v8,v9,v10,v11,v12⟩:=x
 dsimp only at h7
 subst h7
 have hB:∀w',Ext [] W w'->w'.heap[b]? =some (.cells (stC s ⟨v6, .slice q 0 c,v8,v9,v10,v11,v12⟩ now frm va vs).toArray 142 (0,0)):=λw' E=>(E.block b (Array.getElem?_eq_some_iff.1 hb).1 Q5).trans hb
 have e1:nth (stC s ⟨v6, .slice q 0 c,v8,v9,v10,v11,v12⟩ now frm va vs) (0+0+7)=some (.slice q 0 c):=rfl
 have e2:nth (stC s ⟨v6, .slice q 0 c,v8,v9,v10,v11,v12⟩ now frm va vs) (0+15)=some (.int .u64 frm):=rfl
 refine yS (n:=16) Tryz.func257 rfl rfl ?_
 refine W4 [7,1014,1,0,2,0,1,0,1,0,0,4,0,3] @ZAi ?_
 exact Zbo rfl rfl rfl rfl λw M=>⟨rfl,M.ext⟩
theorem Zwg(q:Option Addr)(c:Nat)(ent:EN)(vb:Nat)(x0:AdjV)(W:World)(hO:OwnS 124 8 (.slice q 0 c) 0 [] ent)(hH:InW W ent)(hv:W.heap[vb]? =some (.cells (ajC x0).toArray 124 (0,0))):Cal prog 258 [.slice q 0 c, .int .i64 0, .slice (some ⟨vb,0,none⟩) 1 1].toArray W λr w'=>∃e',OwnS 124 8 r 1 (ajC x0) e'/\Mem (ent.map (·.1)) W w' e':=by
 have hH1:InW W ([ent]:Row).flatten:=by simpa using hH
 refine Zdw (n:=95) ([ent]:Row) hH1 Zbj Zbi Tryz.func258 rfl rfl rfl (gQ 9 rfl (Zwo rfl rfl Q0 Q0 λq1=>gQ 39 rfl (ZcF 0 rfl rfl hO rfl (m:=1) (ys:=ajC x0) (λw M=>?_) Q0 Q0 (λ_=>rfl) (λu e' hO'=>?_))))
 ·have hw:w.heap[vb]? =some (.cells (ajC x0).toArray 124 (0,0)):=by
   by_cases hb:∃p∈ent,p.1=vb
   ·obtain⟨p,hp,rfl⟩:=hb
    rw[M.at_ p (by simpa using hp),<-hH.at_ p hp,hv]
   ·exact(M.ext.block vb (Array.getElem?_eq_some_iff.1 hv).1 (by simpa using λo h=>hb ⟨_,h,rfl⟩)).trans hv
  have hS:SlAt w 8 (.slice (some ⟨vb,0,none⟩) 1 1) 1 (ajC x0):=⟨_,_,rfl,Q0,λ_ _=>trivial,rfl,λ_=>⟨vb,0,ajC x0,_,_,rfl,hw,rfl⟩⟩
  exact hS.src (Zhm _)
 exact gQ 5 rfl (Zae rfl rfl rfl λw M=>⟨e',hO',by simpa using M⟩)
section
variable {c:Cx} {Q:Exit->Act->World->Prop} {ks:List KF} {fr:FN} {xs:List (Nat×XP)} {rest:List Oper} {d:Nat} {ty:TypeId} {pos:String} {af:Array Edge} {k:Nat}
theorem Ztg{ol:List Oper}{rst:Row}(j:Nat){e:TypeId}{y y1 y2:Operand}{t2:Nat}{fn:FuncId}{ts:Array TypeId}{v1 v2:Value}{sz m:Nat}{us:List Value}{ent:EN} [hb:Zad c.P fn](hf:Ev fr y=some (.func (.func fn) #[] #[]))
  (hx:Ev fr y1=some v1) (hy:Ev fr y2=some v2) (hj:(j,XP.nw 1 o)∈xs)
  (hc:∀w b,InW w ent->w.heap[b]? =some o->Cal c.P fn [v1,v2, .slice (some ⟨b,0,none⟩) 1 1].toArray w λu w'=>∃e',OwnS e sz u m us e'/\Mem (ent.map (·.1)) w w' e')
  (hk:∀v' ent',OwnS e sz v' m us ent'->G c Q ks (.ops ol.toArray rest) ((d,v')::fr) (ent'::rst))
  (hlt:effX [k] [] [] n k (.call ⟨.value y,[y1,y2, .tmp t2].toArray,ts⟩)=true:=by rfl) (hnd:ZcU d fr=true:=by rfl) (hd:(ZaE ⟨some d, .call ⟨.value y,[y1,y2, .tmp t2].toArray,ts⟩,ty,pos,af,none⟩).contains j=true:=by rfl) (ht:(ol.toArray[j]?).bind (·.dst)=some t2:=by rfl)
  (hn:Nat.beq (k+1) n=true:=by rfl) (hdst:(ol.toArray[k]?).bind (·.dst)=some d:=by rfl):
  FE c Q ks ⟨ol,n,ent.map (·.1),[k],[],rst⟩ k (⟨some d, .call ⟨.value y,[y1,y2, .tmp t2].toArray,ts⟩,ty,pos,af,none⟩::rest) fr xs (EI (ι:=Unit) (λ_=>True) (λ_=>[]) (λ_=>ent::rst)):=by
 refine Zg5 (κ:=Value×EN) (λ_ b=>b.1) (λ_ b=>OwnS e sz b.1 m us b.2) (λ_ b=>b.2::rst) [] .any (λi hi=>?_) (λ_ _ _ _=>trivial) ?_ hlt hnd rfl
 ·intro a w F M hX
  obtain⟨n0,bx,hv,_,hbx⟩:=hX _ hj (by simpa using hd)
  have hv':a.eval (.tmp t2)= .slice (some ⟨bx,0,none⟩) 1 1:=by
   unfold ZaP at hv
   dsimp only at hv
   rw[ht] at hv
   exact hv
  have hin:InW w ent:=M.inW Q5
  refine Zav (F.e hf) (vs:=[v1,v2, .slice (some ⟨bx,0,none⟩) 1 1].toArray) (by simp[F.e hx,F.e hy,hv']) (Cal.mono (hc w bx hin hbx) λu w' h=>?_)
  obtain⟨e',h1,N⟩:=h
  exact⟨N.ext,e'::rst,⟨(u,e'),rfl,h1,rfl⟩,Mem.joinB M N⟩
 ·exact vBS
end
end
section
theorem Zyc{e:TypeId}{xs ys j:List Value}(h:OwnS e sz (.slice (some ⟨b,0,none⟩) n cap) n xs [(b, .cells (xs++j).toArray e (0,0))])(hl:ys.length=xs.length):OwnS e sz (.slice (some ⟨b,0,none⟩) n cap) n ys [(b, .cells (ys++j).toArray e (0,0))]:=by
 rcases h with⟨h,_⟩|⟨b',cap',j',h1,h2,h3,h4,h5⟩
 ·cases h
 ·cases h1
  have h6:j=j':=by simpa using h2
  subst h6
  exact .inr ⟨b,cap,j,rfl,rfl,hl.trans h3,h4,h5⟩
attribute [local irreducible] OpTo wpListIn Code.wpIn MW Cal
theorem Zs8(s:RtV)(v6 v8 v9 v10 v11 v12:Value)(now frm:Int)(va vs:Value)(b:Nat)(q:Option Addr)(c:Nat)(e7:EN)(hn0:0<=now)(hn1:now<=1099511627776)(hO:OwnS 124 8 (.slice q 0 c) 0 [] e7)(W:World)(hH:InW W ([e7,[(b, .cells (stC s ⟨v6, .slice q 0 c,v8,v9,v10,v11,v12⟩ now frm va vs).toArray 142 (0,0))]]:Row).flatten):Cal prog 172 [.pointer (some ⟨b,0,none⟩), .agg (noC hel3).toArray].toArray W λr w'=>r= .tuple #[]/\∃u e',OwnS 124 8 u [ZkB frm now].length (ajsC [ZkB frm now]) e'/\Mem (([e7,[(b, .cells (stC s ⟨v6, .slice q 0 c,v8,v9,v10,v11,v12⟩ now frm va vs).toArray 142 (0,0))]]:Row).flatten.map (·.1)) W w' ([e',[(b, .cells (stC s ⟨v6,u,v8,v9,v10,v11,v12⟩ now frm va vs).toArray 142 (0,0))]]:Row).flatten:=by
 refine Zdw (n:=67) _ hH Zbj Zbi Tryz.func172 rfl rfl rfl (gQ 2 rfl (Zai rfl rfl λb3=>gQ 5 rfl (Zb6 rfl rfl (λw M=>Zv9 s ⟨v6, .slice q 0 c,v8,v9,v10,v11,v12⟩ now frm va vs b q c rfl w (M.at_ (b,_) Q5)) (gQ 19 rfl (g_v (λa w F M R r=>Zan (F.e rfl) rfl r) (gQ 2 rfl (Zwr 2 rfl rfl rfl (gQ 7 rfl (Zik 1 rfl (gQ 1 rfl (Zil 18 67 17 rfl Q7 (Zaw 2 rfl (fe_v (λa w F M R r=>Zan (F.e rfl) rfl r) (Zaw 2 rfl (Zc1 1 rfl rfl rfl (Zaw 2 rfl (fe_v (λa w F M R r=>Zan (F.e rfl) rfl r) (Zaw 1 rfl (Zc1 1 rfl rfl rfl (Zaw 1 rfl (fe_v (λa w F M R r=>Zan (F.e rfl) rfl r) (Zaw 1 rfl (Zc1 1 rfl rfl rfl (fe_v (λa w F M R r=>Zaq F rfl rfl r) (Zln rfl rfl rfl rfl ?_)))))))))))))))))))))))))
 refine Ztg 16 rfl rfl rfl (.head _) (λw b' hin hb'=>Zwg q c e7 b' (ZAl frm now) w hO hin hb') (λu e' hO'=>?_)
 obtain⟨q',c',rfl,hq'⟩:=Zbr hO'
 obtain⟨b',j,rfl,rfl⟩:=hq' Q0
 refine W4 [0,2,0,5,0,2,0,1,0,4,1010,2,0,1,0,1,0,0,0,1,0,0,5,0,1,0,0,0,1,0,1] (T2 @ZvE @Zfc) ?_
 exact Zmr rfl rfl λw M=>⟨rfl, .slice (some ⟨b',0,none⟩) 1 c',[(b', .cells (ajC (ZkB frm now)++j).toArray 124 (0,0))],Zyc hO' rfl,M.sub (subO (.cons_cons _ (.cons _ (.refl _))))⟩
end
section
attribute [local irreducible] OpTo wpListIn Code.wpIn MW Cal
def heS(s:RtV):RtV:= {s with aj:=[ZkB 8 6]}
theorem Zwk(s:RtV)(x:RtX)(v:Value)(hs:IsRt s)(hv:Zaj s=true)(haj:s.aj=[])(hself:¬(8:Int)=s.self)(hB2:IsRt (heS s))(hB1:Zaj (heS s)=true)(hB3:Sq16 (heS s).rq)(hal:(setV 6 (heS s) []).2.length<=100000)(W:World)(hX:RtAt W s x)(hS:SlAt W 40 v 1 (nosC [hel3])):Cal prog 24 [.agg (rtC s x).toArray, .int .i64 6, .int .i64 6, .int .u64 8,v].toArray W λr w'=>∃x' e' u,r= .tuple #[.agg (rtC (setV 6 (heS s) []).1 x').toArray,u, .int .i64 0]/\RtOw (setV 6 (heS s) []).1 x' e'/\Mem [] W w' e'.row.flatten:=by
 obtain⟨qn,cn,rfl,_⟩:=id hS
 have hm:=hS.memB [] Q5
 have hxi:=ZqY
 have hn:Zag 6=true:=by decide
 have hsm:=Zsf hv
 refine yS (n:=97) Tryz.func24 rfl rfl (gQ 2 rfl (Zai rfl rfl λb5=>Zac λb10=>?_))
 refine W4 [12,0,0,2,0,6,0,3,0,7,0,10,0,3,0,16,0,9,0,2] (T3 @Zes @ZwV @Zc9) ?_
 refine ZaU (ι:=Nat×RtX×RtE) (λj=> .pointer (some ⟨j.1,0,none⟩)) (λj=>RtOw s j.2.1 j.2.2) (λj=>[(j.1, .cells (stC s j.2.1 6 8 (.slice none 0 0) (.slice none 0 0)).toArray 142 (0,0))]::j.2.2.row) rfl rfl (λw M=>Cal.mono (ZrG s x 6 8 hsm w (hX.later M.ext)) λr w2 h=>by obtain⟨b,y,e,h1,h2,h3⟩:=h;exact⟨(b,y,e),h1,h2,h3⟩) ?_
 rintro⟨bs,⟨v6,v7,v8,v9,v10,v11,v12⟩,⟨e6,e7,e8,e9,e10,e11,e12⟩⟩ oC
 dsimp only[RtE.row,List.cons_append,List.nil_append] at oC⊢
 have o7:=oC.aj
 dsimp only at o7
 rw[haj] at o7
 obtain⟨q7,c7,rfl,_⟩:=Zbr o7
 refine gQ 12 rfl (Zao (.s (.s (.s (.s (.s (.s .z)))))) (Zau (ι:=Nat×Value×EN) ⟨λj=>1-j.1,λj=>j.1<=1/\(j.1=0->j.2=(.slice q7 0 c7,e7))/\(j.1=1->OwnS 124 8 j.2.1 [ZkB 8 6].length (ajsC [ZkB 8 6]) j.2.2),λj=>[(68, .int .i64 j.1),(67, .int .i64 (1:Nat)),(66, .slice qn 1 cn),(14, .pointer (some ⟨bs,0,none⟩)),(10, .pointer (some ⟨b10,0,none⟩))],λj=>[j.2.2,[(bs, .cells (stC s ⟨v6,j.2.1,v8,v9,v10,v11,v12⟩ 6 8 (.slice none 0 0) (.slice none 0 0)).toArray 142 (0,0))],e12,e11,e10,e9,e8,e6,[(b10, .cells rtZ.toArray 53 (0,0))]]⟩ (0,_,_) ⟨Q0,λ_=>rfl,by simp⟩ (λa F=>F.only [68,67,66,14,10] rfl) (.cons_cons _ (.cons_cons _ (.cons_cons _ (.cons_cons _ (.cons_cons _ (.cons_cons _ (.cons_cons _ (.cons_cons _ (.cons_cons _ (List.nil_sublist _)))))))))) ?_))
 rintro⟨i,u,eu⟩ ⟨hi_i,h0,h1⟩
 dsimp only at hi_i h0 h1⊢
 by_cases hlt_i:i<1
 ·obtain⟨b,o,cs,t',fz,rfl,hb,hs⟩:=hm Q0
  have i0:i=0:=by omega
  subst i0
  cases h0 rfl
  have f1:seg cs (o+((0:Nat):Int).toNat*40) 40=some (noC hel3):=Zal (ls:=[hel3]) (i:=0) (ZjZ (by simpa using hxi)) hs (by decide) Q0
  refine W3 [13,0,0] ?_
  refine Zac λb16=>?_
  refine W4 [0,5,0,0,21,0] ZoM ?_
  refine ZfY (ι:=Value×EN) (λ_=> .tuple #[]) (λj=>OwnS 124 8 j.1 [ZkB 8 6].length (ajsC [ZkB 8 6]) j.2) (λj=>[j.2,[(bs, .cells (stC s ⟨v6,j.1,v8,v9,v10,v11,v12⟩ 6 8 (.slice none 0 0) (.slice none 0 0)).toArray 142 (0,0))]]) (.cons (.s .z) (.cons (.s .z) .nil)) rfl rfl (λw M hH=>Cal.mono (Zs8 s v6 v8 v9 v10 v11 v12 6 8 (.slice none 0 0) (.slice none 0 0) bs q7 c7 e7 (by decide) (by decide) o7 w hH) λr w2 h=>by obtain⟨h0,u,e',h1,h2⟩:=h;exact⟨(u,e'),h0,h1,h2⟩) ?_
  rintro⟨u,e'⟩ hO
  dsimp only[List.cons_append,List.nil_append] at hO⊢
  refine W3 [4,0,2] ?_
  exact Zgz (1,u,e') ⟨Q0,by simp,λ_=>hO⟩ Q6 (λa F=>F.only [68,67,66,14,10] rfl) (.cons_cons _ (.cons_cons _ (.cons _ (.cons_cons _ (.cons_cons _ (.cons_cons _ (.cons_cons _ (.cons_cons _ (.cons_cons _ (.cons_cons _ (List.nil_sublist _)))))))))))
 ·have i1:i=1:=by omega
  subst i1
  have o7:=h1 rfl
  have oR:RtOw (heS s) ⟨v6,u,v8,v9,v10,v11,v12⟩ ⟨e6,eu,e8,e9,e10,e11,e12⟩:=⟨oC.og,o7,oC.sr,oC.ro,oC.ins,oC.rq,oC.av⟩
  refine Zba ?_
  refine W3 [9,0,5] ?_
  refine ZfY (ι:=RtX×RtE×Value×EN) (λ_=> .tuple #[]) (λj=>RtOw (setV 6 (heS s) []).1 j.1 j.2.1/\OwnS 69 40 j.2.2.1 ((setV 6 (heS s) []).2).length (nosC ((setV 6 (heS s) []).2)) j.2.2.2) (λj=>j.2.2.2::[(bs, .cells (stC (setV 6 (heS s) []).1 j.1 6 8 j.2.2.1 (.slice none 0 0)).toArray 142 (0,0))]::j.2.1.row) (.cons .z (.cons (.s .z) (.cons (.s .z) (.cons (.s .z) (.cons (.s .z) (.cons (.s .z) (.cons (.s .z) (.cons .z (.cons .z .nil))))))))) rfl rfl (λw M hH2=>Cal.mono (ZmZ (heS s) ⟨v6,u,v8,v9,v10,v11,v12⟩ 6 8 (.slice none 0 0) (.slice none 0 0) bs [] [] ⟨e6,eu,e8,e9,e10,e11,e12⟩ hB2 hB1 hB3 Q5 hn (OwnS.nilL _ _ _) oR w hH2) λr w2 h=>by obtain⟨h0,y,e,va,ea,h1,h2,h3⟩:=h;exact⟨(y,e,va,ea),h0,⟨h1,h2⟩,h3⟩) ?_
  clear oC oR o7 h1
  rintro⟨⟨v6,v7,v8,v9,v10,v11,v12⟩,⟨e6,e7,e8,e9,e10,e11,e12⟩,va,ea⟩ ⟨oF,oA⟩
  dsimp only[RtE.row,List.cons_append,List.nil_append] at oF oA⊢
  obtain⟨qv,cv,rfl,_⟩:=Zbr oA
  refine W3 [3] ?_
  refine Zms 6 97 [5] rfl Q7 (Zaw 1 rfl (fe_v (λa w F M R r=>Zan (F.e rfl) rfl r) (Zaw 1 rfl (ZfK 1 rfl rfl rfl (Zaw 1 rfl (Zir (λf=>rfl) (λ_ _=>rfl) (λ_ _ w M=>Zpr (setV 6 (heS s) []).1 _ 6 8 _ (setV 6 (heS s) []).2 bs hal ⟨qv,cv,rfl⟩ w (M.at_ _ (Zak (i:=1) rfl))) (Zf0 rfl rfl (λi hi=>rfl) (λi hi=>?_))))))))
  obtain⟨_,uj,ej⟩:=i
  obtain⟨_,oJ⟩:=hi
  dsimp only at oJ⊢
  skip
  refine Zdf 10 rfl rfl rfl oF.one rfl rfl rfl ?_
  exact gQ 5 rfl (ZfV 10 rfl rfl rfl rfl rfl rfl rfl λw M=>⟨_,⟨e6,e7,e8,e9,e10,e11,e12⟩,_,rfl,oF,M.sub (subO (.cons _ (.cons _ (.cons _ (.cons_cons _ (.cons_cons _ (.cons_cons _ (.cons_cons _ (.cons_cons _ (.cons_cons _ (.cons_cons _ (List.nil_sublist _))))))))))))⟩)
end
section
def st2:RtV:=⟨7,0,5,21,1,7,5,[og1],[],[],[],[],[],[]⟩
def st3:RtV:=⟨7,0,5,21,1,7,5,[og1],[⟨8,⟨true,1,1,4,65535⟩,11,6⟩],[],[],[],[],[]⟩
theorem Zxw:ZbF 5 st1=(st2,[helN 0]):=by kernel_rfl
theorem Zxz:Zaj st1=true:=by kernel_rfl
theorem he_v:Zaj (heS st2)=true:=by kernel_rfl
theorem Zuo:setV 6 (heS st2) []=(st3,[]):=by kernel_rfl
theorem ZuZ(s:RtV)(h1:s.og=[og1])(h2:∀x∈s.aj,BdQu x.q)(h3:s.sr=[])(h4:s.ro=[])(h5:s.ins=[])(h6:s.rq=[])(h7:s.av=[]):IsRt s:=by
 refine⟨?_,λ_ _=>trivial,?_,?_,?_,?_,?_,h2⟩<;>simp[h1,h3,h4,h5,h6,h7,Zqk]
theorem Zx5:BdQu quH:=⟨by decide,by decide,by decide⟩
attribute [local irreducible] OpTo wpListIn Code.wpIn MW Cal
theorem ZqL(W:World):Cal prog 18 [].toArray W λr w'=>r= .bool true/\Ext [] W w':=by
 have hs1:IsRt st1:=ZuZ _ rfl (by simp[st1]) rfl rfl rfl rfl rfl
 have hs2:IsRt st2:=ZuZ _ rfl (by simp[st2]) rfl rfl rfl rfl rfl
 have hsh:IsRt (heS st2):=ZuZ _ rfl (by intro x hx;rw[show x=ZkB 8 6 by simpa[heS] using hx];exact Zx5) rfl rfl rfl rfl rfl
 have hv2:Zaj st2=true:=by have h:=Zpj (now:=5) hs1 Zxz (by simp[Sq16,st1]) rfl;rw[Zxw] at h;exact h
 refine yS (n:=81) Tryz.func18 rfl rfl ?_
 have hx1:=Zqk
 refine W4 [7,0] @Zp8 ?_
 refine g_bs rfl rfl rfl (Zd4 Qd) (λb11=>?_)
 refine ZaU (ι:=Value×EN) (λj=> .tuple #[.agg (rtC st1 ⟨j.1, .slice none 0 0, .slice none 0 0, .slice none 0 0, .slice none 0 0, .slice none 0 0, .slice none 0 0⟩).toArray, .int .i64 0]) (λj=>OwnS 85 34 j.1 [og1].length (ogsC [og1]) j.2) (λj=>[j.2]) rfl rfl (λw M=>Cal.mono (Zr5 _ w ⟨_,_,rfl,Q0,λ_ _=>trivial,rfl,λ_=>⟨b11,0,ogsC [og1],_,_,rfl,M.at_ _ (Zak (i:=0) rfl),rfl⟩⟩) λr w2 h=>by obtain⟨u,e,h1,h2,h3⟩:=h;exact⟨(u,e),h1,h2,by simpa using h3⟩) ?_
 rintro⟨u6,f6⟩ o6
 dsimp only[List.cons_append,List.nil_append] at o6⊢
 refine gQ 3 rfl (Zac λb1=>?_)
 have hR1:RtOw st1 ⟨u6, .slice none 0 0, .slice none 0 0, .slice none 0 0, .slice none 0 0, .slice none 0 0, .slice none 0 0⟩ ⟨f6,[],[],[],[],[],[]⟩:=⟨o6,OwnS.nil _ _,OwnS.nil _ _,OwnS.nil _ _,OwnS.nil _ _,OwnS.nil _ _,OwnS.nil _ _⟩
 refine Zdf 0 rfl rfl rfl hR1.one rfl rfl rfl ?_
 refine W3 [5,0] ?_
 refine ZaU (ι:=RtX×RtE×Value×EN×Value×EN) (λj=> .tuple [.agg (rtC st2 j.1).toArray,j.2.2.2.2.1, .int .i64 0].toArray) (λj=>RtOw st2 j.1 j.2.1/\OwnS 69 40 j.2.2.1 1 (nosC [helN 0]) j.2.2.2.1/\OwnS 61 2 j.2.2.2.2.1 1 [.int .u64 0,j.2.2.1] j.2.2.2.2.2) (λj=>j.2.2.2.2.2::j.2.2.2.1::j.2.1.row) rfl rfl (λw M=>Cal.mono (Zj0 st1 ⟨u6, .slice none 0 0, .slice none 0 0, .slice none 0 0, .slice none 0 0, .slice none 0 0, .slice none 0 0⟩ 5 hs1 (by simp[Sq16,st1]) w ⟨o6.slAt M λq hq=>List.mem_flatten_of_mem Q5 hq,SlAt.nil w _,SlAt.nil w _,SlAt.nil w _,SlAt.nil w _,SlAt.nil w _,SlAt.nil w _⟩) λr w2 h=>by have h:=h.e0 Zxz rfl;rw[Zxw] at h;obtain⟨y,e,va,ea,u,es,h1,h2,h3,h4,h5⟩:=h;exact⟨(y,e,va,ea,u,es),h1,⟨h2,h3,h4⟩,h5⟩) ?_
 rintro⟨⟨v6,v7,v8,v9,v10,v11,v12⟩,⟨e6,e7,e8,e9,e10,e11,e12⟩,va,ea,u,es⟩ ⟨o1,o2,o3⟩
 dsimp only[RtE.row,List.cons_append,List.nil_append] at o1 o2 o3⊢
 rcases o3 with⟨-,h,-⟩|⟨b3,c3,j3,rfl,rfl,-⟩
 ·exact absurd h (by decide)
 rcases o2 with⟨-,h,-⟩|⟨b2,c2,j2,rfl,rfl,-⟩
 ·exact absurd h (by decide)
 refine gQ 4 rfl (Zac λb3=>?_)
 refine Zdf 0 rfl rfl rfl o1.one rfl rfl rfl ?_
 refine W3 [6,0] ?_
 refine g_v (λa w F M R r=>Zaq F rfl (Znz _) r) (g_bs rfl rfl rfl rfl (λb24=>?_))
 refine ZaU (ι:=RtX×RtE×Value) (λj=> .tuple [.agg (rtC st3 j.1).toArray,j.2.2, .int .i64 0].toArray) (λj=>RtOw st3 j.1 j.2.1) (λj=>j.2.1.row) rfl rfl (λw M=>Cal.mono (Zwk st2 ⟨v6,v7,v8,v9,v10,v11,v12⟩ _ hs2 hv2 rfl (by decide) hsh he_v (by simp[Sq16,heS,st2]) (by rw[Zuo];decide) w ⟨(o1.og.slAt M λq hq=>List.mem_flatten_of_mem Q5 hq),(o1.aj.slAt M λq hq=>List.mem_flatten_of_mem Q5 hq),(o1.sr.slAt M λq hq=>List.mem_flatten_of_mem Q5 hq),(o1.ro.slAt M λq hq=>List.mem_flatten_of_mem Q5 hq),(o1.ins.slAt M λq hq=>List.mem_flatten_of_mem Q5 hq),(o1.rq.slAt M λq hq=>List.mem_flatten_of_mem Q5 hq),(o1.av.slAt M λq hq=>List.mem_flatten_of_mem Q5 hq)⟩ ⟨_,_,rfl,Q0,λ_ _=>trivial,rfl,λ_=>⟨b24,0,nosC [hel3],_,_,rfl,M.at_ _ (Zak (i:=0) rfl),rfl⟩⟩) λr w2 h=>by rw[Zuo] at h;obtain⟨y,e,u,h1,h2,h3⟩:=h;exact⟨(y,e,u),h1,h2,h3⟩) ?_
 rintro⟨⟨w6,w7,w8,w9,w10,w11,w12⟩,⟨d6,d7,d8,d9,d10,d11,d12⟩,uu⟩ oH
 dsimp only[RtE.row,List.cons_append,List.nil_append] at oH⊢
 refine gQ 4 rfl (Zac λb6=>?_)
 have hone:=oH.one
 have o7:OwnS 124 8 w7 1 (ajsC st3.aj) d7:=oH.aj
 rcases o7 with⟨-,h,-⟩|⟨b7,c7,j7,rfl,rfl,-⟩
 ·exact absurd h (by decide)
 refine Zdf 0 rfl rfl rfl hone rfl rfl rfl ?_
 refine W3 [18,0,9,0,1,0,5,0,1,0,0,1,0,4,0,5,0,0,1,0,6] ?_
 exact vA5
end
section
attribute [local irreducible] OpTo wpListIn Code.wpIn MW Cal
section
variable {c:Cx} {fr:FN} {l:Row} {x:RX} {xs:List (Nat×XP)} {d:Nat} {ty:TypeId} {pos:String} {af:Array Edge}
theorem Zhy{fn:FuncId}{ys:List Operand}{ts:Array TypeId} [hb:Zad c.P fn](hx:Ev fr y=some (.func (.func fn) #[] #[]))(ha:evL fr ys=some vs)(hc:∀w,Mem c.S c.W w l.flatten->Cal c.P fn vs.toArray w λu w'=>u=v/\Ext [] w w'):OpF c x xs ⟨some d, .call ⟨.value y,ys.toArray,ts⟩,ty,pos,af,none⟩ fr l (λu r=>u=v/\r=l):=λa w F M _=>
 Zav (F.e hx) (F.evs ha) (Cal.mono (hc w M) λu w' h=>⟨h.2.any,l,⟨h.1,rfl⟩,M.later h.2⟩)
end
theorem ZsW(s:RtV)(x:RtX)(hs:IsRt s)(hq:Sq16 s.rq){pt:Option Addr}(xs0:List Int)(now:Int)(W:World)(h:RtAt W s x)(hI:ZjB W (.slice pt xs0.length cap) xs0)(hcap:xs0.length<=cap):Cal prog 8 [.agg (rtC s x).toArray, .slice pt xs0.length cap, .int .i64 now].toArray W λr w'=>r= .bool true/\Ext [] W w':=by
 have hmem:0<xs0.length->∃b o cs t fz,pt=some ⟨b,o,none⟩/\W.heap[b]? =some (.cells cs t fz)/\seg cs.toList o xs0.length=some (i64C xs0):=λhl=>by
  obtain⟨p',cap',h1,_,h3⟩:=hI.ex
  cases h1
  exact h3 hl
 obtain⟨v6,v7,v8,v9,v10,v11,v12⟩:=x
 obtain⟨a6,a7,a8,a9,a10,a11,a12⟩:=id h
 dsimp only at a6 a7 a8 a9 a10 a11 a12
 obtain⟨q6,c6,rfl,_⟩:=id a6
 obtain⟨q7,c7,rfl,_⟩:=id a7
 obtain⟨q8,c8,rfl,_⟩:=id a8
 obtain⟨q9,c9,rfl,_⟩:=id a9
 obtain⟨q10,c10,rfl,_⟩:=id a10
 obtain⟨q11,c11,rfl,_⟩:=id a11
 obtain⟨q12,c12,rfl,_⟩:=id a12
 refine yS (n:=51) Tryz.func8 rfl rfl (gQ 2 rfl (Zai rfl rfl λb3=>?_))
 refine W3 [6,0] ?_
 refine ZaU (ι:=Bool) (λb=> .bool b) (λ_=>True) (λ_=>[]) rfl rfl (λw M=>Cal.mono (Zu3 s _ w (h.later M.ext)) λr w' hh=>by
  obtain⟨⟨b,hb⟩,E⟩:=hh
  exact⟨b,hb,trivial,Mem.nil E⟩) ?_
 rintro b-
 dsimp only[List.nil_append]
 cases b
 ·refine W4 [6,0,5] @ZqL ?_
  exact vA5
 refine gQ 9 rfl (ZaU (ι:=Nat) (λbt=> .pointer (some ⟨bt,0,none⟩)) (λbt=>W.heap.size<=bt) (λbt=>[[(bt,tobj pt (ZdJ xs0).length cap 0)]]) rfl rfl (λw M=>Cal.mono (Zz0 xs0 _ (hI.later M.ext) hcap) λx w' h=>h.elim λbt h=>⟨bt,h.1,Nat.le_trans M.ext.size ((h.2.own _ List.mem_cons_self).resolve_left Q5),by simpa using h.2⟩) (λbt hbt=>?_))
 have hT:Zbz W bt pt (ZdJ xs0).length (ZdJ xs0):=ZrY (Ext.refl [] W) hbt hI.bd hmem
 generalize hxs:ZdJ xs0=xs at*
 generalize hlen:xs.length=len at*
 clear hxs hI hmem hcap
 dsimp only[List.cons_append,List.nil_append]
 refine gQ 6 rfl ?_
 refine ZaX (ι:=Int×Nat) 0 (λj=> .int .i64 j.1) (λj=>0<=j.1/\j.1<=1099511627776) (λj=>tobj pt len cap j.2) (λ_=>[]) rfl rfl rfl (λw M=>Cal.mono (Zw6 w (hT.later M.ext.any) (M.at_ _ (Zak (i:=0) rfl))) λr w' h=>by
  obtain⟨x,k',qq,h1,N⟩:=h
  exact⟨(x,k'),qq,h1,by simpa using N⟩) (λ_=>rfl) ?_
 rintro⟨bs,k1⟩ hbs
 dsimp only[List.nil_append] at hbs⊢
 refine gQ 7 rfl ?_
 refine ZaX (ι:=RtV×RtX×RtE×Nat) 0 (λj=> .agg (rtC j.1 j.2.1).toArray) (λj=>Sq16 j.1.rq/\IsRt j.1/\RtSm j.1/\RtA j.1 j.2.1 j.2.2.1) (λj=>tobj pt len cap j.2.2.2) (λj=>j.2.2.1.row) rfl rfl rfl (λw M=>Cal.mono (ZpS bs hbs w (hT.later M.ext.any) (M.at_ _ (Zak (i:=0) rfl))) λr w' h=>by
  obtain⟨s,x,e,k',h1,h0,h2,h3,h4,N⟩:=h
  exact⟨(s,x,e,k'),h1,⟨h0,h2,h3,h4⟩,N⟩) (λ_=>rfl) ?_
 rintro⟨s1,⟨u6,u7,u8,u9,u10,u11,u12⟩,⟨f6,f7,f8,f9,f10,f11,f12⟩,k2⟩ ⟨hq1,hs1,hsm1,hA1⟩
 dsimp only[RtE.row,List.cons_append,List.nil_append] at hq1 hs1 hsm1 hA1⊢
 obtain⟨z6,z7,z8,z9,z10,z11,z12⟩:=id hA1
 dsimp only at z6 z7 z8 z9 z10 z11 z12
 obtain⟨g6,y6,rfl⟩:=z6.q
 obtain⟨g7,y7,rfl⟩:=z7.q
 obtain⟨g8,y8,rfl⟩:=z8.q
 obtain⟨g9,y9,rfl⟩:=z9.q
 obtain⟨g10,y10,rfl⟩:=z10.q
 obtain⟨g11,y11,rfl⟩:=z11.q
 obtain⟨g12,y12,rfl⟩:=z12.q
 refine Zac λb9=>?_
 refine W3 [0,3] ?_
 refine ZfX 30 51 [bt] [7,8,10,13,15,18,20,23,25] [] [[(bt,tobj pt len cap k2)]] [[(b9,Obj.cells (rtS s1 g6 y6 g7 y7 g8 y8 g9 y9 g10 y10 g11 y11 g12 y12).toArray 53 (0,0))],f12,f11,f10,f9,f8,f7,f6,[(b3,Obj.cells (rtS s q6 c6 q7 c7 q8 c8 q9 c9 q10 c10 q11 c11 q12 c12).toArray 53 (0,0))]] rfl Q7 Zvq Q5 (Ze1 ?_)
 refine fe_v (λa2 w F M R r=>ZbM (F.e rfl) (M.at_ _ (Zak (i:=8) rfl)) (show seg (rtS s q6 c6 q7 c7 q8 c8 q9 c9 q10 c10 q11 c11 q12 c12) 0 14=some (rtS s q6 c6 q7 c7 q8 c8 q9 c9 q10 c10 q11 c11 q12 c12) from rfl) r) (Zaw 1 rfl (Zf1 (v:= .bool true) rfl rfl (λw M=>ZhV s ⟨.slice q6 s.og.length c6, .slice q7 s.aj.length c7, .slice q8 s.sr.length c8, .slice q9 s.ro.length c9, .slice q10 s.ins.length c10, .slice q11 s.rq.length c11, .slice q12 s.av.length c12⟩ now hs hq w (h.later M.ext)) (Zaw 1 rfl ?_)))
 refine fe_v (λa2 w F M R r=>ZbM (F.e rfl) (M.at_ _ (Zak (i:=0) rfl)) (show seg (rtS s1 g6 y6 g7 y7 g8 y8 g9 y9 g10 y10 g11 y11 g12 y12) 0 14=some (rtS s1 g6 y6 g7 y7 g8 y8 g9 y9 g10 y10 g11 y11 g12 y12) from rfl) r) (Zaw 60 rfl ?_)
 refine Zuv (κ:=Int×Nat) rfl rfl (λ_ j=> .int .i64 j.1) (λ_ _=>True) (λ_ j=>[[(b9,Obj.cells (rtS s1 g6 y6 g7 y7 g8 y8 g9 y9 g10 y10 g11 y11 g12 y12).toArray 53 (0,0))],f12,f11,f10,f9,f8,f7,f6,[(bt,tobj pt len cap j.2)],[(b3,Obj.cells (rtS s q6 c6 q7 c7 q8 c8 q9 c9 q10 c10 q11 c11 q12 c12).toArray 53 (0,0))]]) [] .any (λi hi=>?_) (λ_ _ _ _=>trivial) ?_
 ·exact Zev 8 (λj:Int×Nat=> .int .i64 j.1) (λ_=>True) (λj=>tobj pt len cap j.2) (λ_=>[]) rfl rfl rfl (.head _) (λw M=>Cal.mono (Zc5 bs hbs.1 hbs.2 w (hT.later M.ext.any) (M.at_ _ (Zak (i:=8) rfl))) λr w' h=>by obtain⟨z,k',h1,_,N⟩:=h;exact⟨(z,k'),h1,trivial,by simpa using N⟩) (λ_=>rfl)
 refine Zkb (v:= .bool true) rfl rfl (λi=>[[(b9,Obj.cells (rtS s1 g6 y6 g7 y7 g8 y8 g9 y9 g10 y10 g11 y11 g12 y12).toArray 53 (0,0))],f12,f11,f10,f9,f8,f7,f6,[(bt,tobj pt len cap i.2.2)],[(b3,Obj.cells (rtS s q6 c6 q7 c7 q8 c8 q9 c9 q10 c10 q11 c11 q12 c12).toArray 53 (0,0))]]) [(7,28)] (λi hi=>?_) ?_
 ·exact Zhy rfl rfl (λw M=>ZhV s1 ⟨.slice g6 s1.og.length y6, .slice g7 s1.aj.length y7, .slice g8 s1.sr.length y8, .slice g9 s1.ro.length y9, .slice g10 s1.ins.length y10, .slice g11 s1.rq.length y11, .slice g12 s1.av.length y12⟩ i.2.1 hs1 hq1 w (hA1.at_ λp hp=>(M.sub (subO (l:=RtE.row ⟨f6,f7,f8,f9,f10,f11,f12⟩) Qf)).at_ p hp))
 refine Zaw 60 rfl (ZnV (v:= .bool true) (λi=>[[(b9,Obj.cells (rtS s1 g6 y6 g7 y7 g8 y8 g9 y9 g10 y10 g11 y11 g12 y12).toArray 53 (0,0))],f12,f11,f10,f9,f8,f7,f6,[(bt,tobj pt len cap i.2.2)],[(b3,Obj.cells (rtS s q6 c6 q7 c7 q8 c8 q9 c9 q10 c10 q11 c11 q12 c12).toArray 53 (0,0))]]) [] (λi hi=>Zqb (λa w F M R r=>Zgm (F.e rfl) r)) ?_)
 refine fe_v (λa2 w F M R r=>ZbM (F.e rfl) (M.at_ _ (Zak (i:=0) rfl)) (show seg (rtS s1 g6 y6 g7 y7 g8 y8 g9 y9 g10 y10 g11 y11 g12 y12) 0 14=some (rtS s1 g6 y6 g7 y7 g8 y8 g9 y9 g10 y10 g11 y11 g12 y12) from rfl) r) (Zaw 60 rfl ?_)
 refine Zkb (v:= .bool true) rfl rfl (λi=>[[(b9,Obj.cells (rtS s1 g6 y6 g7 y7 g8 y8 g9 y9 g10 y10 g11 y11 g12 y12).toArray 53 (0,0))],f12,f11,f10,f9,f8,f7,f6,[(bt,tobj pt len cap i.2.2)],[(b3,Obj.cells (rtS s q6 c6 q7 c7 q8 c8 q9 c9 q10 c10 q11 c11 q12 c12).toArray 53 (0,0))]]) [] (λi hi=>?_) ?_
 ·exact Zhy rfl rfl (λw M=>ZhV s1 ⟨.slice g6 s1.og.length y6, .slice g7 s1.aj.length y7, .slice g8 s1.sr.length y8, .slice g9 s1.ro.length y9, .slice g10 s1.ins.length y10, .slice g11 s1.rq.length y11, .slice g12 s1.av.length y12⟩ bs hs1 hq1 w (hA1.at_ λp hp=>(M.sub (subO (l:=RtE.row ⟨f6,f7,f8,f9,f10,f11,f12⟩) Qf)).at_ p hp))
 refine Zaw 60 rfl (ZnV (v:= .bool true) (λi=>[[(b9,Obj.cells (rtS s1 g6 y6 g7 y7 g8 y8 g9 y9 g10 y10 g11 y11 g12 y12).toArray 53 (0,0))],f12,f11,f10,f9,f8,f7,f6,[(bt,tobj pt len cap i.2.2)],[(b3,Obj.cells (rtS s q6 c6 q7 c7 q8 c8 q9 c9 q10 c10 q11 c11 q12 c12).toArray 53 (0,0))]]) [] (λi hi=>Zqb (λa w F M R r=>Zgm (F.e rfl) r)) ?_)
 refine fe_v (λa2 w F M R r=>ZbM (F.e rfl) (M.at_ _ (Zak (i:=0) rfl)) (show seg (rtS s1 g6 y6 g7 y7 g8 y8 g9 y9 g10 y10 g11 y11 g12 y12) 0 14=some (rtS s1 g6 y6 g7 y7 g8 y8 g9 y9 g10 y10 g11 y11 g12 y12) from rfl) r) (Zaw 60 rfl ?_)
 refine Zkb (v:= .bool true) rfl rfl (λi=>[[(b9,Obj.cells (rtS s1 g6 y6 g7 y7 g8 y8 g9 y9 g10 y10 g11 y11 g12 y12).toArray 53 (0,0))],f12,f11,f10,f9,f8,f7,f6,[(bt,tobj pt len cap i.2.2)],[(b3,Obj.cells (rtS s q6 c6 q7 c7 q8 c8 q9 c9 q10 c10 q11 c11 q12 c12).toArray 53 (0,0))]]) [] (λi hi=>?_) ?_
 ·exact Zhy rfl rfl (λw M=>ZhV s1 ⟨.slice g6 s1.og.length y6, .slice g7 s1.aj.length y7, .slice g8 s1.sr.length y8, .slice g9 s1.ro.length y9, .slice g10 s1.ins.length y10, .slice g11 s1.rq.length y11, .slice g12 s1.av.length y12⟩ now hs1 hq1 w (hA1.at_ λp hp=>(M.sub (subO (l:=RtE.row ⟨f6,f7,f8,f9,f10,f11,f12⟩) Qf)).at_ p hp))
 refine Zaw 60 rfl (ZnV (v:= .bool true) (λi=>[[(b9,Obj.cells (rtS s1 g6 y6 g7 y7 g8 y8 g9 y9 g10 y10 g11 y11 g12 y12).toArray 53 (0,0))],f12,f11,f10,f9,f8,f7,f6,[(bt,tobj pt len cap i.2.2)],[(b3,Obj.cells (rtS s q6 c6 q7 c7 q8 c8 q9 c9 q10 c10 q11 c11 q12 c12).toArray 53 (0,0))]]) [] (λi hi=>Zqb (λa w F M R r=>Zgm (F.e rfl) r)) (Zaw 60 rfl ?_))
 refine fe_v (λa2 w F M R r=>ZbM (F.e rfl) (M.at_ _ (Zak (i:=0) rfl)) (show seg (rtS s1 g6 y6 g7 y7 g8 y8 g9 y9 g10 y10 g11 y11 g12 y12) 0 14=some (rtS s1 g6 y6 g7 y7 g8 y8 g9 y9 g10 y10 g11 y11 g12 y12) from rfl) r) ?_
 refine Zuv (κ:=RtV×RtX×RtE×Nat) rfl rfl (λ_ j=> .agg (rtC j.1 j.2.1).toArray) (λ_ j=>Sq16 j.1.rq/\IsRt j.1/\RtOw j.1 j.2.1 j.2.2.1) (λ_ j=>j.2.2.1.row++[[(b9,Obj.cells (rtS s1 g6 y6 g7 y7 g8 y8 g9 y9 g10 y10 g11 y11 g12 y12).toArray 53 (0,0))],f12,f11,f10,f9,f8,f7,f6,[(bt,tobj pt len cap j.2.2.2)],[(b3,Obj.cells (rtS s q6 c6 q7 c7 q8 c8 q9 c9 q10 c10 q11 c11 q12 c12).toArray 53 (0,0))]]) [] .any (λi hi=>?_) (λ_ _ _ _=>trivial) ?_
 ·refine Zev 8 (λj:RtV×RtX×RtE×Nat=> .agg (rtC j.1 j.2.1).toArray) (λj=>Sq16 j.1.rq/\IsRt j.1/\RtOw j.1 j.2.1 j.2.2.1) (λj=>tobj pt len cap j.2.2.2) (λj=>j.2.2.1.row) rfl rfl rfl (.head _) (λw M=>?_) (λ_=>rfl)
  have M2:Mem [] W w ((RtE.row ⟨f6,f7,f8,f9,f10,f11,f12⟩++[[(bt,tobj pt len cap i.2.2)]]).flatten):=M.sub (subO Qf)
  refine Cal.mono (Zoh s1 _ hs1 hsm1 w (hT.later M.ext.any) (M.at_ _ (Zak (i:=8) rfl)) (Zm9 hA1 M2 (Ext.refl _ _)) (λw' E=>Zm9 hA1 M2 E)) λr w' h=>?_
  obtain⟨z,y,e,k',h1,h0,h2,h3,N⟩:=h
  exact⟨(z,y,e,k'),h1,⟨by rw[h0];exact hq1,h2,h3⟩,N⟩
 refine Zaw 60 rfl (Zkb (v:= .bool true) rfl rfl (λi=>i.2.2.2.1.row++[[(b9,Obj.cells (rtS s1 g6 y6 g7 y7 g8 y8 g9 y9 g10 y10 g11 y11 g12 y12).toArray 53 (0,0))],f12,f11,f10,f9,f8,f7,f6,[(bt,tobj pt len cap i.2.2.2.2)],[(b3,Obj.cells (rtS s q6 c6 q7 c7 q8 c8 q9 c9 q10 c10 q11 c11 q12 c12).toArray 53 (0,0))]]) [(23,44)] (λi hi=>?_) ?_)
 ·exact Zhy rfl rfl (λw M=>ZhV i.2.1 i.2.2.1 bs hi.2.2.1 hi.2.1 w (hi.2.2.2.at_ M λp hp=>by rw[List.flatten_append];exact List.mem_append_left _ hp))
 refine Zaw 60 rfl (Zf1 (v:= .bool true) rfl rfl (λw M=>ZqL w) (Zaw 60 rfl ?_))
 refine Zis rfl (by rintro i _ q hq;simp at hq;rcases hq with rfl|rfl<;>simp) ?_
 rintro i _
 refine⟨_,rfl,?_⟩
 exact gQ 4 rfl (Zae rfl rfl rfl λw M=>⟨rfl,M.ext⟩)
section
variable {H:Type} {enc:TypeId×Value->H} {w:World} {base:Nat} {sp:Nat->Bool} {held:Bool}
theorem ZwS(n:Nat)(cs:List Value)(y:DataW H×List MemPlace)(h:DataW.trod enc prog w base sp held n 171 cs=some y):∃x:ReqV,(IsRq x/\0<=x.seq/\x.seq<=65535)/\cs=rqC x:=by
 have hw:=Zc8 8 171 (List.replicate 16 (.i .u8)++(.i .i64::(List.replicate 16 (.i .u8)++[.i .i64, .i .u64, .i .u16, .i .i64, .i .u64, .i .i64, .i .i64]))) Q7 n cs y h (.inl Q7)
 obtain⟨c0,c1,rfl,h1,h2⟩:=ZbY hw
 obtain⟨a1,rfl,hl1,hb1⟩:=Zg3 c0 16 h1
 obtain⟨x1,c2,rfl,g1,h3⟩:=Zax h2
 obtain⟨c3,c4,rfl,h4,h5⟩:=ZbY (ks:=List.replicate 16 (LK.i .u8)) (ks':=[LK.i .i64, .i .u64, .i .u16, .i .i64, .i .u64, .i .i64, .i .i64]) h3
 obtain⟨a2,rfl,hl2,hb2⟩:=Zg3 c3 16 h4
 obtain⟨n1,rfl,_,_⟩:=ZaH g1
 obtain⟨y0,d0,rfl,k0,r0⟩:=Zax h5
 obtain⟨m0,rfl,_,_⟩:=ZaH k0
 obtain⟨y1,d1,rfl,k1,r1⟩:=Zax r0
 obtain⟨m1,rfl,_,_⟩:=ZaH k1
 obtain⟨y2,d2,rfl,k2,r2⟩:=Zax r1
 obtain⟨m2,rfl,z1,z2⟩:=ZaH k2
 obtain⟨y3,d3,rfl,k3,r3⟩:=Zax r2
 obtain⟨m3,rfl,_,_⟩:=ZaH k3
 obtain⟨y4,d4,rfl,k4,r4⟩:=Zax r3
 obtain⟨m4,rfl,_,_⟩:=ZaH k4
 obtain⟨y5,d5,rfl,k5,r5⟩:=Zax r4
 obtain⟨m5,rfl,_,_⟩:=ZaH k5
 obtain⟨y6,d6,rfl,k6,r6⟩:=Zax r5
 obtain⟨m6,rfl,_,_⟩:=ZaH k6
 obtain rfl:=ZfP r6
 exact⟨⟨⟨a1,n1,a2,m0,m1⟩,m2,m3,m4,m5,m6⟩,⟨⟨⟨hl1,hb1⟩,⟨hl2,hb2⟩⟩,z1,z2⟩,by simp[rqC,dvC,pfC]⟩
set_option maxRecDepth 100000 in
theorem ZwR(n:Nat)(cs:List Value)(y:DataW H×List MemPlace)(h:DataW.trod enc prog w base sp held n 53 cs=some y):∃(s:RtV)(x:RtX),Sq16 s.rq/\IsRt s/\RtAt w s x/\cs=rtC s x:=by
 obtain⟨xs,m,rfl,_,hl,hn,hat⟩:=DataW.trod_struct Tryz.underlying53 h
 have hc:Tryz.prog.cellsOf 53=14:=by kernel_rfl
 rw[hc] at hl
 have hxl:xs.length=13:=hn
 have a0:DataW.trod enc prog w base sp held m 41 ((cs.drop 0).take (Tryz.prog.cellsOf 41))=xs[0]? :=hat 0 _ rfl
 rw[List.getElem?_eq_getElem Q0,show Tryz.prog.cellsOf 41=1 from by kernel_rfl] at a0
 obtain⟨n0,e0,_,_⟩:=DataW.trod_int Tryz.underlying41 a0
 have a1:DataW.trod enc prog w base sp held m 42 ((cs.drop 1).take (Tryz.prog.cellsOf 42))=xs[1]? :=hat 1 _ rfl
 rw[List.getElem?_eq_getElem Q0,show Tryz.prog.cellsOf 42=1 from by kernel_rfl] at a1
 obtain⟨n1,e1,_,_⟩:=DataW.trod_int Tryz.underlying42 a1
 have a2:DataW.trod enc prog w base sp held m 3 ((cs.drop 2).take (Tryz.prog.cellsOf 3))=xs[2]? :=hat 2 _ rfl
 rw[List.getElem?_eq_getElem Q0,show Tryz.prog.cellsOf 3=1 from by kernel_rfl] at a2
 obtain⟨n2,e2,_,_⟩:=DataW.trod_int Tryz.underlying3 a2
 have a3:DataW.trod enc prog w base sp held m 3 ((cs.drop 3).take (Tryz.prog.cellsOf 3))=xs[3]? :=hat 3 _ rfl
 rw[List.getElem?_eq_getElem Q0,show Tryz.prog.cellsOf 3=1 from by kernel_rfl] at a3
 obtain⟨n3,e3,_,_⟩:=DataW.trod_int Tryz.underlying3 a3
 have a4:DataW.trod enc prog w base sp held m 42 ((cs.drop 4).take (Tryz.prog.cellsOf 42))=xs[4]? :=hat 4 _ rfl
 rw[List.getElem?_eq_getElem Q0,show Tryz.prog.cellsOf 42=1 from by kernel_rfl] at a4
 obtain⟨n4,e4,_,_⟩:=DataW.trod_int Tryz.underlying42 a4
 have a5:DataW.trod enc prog w base sp held m 3 ((cs.drop 5).take (Tryz.prog.cellsOf 3))=xs[5]? :=hat 5 _ rfl
 rw[List.getElem?_eq_getElem Q0,show Tryz.prog.cellsOf 3=1 from by kernel_rfl] at a5
 obtain⟨n5,e5,_,_⟩:=DataW.trod_int Tryz.underlying3 a5
 have a6:DataW.trod enc prog w base sp held m 43 ((cs.drop 6).take (Tryz.prog.cellsOf 43))=xs[6]? :=hat 6 _ rfl
 rw[List.getElem?_eq_getElem Q0,show Tryz.prog.cellsOf 43=1 from by kernel_rfl] at a6
 obtain⟨u6,l6,e6,i6,S6,_⟩:=ZeQ (sz:=34) Tryz.underlying43 Q7 Q0 Zzj a6
 have a7:DataW.trod enc prog w base sp held m 44 ((cs.drop 7).take (Tryz.prog.cellsOf 44))=xs[7]? :=hat 7 _ rfl
 rw[List.getElem?_eq_getElem Q0,show Tryz.prog.cellsOf 44=1 from by kernel_rfl] at a7
 obtain⟨u7,l7,e7,i7,S7,_⟩:=ZeQ (sz:=8) Tryz.underlying44 Q7 Q0 Zzm a7
 have a8:DataW.trod enc prog w base sp held m 45 ((cs.drop 8).take (Tryz.prog.cellsOf 45))=xs[8]? :=hat 8 _ rfl
 rw[List.getElem?_eq_getElem Q0,show Tryz.prog.cellsOf 45=1 from by kernel_rfl] at a8
 obtain⟨u8,l8,e8,i8,S8,_⟩:=ZeQ (sz:=38) Tryz.underlying45 Q7 Q0 Zzh a8
 have a9:DataW.trod enc prog w base sp held m 46 ((cs.drop 9).take (Tryz.prog.cellsOf 46))=xs[9]? :=hat 9 _ rfl
 rw[List.getElem?_eq_getElem Q0,show Tryz.prog.cellsOf 46=1 from by kernel_rfl] at a9
 obtain⟨u9,l9,e9,i9,S9,_⟩:=ZeQ (sz:=39) Tryz.underlying46 Q7 Q0 Zzi a9
 have a10:DataW.trod enc prog w base sp held m 47 ((cs.drop 10).take (Tryz.prog.cellsOf 47))=xs[10]? :=hat 10 _ rfl
 rw[List.getElem?_eq_getElem Q0,show Tryz.prog.cellsOf 47=1 from by kernel_rfl] at a10
 obtain⟨u10,l10,e10,i10,S10,_⟩:=ZeQ (sz:=40) Tryz.underlying47 Q7 Q0 Zzk a10
 have a11:DataW.trod enc prog w base sp held m 48 ((cs.drop 11).take (Tryz.prog.cellsOf 48))=xs[11]? :=hat 11 _ rfl
 rw[List.getElem?_eq_getElem Q0,show Tryz.prog.cellsOf 48=1 from by kernel_rfl] at a11
 obtain⟨u11,l11,e11,i11,S11,_⟩:=ZeQ (sz:=40) Tryz.underlying48 Q7 Q0 ZwS a11
 have a12:DataW.trod enc prog w base sp held m 51 ((cs.drop 12).take (Tryz.prog.cellsOf 51))=xs[12]? :=hat 12 _ rfl
 rw[List.getElem?_eq_getElem Q0,show Tryz.prog.cellsOf 51=2 from by kernel_rfl] at a12
 obtain⟨u12,l12,n12,i12,S12,e12⟩:=Zts _ _ _ a12
 refine⟨⟨n0,n1,n2,n3,n4,n5,n12,l6,l7,l8,l9,l10,l11,l12⟩,⟨u6,u7,u8,u9,u10,u11,u12⟩,λx hx=>(i11 x hx).2,⟨i6,λx hx=>(i7 x hx).1,i8,i9,i10,λx hx=>(i11 x hx).1,i12,λx hx=>(i7 x hx).2⟩,⟨S6,S7,S8,S9,S10,S11,S12⟩,?_⟩
 match cs,hl,e0,e1,e2,e3,e4,e5,e6,e7,e8,e9,e10,e11,e12 with
 |[c0,c1,c2,c3,c4,c5,c6,c7,c8,c9,c10,c11,c12,c13],_,e0,e1,e2,e3,e4,e5,e6,e7,e8,e9,e10,e11,e12=>
  simp only[List.drop_zero,List.take_succ_cons,List.take_zero,List.drop_succ_cons,List.cons.injEq,and_true,plC] at e0 e1 e2 e3 e4 e5 e6 e7 e8 e9 e10 e11 e12
  obtain⟨e12,e13⟩:=e12
  rw[e0,e1,e2,e3,e4,e5,e6,e7,e8,e9,e10,e11,e12,e13]
  rfl
end
section
variable {H:Type} {enc:TypeId×Value->H} {w:World} {r:Reach} {b0 base:Nat} {sp:Nat->Bool} {held:Bool} {v:Value} {d:DataW H} {p:List MemPlace}
set_option maxRecDepth 100000 in
theorem ZsB(hval:Value.okWide prog w r b0 53 v)(h:DataW.Trod enc prog w base sp held 53 v d p):∃(s:RtV)(x:RtX),Sq16 s.rq/\IsRt s/\RtAt w s x/\v= .agg (rtC s x).toArray:=by
 obtain⟨cs,rfl⟩:=ZzL Q7 hval
 obtain⟨fuel,hf⟩:=h
 obtain⟨s,x,h0,h1,h2,h3⟩:=ZwR fuel _ _ hf
 exact⟨s,x,h0,h1,h2,by rw[<-h3];simp[Value.cells]⟩
end
end
section
open Go.ChangeShapes Go.WideShapes Go.ChangeAt Go.RowKit
set_option maxRecDepth 100000 in
theorem routerTicks_contract(H:Type)(enc:TypeId×Value->H)(W:World)(base:Nat)(args:Array Value)(ds gs:List (DataW H))(before:List MemPlace)
  (hval:∀(j:Nat)t v,Tryz.f8.params[j]? =some t->args[j]? =some v->Value.okWide prog W .any base t v)
  (hW:DataW.Whole enc prog Tryz.f8.params.toList Rows.routerTicksSpec.vars false W args.toList ds gs before) (hL:laidMetH prog Zm4 W) (hS:W.ShapedOpen prog):
  Calls prog 8 args W λe W'=>∃v,e= .returned v/\Rows.routerTicksSpec.post enc prog Tryz.f8 false true false false W args v W':=by
 have hW':=hW
 obtain⟨p,q,hA0,hV,rfl,hfz,hnd⟩:=hW
 have hA:DataW.TrodAll enc prog W 0 (λ_=>true) true Tryz.f8.params.toList args.toList ds p:=hA0
 rw[Tryz.params8] at hA hval
 obtain⟨v0,vs0,d0,ds0,p0,q0,hargs,rfl,rfl,h0,r0⟩:=trodAll_cons hA
 obtain⟨v1,vs1,d1,ds1,p1,q1,rfl,rfl,rfl,h1,r1⟩:=trodAll_cons r0
 obtain⟨v2,vs2,d2,ds2,p2,q2,rfl,rfl,rfl,h2,r2⟩:=trodAll_cons r1
 obtain⟨rfl,rfl,rfl⟩:=trodAll_nil r2
 obtain rfl:args= #[v0,v1,v2]:=by cases args;simp_all
 obtain⟨s0,y0,hq0,hx0,hs0,rfl⟩:=ZsB (hval 0 _ v0 rfl rfl) h0
 obtain⟨l1,q1p,cap1,rfl,hc1,hx1⟩:=ZvQ (hval 1 _ v1 rfl rfl) h1
 obtain⟨x2,rfl,rfl,rfl,w2⟩:=open_int Tryz.underlying3 (hval 2 _ v2 rfl rfl) h2;have hx2:=ZqP w2
 refine((ZsW s0 y0 hx0 hq0 l1 x2 W hs0 hx1 hc1).calls).mono ?_
 rintro e W' ⟨v,rfl,rfl,hE⟩
 exact⟨_,rfl,ZsZ (tb:=4) Zwb Q7 rfl Q7 Tryz.underlying4 (λxs hx=>by rw[Tryz.params8] at hx;match xs,hx with|[_,_,_],_=>rfl) hW' hE⟩
set_option maxRecDepth 100000 in
theorem routerTicks_lifted(os:Os)(started:os.Started)(H:Type)(enc:TypeId×Value->H)(F:Stop.Interp):
  ReturnsInHanded {} Tryz.checked os 8 .any ((OpenSpec.ofChange Rows.routerTicksSpec).preRow enc prog Tryz.f8 Rows.routerTicksRow.domain false Rows.routerTicksRow.laid) (((OpenSpec.ofChange Rows.routerTicksSpec).at F).post enc prog Tryz.f8 false true false false):=by
 have hx:∃places ds,DataW.whole enc prog ((Zig os).forCall (λ_ _=>0) ⟨#[], #[.agg (rtC ⟨0,0,0,0,0,0,0,[],[],[],[],[],[],[]⟩ ⟨.slice none 0 0, .slice none 0 0, .slice none 0 0, .slice none 0 0, .slice none 0 0, .slice none 0 0, .slice none 0 0⟩).toArray, .slice none 0 0, .int .i64 0],[]⟩).memory Tryz.f8.params.toList Rows.routerTicksSpec.vars false #[Value.agg (rtC ⟨0,0,0,0,0,0,0,[],[],[],[],[],[],[]⟩ ⟨.slice none 0 0, .slice none 0 0, .slice none 0 0, .slice none 0 0, .slice none 0 0, .slice none 0 0, .slice none 0 0⟩).toArray, .slice none 0 0, .int .i64 0].toList 8=some (ds,[],places)/\ds=[.agg [.lit (.int .u64 0), .lit (.int .u16 0), .lit (.int .i64 0), .lit (.int .i64 0), .lit (.int .u16 0), .lit (.int .i64 0), .nil, .nil, .nil, .nil, .nil, .nil, .agg [.nil, .lit (.int .i64 0)]], .nil, .lit (.int .i64 0)]:=⟨[],[.agg [.lit (.int .u64 0), .lit (.int .u16 0), .lit (.int .i64 0), .lit (.int .i64 0), .lit (.int .u16 0), .lit (.int .i64 0), .nil, .nil, .nil, .nil, .nil, .nil, .agg [.nil, .lit (.int .i64 0)]], .nil, .lit (.int .i64 0)],by kernel_rfl,rfl⟩
 obtain⟨places,ds,hx,rfl⟩:=hx
 refine returnsInHanded_of_row (C:=Tryz.checked) (s:=OpenSpec.ofChange Rows.routerTicksSpec) own started Q7 Tryz.func8
  (witness_row_at (enc:=enc) (C:=Tryz.checked) false (Zig os) #[.agg (rtC ⟨0,0,0,0,0,0,0,[],[],[],[],[],[],[]⟩ ⟨.slice none 0 0, .slice none 0 0, .slice none 0 0, .slice none 0 0, .slice none 0 0, .slice none 0 0, .slice none 0 0⟩).toArray, .slice none 0 0, .int .i64 0] rfl Q7 Q7 Q7
   (OpenSpec.preRow_of_cond 8 hx Q7 (λk hk=>by cases hk) Q7 (Zs1 os _))) ?_
 intro W base args ds gs before hval hW _ hcond _ hL hS _
 exact routerTicks_contract H enc W base args ds gs before hval hW hL hS
theorem Zhq:Tryz.pinned.checked.prog.funcNamed Rows.routerTicksRow.func=some 8:=by kernel_rfl
theorem Zgh:joinedFacts Tryz.pinned.checked.prog 8 Tryz.f8 (OpenSpec.ofChange Rows.routerTicksSpec).bare Rows.routerTicksRow=true:=by
 unfold joinedFacts
 simp only[Bool.and_eq_true]
 repeat' apply And.intro
 all_goals (as_aux_lemma=>kernel_rfl)
theorem routerTicks_said : Rows.RouterTicksSaid :=
 OpenClaim.holds_of_cond 8 Tryz.f8 rfl rfl rfl rfl rfl rfl rfl ⟨rfl, rfl, rfl, rfl, rfl⟩ rfl rfl rfl rfl rfl Zhq Tryz.func8 Zgh
  (dqU Q7) (by unfold Func.isWrapper;first | (rw [if_pos (by decide +kernel)];kernel_rfl) | (rw [if_neg (by decide +kernel)];exact ⟨rfl, rfl⟩))
  (fun os started H enc _ F => by rw [OpenClaim.pre_eq_preRow];exact routerTicks_lifted os started H enc F)
#print axioms routerTicks_said
end
end Go.Proofs.YtfhkmgcalcfibaaGreat

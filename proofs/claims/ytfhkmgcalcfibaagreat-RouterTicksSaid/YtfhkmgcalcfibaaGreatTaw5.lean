/-
  Texts joined.
-/
import Derived.Test.YtfhkmgcalcfibaaGreatTaw4
set_option linter.unusedVariables false
set_option linter.unusedSimpArgs false
set_option maxHeartbeats 64000000
namespace Go.Proofs.YtfhkmgcalcfibaaGreat
open Go.RowKit
open Go.Proofs.Tryz (prog)
variable {S:List Nat}{bt i j n r:Nat}{ent:EN}{l:List RouV}{now:Int}{old:List InsV}{p:Prop}{t:DstV}{v:Value}{vs:List Value}{x:InsV}{xs:List Int}{y:OrgV}
section
attribute [local irreducible] OpTo wpListIn Code.wpIn MW Cal
def dedS{α:Type} [DecidableEq α](acc:List α)(x:α):List α:=if acc.getLast? =some x then acc else acc++[x]
def dedA{α:Type} [DecidableEq α](ls:List α):List α:=ls.foldl dedS []
section
variable {α:Type} [DecidableEq α]
theorem Zrs(acc:List α)(x:α):(dedS acc x).getLast? =some x:=by
 unfold dedS
 split
 ·assumption
 ·simp
theorem Zlq{ls:List α}(hj:j<ls.length):dedA (ls.take (j+1))=dedS (dedA (ls.take j)) ls[j]:=by
 unfold dedA
 rw[List.take_add_one,List.getElem?_eq_getElem hj,List.foldl_append]
 rfl
theorem Zrt{ls:List α}(h0:0<j)(hj:j<=ls.length):(dedA (ls.take j)).getLast? =some ls[j-1]:=by
 obtain⟨i,rfl⟩:∃i,j=i+1:=⟨j-1,Q0⟩
 rw[Zlq Q0,Zrs]
 simp
theorem Zlr{ls:List α}(h0:0<j)(hj:j<ls.length):dedA (ls.take (j+1))=if ls[j]=ls[j-1] then dedA (ls.take j) else dedA (ls.take j)++[ls[j]]:=by
 rw[Zlq hj]
 unfold dedS
 rw[Zrt h0 Q0]
 by_cases h:ls[j]=ls[j-1]
 ·rw[if_pos (by rw[h]),if_pos h]
 ·rw[if_neg (by intro e;exact h (by simpa using e.symm)),if_neg h]
theorem Ztr(ls:List α):dedA (ls.take 1)=ls.take 1:=by
 cases ls with
 |nil=>rfl
 |cons x xs=>simp[dedA,dedS]
end
section
variable {P:Program} {ρ:Operand->Value} {w W0:World} {S:List Nat} {l:EN} {l':List Value->EN} {R:Value->World->Prop} {d:Option Tmp} {ty:TypeId} {pos:String} {af:Array Edge} {g:Option (Nat×Bool)}
theorem ZjW{t e:TypeId}{x:Operand}{b off n cap sz:Nat}{zs cs:List Value}{t':TypeId} [ht:TU P t (.slice e)] [hz:ZcD P e zs](M:Mem S W0 w l)(hx:ρ x= .slice (some ⟨b,off,none⟩) n cap)(hn:0<n)(hzl:zs.length=sz)(h1:zs.all (·.oneCell')=true)(hb:Has l b (.cells cs.toArray t' (0,0)))(hle:off+n*sz<=cs.length)
  (hu:∀vs,Upd l b (.cells cs.toArray t' (0,0)) (.cells (ZbD cs off vs).toArray t' (0,0)) (l' vs)) (h:∀vs w',vs.length=n*sz->Mem S W0 w' (l' vs)->R (.tuple #[]) w'):OpTo P ⟨d, .call ⟨.builtin .clear, #[x], #[t]⟩,ty,pos,af,g⟩ ρ w R:=by
 obtain⟨m,rfl⟩:∃m,n=m+1:=⟨n-1,Q0⟩
 obtain⟨z,hzc,hzr⟩:=Zfa (w:=w) hz.h
 have hzs:z.cells.size=sz:=by rw[hzc];simpa using hzl
 obtain⟨vs,hvs⟩:∃vs,vs=(Builtin.zeroCells z.cells (m+1)).toList:=⟨_,rfl⟩
 have hvl:vs.length=(m+1)*sz:=by rw[hvs];simp[Builtin.zeroCells,hzs]
 have hv1:∀v∈vs,v.oneCell'=true:=by
  intro v hv
  rw[hvs] at hv
  simp only[Builtin.zeroCells,Array.toList_map,List.mem_map] at hv
  obtain⟨i,hi,rfl⟩:=hv
  have hi2:i<(m+1)*z.cells.size:=by simpa using hi
  have hpos:0<z.cells.size:=Nat.pos_of_ne_zero λh=>by rw[h] at hi2;simp at hi2
  have hlt:i % z.cells.size<z.cells.size:=Nat.mod_lt _ hpos
  rw[getElem!_pos z.cells (i % z.cells.size) hlt]
  refine List.all_eq_true.1 h1 _ ?_
  have hm:z.cells[i % z.cells.size]∈z.cells.toList:=by simp
  have hzz:z.cells.toList=zs:=by rw[hzc]
  rwa[hzz] at hm
 obtain⟨w',hr,hE,hb'⟩:=Zb5 (P:=P) (b:=b) (off:=off) (t':=t') vs 0 cs w (M.heap hb) (by rw[hvl];omega) hv1
 have hrun:(Builtin.clear_ #[t] ty #[.slice (some ⟨b,off,none⟩) (m+1) cap]).run P w= .ok (.tuple #[]) w':=by
  simp[Builtin.clear_,run_underlying ht.h,hzr,<-hvs,hr]
 exact OpTo.val (v:= .tuple #[]) (w':=w') (by simp[execOp,resolve,invoke,builtin,hx,hrun]) (h vs w' hvl (M.turned (hu vs) hE hb'))
end
theorem Zf6{α:Type}{cur:List α}{x:α}(h:i<cur.length):(cur.set i x).take (i+1)=cur.take i++[x]:=by
 rw[List.take_add_one,List.getElem?_set_self h,List.take_set_of_le (Nat.le_refl _)]
 rfl
theorem vBx(h:p:=by
  unfold ZbD
  rw[List.take_append_of_le_length (by rw[Za2 hcs];omega),Nat.zero_add,ZgD hcs,hct]):p:=h
theorem ZoQ(ls:List DstV)(hI:∀a∈ls,IsDv a)(hlen:ls.length<=100000){W0 w0:World}{l:EN}{f:EN->EN}(M0:Mem S W0 w0 l)(hOw:OwnS 67 35 v ls.length (dvsC ls) ent)(hl:ZcQ ent l f):
  Cal prog 301 [v].toArray w0 λr w'=>∃ls' ent',ls'=dedA ls/\OwnS 67 35 r ls'.length (dvsC ls') ent'/\Mem S W0 w' (f ent'):=by
 have hsz:∀x∈ls,(dvC x).length=35:=λx hx=>Zbl (hI x hx)
 obtain⟨lr,rfl,hf⟩:=hl.spec
 by_cases hn2:ls.length<2
 ·have hd:dedA ls=ls:=by
   rcases ls with _|⟨x,_|⟨y,r⟩⟩
   ·rfl
   ·simp[dedA,dedS]
   ·simp at hn2;omega
  obtain⟨q,cap,rfl⟩:=hOw.slice
  refine Zar (n:=61) [] Tryz.func301 rfl rfl rfl ?_
  intro a w F M hwW
  have hE0:Mem S W0 w (lr++ent):=by rw[hwW];exact M0
  clear M
  have M:=hE0
  refine W1 22 ?_;intro a F
  refine Qq F ?_
  exact⟨ls,ent,hd.symm,hOw,by rw[hf];exact M⟩
 rcases hOw with⟨_,h0,_,_⟩|⟨b,cap,junk,rfl,rfl,hxl,hjl,hnc⟩
 ·omega
 replace M0:=M0.perm (l':=(b, .cells (dvsC ls++junk).toArray 67 (0,0))::lr) List.perm_append_comm
 refine Zar (n:=61) [] Tryz.func301 rfl rfl rfl ?_
 intro a w F M hwW
 replace M:Mem S W0 w ((b, .cells (dvsC ls++junk).toArray 67 (0,0))::lr):=by rw[hwW];exact M0
 clear M0 hwW
 refine W1 23 ?_;intro a F
 refine ZbK (λm a w=>∃i:Nat,m=ls.length-i/\1<=i/\i<=ls.length/\dedA (ls.take i)=ls.take i/\Frm a 61 [] [(3, .int .i64 (i:Int)),(0, .slice (some ⟨b,0,none⟩) ls.length cap)]/\Mem S W0 w ((b, .cells (dvsC ls++junk).toArray 67 (0,0))::lr)) (ls.length-1) ⟨1,rfl,Q0,Q0,Ztr ls,F.only [3,0] rfl,M⟩ ?_
 clear F M
 rintro m a w ⟨i,hm,hi1,hi,hd,F,M⟩
 by_cases hlt:i<ls.length
 ·have f1:seg (dvsC ls++junk) (0+(i:Int).toNat*35) 35=some (dvC ls[i]):=Zeu hsz junk hlt Q0
  have f2:seg (dvsC ls++junk) (0+((i:Int)-1).toNat*35) 35=some (dvC ls[i-1]):=Zeu hsz junk (show i-1<ls.length by omega) Q0
  have g1:=ZaG (hI _ (List.getElem_mem hlt))
  have g2:=ZaG (hI _ (List.getElem_mem (show i-1<ls.length by omega)))
  have g3:eqVs (dvC ls[i]) (dvC ls[i-1])=decide (ls[i]=ls[i-1]):=Zc3 (hI _ (List.getElem_mem hlt)) (hI _ (List.getElem_mem (show i-1<ls.length by omega)))
  have hst:=Zlr (ls:=ls) (j:=i) Q0 hlt
  by_cases he:ls[i]=ls[i-1]
  ·rw[if_pos he] at hst
   replace g3:eqVs (dvC ls[i]) (dvC ls[i-1])=true:=by rw[g3,dqT he]
   refine W1 15 ?_;intro a F
   replace F:=F.only [3,0] rfl
   refine Za4 9 F Q7 ?_
   intro w1 hE hok
   have M1:=M.later hE
   refine W2 9 hok ?_
   (refine Qx M1 ?_;clear F M M1 hok hE;intro a w F M;(try dsimp only at F))
   refine W1 8 ?_;intro a F
   (refine sD F (Zew (F.e rfl) (F.e rfl) Q0 Q0 Q0 ?_);clear F a;intro a F)
   simp only[Int.toNat_natCast] at F
   refine W1 10 ?_;intro a F
   clear f1 f2 g1 g2 g3
   refine ZbK (λm a w=>∃(k i2:Nat)(cur:List DstV),m=ls.length-i-k/\1<=k/\i+k<=ls.length/\cur.length=ls.length/\(∀a∈cur,IsDv a)/\i2<=i+k-1/\cur.take i2=dedA (ls.take (i+k))/\(∀p,i+k-1<=p->cur[p]? =ls[p]?)/\Frm a 61 [] [(5, .int .i64 (k:Int)),(4, .slice (some ⟨b,0+i*35,none⟩) (ls.length-i) (cap-i)),(3, .int .i64 (i2:Int)),(0, .slice (some ⟨b,0,none⟩) ls.length cap)]/\Mem S W0 w ((b, .cells (dvsC cur++junk).toArray 67 (0,0))::lr)) (ls.length-i-1) ⟨1,i,ls,rfl,Q0,Q0,rfl,hI,Q0,by rw[hst,hd],λp _=>rfl,F.only [5,4,3,0] rfl,M⟩ ?_
   clear F M hst
   rintro m2 a w ⟨k,i2,cur,hm2,hk1,hk,hcl,hcI,hi2,hct,hcp,F,M⟩
   have hcs:∀x∈cur,(dvC x).length=35:=λx hx=>Zbl (hcI x hx)
   by_cases hlt2:i+k<ls.length
   ·have e1:cur[i+k]=ls[i+k]:=by
     have:=hcp (i+k) Q0
     rwa[List.getElem?_eq_getElem Q0,List.getElem?_eq_getElem hlt2,Option.some.injEq] at this
    have e2:cur[i+k-1]=ls[i+k-1]:=by
     have:=hcp (i+k-1) Q0
     rwa[List.getElem?_eq_getElem Q0,List.getElem?_eq_getElem Q0,Option.some.injEq] at this
    have hx1:=hI _ (List.getElem_mem hlt2)
    have hx2:=hI _ (List.getElem_mem (show i+k-1<ls.length by omega))
    have f1:seg (dvsC cur++junk) (0+i*35+(k:Int).toNat*35) 35=some (dvC ls[i+k]):=by rw[<-e1];exact Zeu hcs junk Q0 Q0
    have f2:seg (dvsC cur++junk) (0+i*35+((k:Int)-1).toNat*35) 35=some (dvC ls[i+k-1]):=by rw[<-e2];exact Zeu hcs junk Q0 Q0
    have g1:=ZaG hx1
    have g2:=ZaG hx2
    have g3:eqVs (dvC ls[i+k]) (dvC ls[i+k-1])=decide (ls[i+k]=ls[i+k-1]):=Zc3 hx1 hx2
    have hst:=Zlr (ls:=ls) (j:=i+k) Q0 hlt2
    clear e2
    by_cases he2:ls[i+k]=ls[i+k-1]
    ·rw[if_pos he2] at hst
     replace g3:eqVs (dvC ls[i+k]) (dvC ls[i+k-1])=true:=by rw[g3,dqT he2]
     refine W1 15 ?_;intro a F
     replace F:=F.only [5,4,3,0] rfl
     refine Za4 9 F Q7 ?_
     intro w1 hE hok
     have M1:=M.later hE
     refine W2 9 hok ?_
     (refine Qx M1 ?_;clear F M M1 hok hE;intro a w F M;(try dsimp only at F))
     refine W1 13 ?_;intro a F
     exact⟨_,Q0,k+1,i2,cur,rfl,Q0,Q0,hcl,hcI,Q0,by rw[hct,<-Nat.add_assoc,hst],λp hp=>hcp p Q0,F.only [5,4,3,0] rfl,M⟩
    ·rw[if_neg he2] at hst
     replace g3:eqVs (dvC ls[i+k]) (dvC ls[i+k-1])=false:=by rw[g3,dqF he2]
     have l1:(dvC ls[i+k]).length=35:=Zbl hx1
     have hpt:put (dvsC cur++junk) (0+(i2:Int).toNat*35) (dvC ls[i+k])=some (dvsC (cur.set i2 ls[i+k])++junk):=
      Zkc hcs junk (show i2<cur.length by omega) (off:=0) (Zat (by rw[l1,hcs _ (List.getElem_mem _)])) Q0
     refine W1 15 ?_;intro a F
     replace F:=F.only [5,4,3,0] rfl
     refine Za4 9 F Q7 ?_
     intro w1 hE hok
     have M1:=M.later hE
     refine W2 9 hok ?_
     (refine Qx M1 ?_;clear F M M1 hok hE;intro a w F M;(try dsimp only at F))
     refine W1 13 ?_;intro a F
     (refine ZaW rfl F (Zap M (F.e rfl) (F.e rfl) l1 (Zek _)  Q1  hpt Q1 ?_);clear F M;intro w M a F)
     refine W1 15 ?_;intro a F
     exact⟨_,Q0,k+1,i2+1,_,rfl,Q0,Q0,by rw[List.length_set];exact hcl,λa ha=>by
      rcases List.mem_or_eq_of_mem_set ha with h|h
      ·exact hcI a h
      ·rw[h];exact hx1,Q0,by rw[Zf6 Q0,hct,<-Nat.add_assoc,hst],λp hp=>by rw[List.getElem?_set_ne Q0];exact hcp p Q0,F.only [5,4,3,0] rfl,M⟩
   ·have hkl:i+k=ls.length:=by omega
    rw[hkl,List.take_length] at hct
    refine W1 19 ?_;intro a F
    (refine sD F (Zew (F.e rfl) (F.e rfl) Q0 Q0 Q0 ?_);clear F a;intro a F)
    simp only[Int.toNat_natCast] at F
    have hcl2:(dvsC cur++junk).length=cap*35:=by rw[List.length_append,Za2 hcs,hjl,hcl,<-Nat.add_mul];congr 1;omega
    (refine ZaW rfl F (ZjW (sz:=35) M (F.e rfl) Q0 rfl rfl .here (by rw[hcl2];omega) (λvs=> .here) ?_);clear F M;intro vs w hvs M a F)
    refine W1 6 ?_;intro a F
    (refine sD F (ZjT (F.e rfl) (F.e rfl) Q5 Q0 Q0 ?_);clear F a;intro a F)
    simp only[Int.toNat_natCast] at F
    refine W1 9 ?_;intro a F
    refine Qq F ?_
    have hil:(dedA ls).length=i2:=by rw[<-hct,List.length_take];omega
    refine⟨dedA ls,[(b, .cells (dvsC (dedA ls)++(vs++(dvsC cur++junk).drop (0+i2*35+vs.length))).toArray 67 (0,0))],rfl, .inr ⟨b,cap,_,by rw[hil];(try rfl),rfl,by rw[Za2 (λx hx=>hcs x (List.mem_of_mem_take (by rw[hct];exact hx)))],by rw[List.length_append,List.length_drop,hcl2,hvs,hil];omega,Q0⟩,?_⟩
    rw[hf]
    refine Mem.perm ?_ (List.perm_append_comm (l₁:=[_]) (l₂:=lr))
    have hsp:ZbD (dvsC cur++junk) (0+i2*35) vs=dvsC (dedA ls)++(vs++(dvsC cur++junk).drop (0+i2*35+vs.length)):=by
     exact vBx
    rw[<-hsp]
    exact M
  ·rw[if_neg he] at hst
   replace g3:eqVs (dvC ls[i]) (dvC ls[i-1])=false:=by rw[g3,dqF he]
   refine W1 15 ?_;intro a F
   replace F:=F.only [3,0] rfl
   refine Za4 9 F Q7 ?_
   intro w1 hE hok
   have M1:=M.later hE
   refine W2 9 hok ?_
   (refine Qx M1 ?_;clear F M M1 hok hE;intro a w F M;(try dsimp only at F))
   refine W1 13 ?_;intro a F
   exact⟨_,Q0,i+1,rfl,Q0,Q0,by rw[hst,hd,List.take_add_one,List.getElem?_eq_getElem hlt];rfl,F.only [3,0] rfl,M⟩
 ·obtain rfl:i=ls.length:=by omega
  rw[List.take_length] at hd
  refine W1 22 ?_;intro a F
  refine Qq F (⟨ls,_,hd.symm, .inr ⟨b,cap,junk,rfl,rfl,hxl,hjl,hnc⟩,?_⟩)
  rw[hf]
  exact M.perm (List.perm_append_comm (l₁:=[_]) (l₂:=lr))
theorem Zkm:∀(xs acc:List DstV),AscD acc->(∀x∈acc,IsDv x)->(∀x∈xs,IsDv x)->xs.Pairwise (λa b=>¬cmpD b a<0)->(∀a∈acc,∀x∈xs,¬cmpD x a<0)->AscD (xs.foldl dedS acc)/\∀y,y∈xs.foldl dedS acc↔y∈acc∨y∈xs
 |[],acc,h,_,_,_,_=>⟨h,by simp⟩
 |x::xs,acc,h,ia,ix,hp,hle=>by
  have hp1:=List.pairwise_cons.1 hp
  have hlt:∀a b:DstV,IsDv a->IsDv b->¬cmpD b a<0->a≠b->cmpD a b<0:=by
   intro a b ha hb h1 h2
   have h3:=ZbJ b a
   have h4:cmpD a b≠0:=λe=>h2 (Zcg ha hb e)
   omega
  rw[List.foldl_cons]
  unfold dedS
  by_cases hl:acc.getLast? =some x
  ·rw[if_pos hl]
   obtain⟨h1,h2⟩:=Zkm xs acc h ia (λy hy=>ix y (List.mem_cons_of_mem _ hy)) hp1.2 (λa ha y hy=>hle a ha y (List.mem_cons_of_mem _ hy))
   refine⟨h1,λy=>?_⟩
   rw[show(λacc x=>if acc.getLast? =some x then acc else acc++[x])= @dedS DstV _ from rfl,h2,List.mem_cons]
   constructor
   ·rintro(h|h)<;>simp[h]
   ·rintro(h|rfl|h)
    ·exact .inl h
    ·exact .inl (List.mem_of_getLast? hl)
    ·exact .inr h
  ·rw[if_neg hl]
   have hx:=ix x Q5
   have hacc:∀a∈acc,cmpD a x<0:=by
    intro a ha
    obtain⟨ys,z,rfl⟩:∃ys z,acc=ys++[z]:=⟨acc.dropLast,acc.getLast (by rintro rfl;simp at ha),(List.dropLast_concat_getLast _).symm⟩
    have hz:z≠x:=λe=>hl (by simp[e])
    have hzx:=hlt z x (ia z Q5) hx (hle z Q5 x Q5) hz
    rcases List.mem_append.1 ha with h1|h1
    ·exact Za6 ((List.pairwise_append.1 h).2.2 a h1 z Q5) hzx
    ·simp at h1
     rw[h1];exact hzx
   have hasc:AscD (acc++[x]):=List.pairwise_append.2 ⟨h,by simp,λa ha b hb=>by simp at hb;rw[hb];exact hacc a ha⟩
   obtain⟨h1,h2⟩:=Zkm xs (acc++[x]) hasc (λy hy=>by
    rcases List.mem_append.1 hy with h|h
    ·exact ia y h
    ·simp at h;rw[h];exact hx) (λy hy=>ix y (List.mem_cons_of_mem _ hy)) hp1.2 (λa ha y hy=>by
    rcases List.mem_append.1 ha with h|h
    ·exact hle a h y (List.mem_cons_of_mem _ hy)
    ·simp at h;rw[h];exact hp1.1 y hy)
   refine⟨h1,λy=>?_⟩
   rw[show(λacc x=>if acc.getLast? =some x then acc else acc++[x])= @dedS DstV _ from rfl,h2,List.mem_append,List.mem_cons,List.mem_cons]
   constructor
   ·rintro((h|h|h)|h)<;>simp_all
   ·rintro(h|h|h)<;>simp_all
theorem Zrr(hi:∀x∈allD l old,IsDv x){s:List DstV}(hp:s.Perm (allD l old))(hs:s.Pairwise λa b=>¬cmpD b a<0):dedA s=Zby l old:=by
 have h1:=Zkm s [] (by simp[AscD,AscC]) Q5 (λx hx=>hi x (hp.mem_iff.1 hx)) hs Q5
 have h2:=ZeA hi
 refine Ze3 (λd:DstV=>d) _ _ h1.1 h2.1 λx=>?_
 show x∈s.foldl dedS []↔x∈(allD l old).foldr insD []
 rw[h1.2,h2.2]
 simp[hp.mem_iff]
theorem Zu1(ls:List DstV)(hx:∀x∈ls,IsDv x)(hlen:ls.length<=100000)
   {W0 w:World} {l:EN} {f:EN->EN}   (M:Mem S W0 w l) (hO:OwnS 67 35 v ls.length (dvsC ls) ent) (hl:ZcQ ent l f):
  Cal prog 300 [v, .func (.func 87) #[] #[]].toArray w λ_ w'=>∃ls' ent',ls'.Perm ls/\ls'.Pairwise (λa b=>¬cmpD b a<0)/\OwnS 67 35 v ls'.length (dvsC ls') ent'/\Mem S W0 w' (f ent'):=by
 let enc:ADst->List Value:=λd=>dvC d.1
 obtain⟨az,haz⟩:∃az:List ADst,az.map (·.1)=ls:=⟨ls.pmap (λa h=>(⟨a,h⟩:ADst)) hx,by rw[List.map_pmap];simp⟩
 have henc:∀bz:List ADst,encL enc bz=dvsC (bz.map (·.1)):=by
  exact vCa
 have hlz:az.length=ls.length:=by rw[<-haz,List.length_map]
 rw[<-hlz] at hO
 rw[<-haz,<-henc] at hO
 have h:=ZjH (P:=prog) (ρ:=ZiS) (enc:=enc) (k:=35) (e:=67) ZxB (λx=>Zbl x.2) Q0 (λx=>Zek _) Q7 cfD swoD totD (g:=87) (Zad.h (P:=prog)) (λW x y=>Zb0 x.1 y.1 x.2 y.2 W) az M hO hl Q0
 refine Cal.mono h ?_
 rintro _ w' ⟨ent',hO',M'⟩
 have hp:=List.mergeSort_perm az λx y=> !(ltOf cfD) y x
 have hs:(az.mergeSort λx y=> !(ltOf cfD) y x).Pairwise λx y=>(!(ltOf cfD) y x)=true:=by
  refine List.pairwise_mergeSort ?_ ?_ _
  ·intro a b c h1 h2
   simp only[Bool.not_eq_true'] at h1 h2⊢
   exact swoD.ntrans c b a h2 h1
  ·intro a b
   cases h:ltOf cfD b a with
   |false=>simp
   |true=>simp[swoD.asymmA h]
 generalize az.mergeSort (λx y=> !(ltOf cfD) y x)=ds at*
 refine⟨ds.map (·.1),ent',by rw[<-haz];exact hp.map _,?_,?_,M'⟩
 ·rw[List.pairwise_map]
  refine hs.imp ?_
  intro a b h3
  simp only[Bool.not_eq_true'] at h3
  rw[ZqH] at h3
  exact h3
 ·rw[<-henc,List.length_map,hp.length_eq]
  exact hO'
theorem Zgq{α β:Type}(f:α->β){l:List α}(h:i<l.length):(l.take (i+1)).map f=(l.take i).map f++[f l[i]]:=by
 rw[List.take_add_one,List.getElem?_eq_getElem h,List.map_append]
 rfl
theorem ZwO(l:List RouV)(hx:∀x∈l,IsRo x)(old:List InsV)(hy:∀x∈old,IsIn x)(hl1:l.length<=1000)(hl2:old.length<=1000)(u v:Value)(W:World)(hS:SlAt W 39 u l.length (rosC l))(hT:SlAt W 40 v old.length (insC old)):
  Cal prog 240 [u,v].toArray W λr w'=>∃ent,OwnS 67 35 r (Zby l old).length (dvsC (Zby l old)) ent/\Mem [] W w' ent:=by
 have hall:∀x∈allD l old,IsDv x:=by
  intro x h
  unfold allD at h
  rcases List.mem_append.1 h with h|h
  ·obtain⟨r,h1,rfl⟩:=List.mem_map.1 h
   exact(hx r h1).1
  ·obtain⟨r,h1,rfl⟩:=List.mem_map.1 h
   exact(hy r h1).1
 have hdl:∀x∈allD l old,(dvC x).length=35:=λx h=>Zbl (hall x h)
 obtain⟨q,cap,rfl,hcap,hsp,hl,hm⟩:=hS
 obtain⟨q2,cap2,rfl,hcap2,hsp2,hl',hm2⟩:=hT
 refine Zar (n:=38) [] Tryz.func240 rfl rfl rfl ?_
 intro a w F M hwW
 refine W1 19 ?_;intro a F
 refine ZbK (λm a w=>∃(i:Nat)(z:Value)(ent:EN),m=l.length-i/\i<=l.length/\OwnS 67 35 z i (dvsC ((l.take i).map (·.to))) ent/\Frm a 38 [] [(12, .int .i64 i),(11, .int .i64 l.length),(10, .slice q l.length cap),(1, .slice q2 old.length cap2),(5,z)]/\Mem [] W w ent) l.length ⟨0, .slice none 0 0,[],rfl,Q0,OwnS.nil _ _,F.only [12,11,10,1,5] rfl,M⟩ ?_
 ·clear F M
  rintro m a w ⟨i,z,ent,hm',hi,hO,F,M⟩
  by_cases hlt:i<l.length
  ·obtain⟨b,o,cs,t',fz,rfl,hb,hs⟩:=hm Q0
   have hxv:=hx _ (List.getElem_mem hlt)
   have f1:seg cs (o+(i:Int).toNat*39) 39=some (roC l[i]):=Zal (Zbw hx) hs hlt Q0
   have hmt:=Zgq RouV.to hlt
   obtain⟨x,hx0⟩:∃x,x=l[i]:=⟨_,rfl⟩
   rw[<-hx0] at hxv f1 hmt
   have f2:(roC x).length=39:=Zdy hxv
   have f3:=ZfR hxv
   refine W1 15 ?_;intro a F
   (refine sD F (Zay M ?_);clear F M;intro b7 w M a F)
   (refine ZaW rfl F (Zap M (F.e rfl) (F.e rfl) (f2) (Zd1 x)  Q1  (Zat (by rw[f2];rfl)) Q1 ?_);clear F M;intro w M a F)
   refine W1 6 ?_;intro a F
   (refine sD F (ZaC F M rfl rfl rfl (ZeE hxv.1) ?_);clear F M;intro b19 w M a F)
   (refine sD F (Zck hO M (.cons (.cons .here)) (F.e rfl) (F.e rfl) (Zcc.cells' (M.heap .here) (ZbH (Zbl hxv.1)) (Zek _)) Q0 Q0 ?_);clear F M;intro z2 ent2 w hO2 M a F)
   refine W1 9 ?_;intro a F
   refine⟨_,Q0,i+1,z2,ent2,rfl,Q0,?_,F.only [12,11,10,1,5] rfl,M.sub (List.sublist_append_right [_,_] _)⟩
   rw[hmt]
   show OwnS _ 35 _ _ (encL dvC _) _
   rw[ZbC,Zdd]
   exact hO2
  ·obtain rfl:i=l.length:=by omega
   rw[List.take_length] at hO
   refine W1 21 ?_;intro a F
   refine ZbK (λm a w=>∃(i:Nat)(z:Value)(ent:EN),m=old.length-i/\i<=old.length/\OwnS 67 35 z (l.length+i) (dvsC (l.map (·.to)++(old.take i).map (·.to))) ent/\Frm a 38 [] [(24, .int .i64 i),(23, .int .i64 old.length),(22, .slice q2 old.length cap2),(5,z)]/\Mem [] W w ent) old.length ⟨0,z,ent,rfl,Q0,by simpa using hO,F.only [24,23,22,5] rfl,M⟩ ?_
   clear F M hO
   clear hm'
   rintro m a w ⟨i,z,ent,hm',hi,hO,F,M⟩
   by_cases hlt:i<old.length
   ·obtain⟨b,o,cs,t',fz,rfl,hb,hs⟩:=hm2 Q0
    have hxv:=hy _ (List.getElem_mem hlt)
    have f1:seg cs (o+(i:Int).toNat*40) 40=some (inC old[i]):=Zal (ZbU hy) hs hlt Q0
    have hmt:=Zgq InsV.to hlt
    obtain⟨x,hx0⟩:∃x,x=old[i]:=⟨_,rfl⟩
    rw[<-hx0] at hxv f1 hmt
    have f2:(inC x).length=40:=Zbu hxv
    have f3:=Zgu hxv
    refine W1 15 ?_;intro a F
    (refine sD F (Zay M ?_);clear F M;intro b9 w M a F)
    (refine ZaW rfl F (Zap M (F.e rfl) (F.e rfl) (f2) (ZcE x)  Q1  (Zat (by rw[f2];rfl)) Q1 ?_);clear F M;intro w M a F)
    refine W1 6 ?_;intro a F
    (refine sD F (ZaC F M rfl rfl rfl (ZeE hxv.1) ?_);clear F M;intro b31 w M a F)
    (refine sD F (Zck hO M (.cons (.cons .here)) (F.e rfl) (F.e rfl) (Zcc.cells' (M.heap .here) (ZbH (Zbl hxv.1)) (Zek _)) Q0 Q0 ?_);clear F M;intro z2 ent2 w hO2 M a F)
    refine W1 9 ?_;intro a F
    refine⟨_,Q0,i+1,z2,ent2,rfl,Q0,?_,F.only [24,23,22,5] rfl,M.sub (List.sublist_append_right [_,_] _)⟩
    rw[hmt,<-List.append_assoc]
    show OwnS _ 35 _ _ (encL dvC _) _
    rw[ZbC,Zdd]
    exact hO2
   ·obtain rfl:i=old.length:=by omega
    rw[List.take_length] at hO
    replace hO:OwnS 67 35 z (allD l old).length (dvsC (allD l old)) ent:=by
     have:(allD l old).length=l.length+old.length:=by simp[allD]
     rw[this]
     exact hO
    have hal:(allD l old).length<=2000:=by simp[allD];omega
    refine W1 15 ?_;intro a F
    (refine sD F (Zav (F.e rfl) (F.evs rfl) (Cal.mono (Zu1 (allD l old) hall Q0 M hO .here) ?_));clear F;clear a;clear M;rintro _ w ⟨ls,ent2,hp,hs,hO2,M⟩ a F)
    have hls:∀x∈ls,IsDv x:=λx h=>hall x (hp.mem_iff.1 h)
    have hll:ls.length<=2000:=by rw[hp.length_eq];exact hal
    refine W1 5 ?_;intro a F
    (refine sD F (Zav (F.e rfl) (F.evs rfl) (Cal.mono (ZoQ ls hls Q0 M hO2 .here) ?_));clear F;clear a;clear M;rintro r w ⟨ls',ent3,rfl,hO3,M⟩ a F)
    rw[Zrr hall hp hs] at hO3
    refine W1 4 ?_;intro a F
    exact Qq F (⟨ent3,hO3,M⟩)
theorem vB4(h:p:=by
  obtain⟨p1,n1,p2,n2,rt⟩:=d
  obtain⟨x0,x1,x2,x3,x4,x5,x6,x7,x8,x9,x10,x11,x12,x13,x14,x15,e0⟩:=ZdR (show p1.length=16 from hd.1.len)
  obtain⟨y0,y1,y2,y3,y4,y5,y6,y7,y8,y9,y10,y11,y12,y13,y14,y15,e1⟩:=ZdR (show p2.length=16 from hd.2.len)
  subst e0
  subst e1
  rfl):p:=h
theorem ZqV{d:DstV}(hd:IsDv d)(e:Int)(o:DisV)(z:Int):ZaD [(0,35),(35,1),(36,2),(38,1),(39,1)] inZ [(0,dvC d),(1,[.int .u64 e]),(2,diC o),(3,[.int .i64 z])]=some (inC ⟨d,e,o,z,0⟩):=vB4
theorem ZqU{d:DstV}(hd:IsDv d)(o:DisV)(z y:Int):ZaD [(0,35),(35,1),(36,2),(38,1),(39,1)] inZ [(0,dvC d),(2,diC o),(3,[.int .i64 z]),(4,[.int .i64 y])]=some (inC ⟨d,0,o,z,y⟩):=vB4
theorem ZuN:Zeb prog 72 (diV di0):=by
 unfold Zeb
 kernel_rfl
def mapQ(m:List (Int×DisV)):List (Int×Value):=m.map λp=>(p.1,diV p.2)
theorem ZhC:Zhv prog 41 (Value.int .u64) (λ_=>True):=ZqM Q7
def oldB(o:InsV)(had:Bool):Option InsV:=if had then some o else none
theorem ZiC{o:InsV}{had:Bool}(h:had=true->ins1 o=true):Zdk (befV (oldB o had))=true:=by
 cases had
 ·rfl
 ·have h1:=h rfl
  show Zdk ⟨o.nb,o.own.met,o.btn⟩=true
  unfold ins1 at h1
  unfold Zdk
  by_cases h0:o.nb=0
  ·rw[if_pos h0] at h1
   simp only[Bool.and_eq_true,decide_eq_true_eq] at h1
   simp[h1.2.1.1,h1.2.1.2,Zoe]
  ·rw[if_neg h0] at h1
   simp only[Bool.and_eq_true,decide_eq_true_eq,finD] at h1
   simp only[Bool.and_eq_true]
   exact⟨h1.2.1.1.1,h1.2.1.2⟩
theorem ZnH:IsIn in0:=⟨⟨Zeh,Zeh⟩,trivial⟩
theorem vCh(h:p:=by
  exact ZdP F rfl (.cons (.cell (F.e rfl) (Zam TAgg.h (M.heap Q1) (Zfl wf))) (.cons (.tmp (F.e rfl)) .nil)) ⟨rfl,M.ext⟩):p:=h
theorem Zxc(now:Int)(hnow:Zag now=true)(t:DstV)(ht:IsDv t)(o:InsV)(ho:IsIn o)(had:Bool)(hov:had=true->ins1 o=true)(l:List OptV)(hval:Zdj l=true)(v:Value)(said:List (Int×DisV))(vm:Value)(W:World)(hS:SlAt W 2 v l.length (opsC l))(hM:Zhu W (Value.int .u64) vm (mapQ said)):
  Cal prog 243 [.int .i64 now, .agg (dvC t).toArray, .agg (inC o).toArray, .bool had,v,vm].toArray W λr w'=>r= .tuple [.agg (inC ((aftV now t (oldB o had) l said).getD in0)).toArray, .bool (aftV now t (oldB o had) l said).isSome].toArray/\Ext [] W w':=by
 have e1:=Zcx ht
 have o1:=Zfl ho
 have o2:=Zs6 ho
 have o3:=Zjg ho
 have o4:=Zum ho
 have o5:=Zjf ho
 have o6:=Zuj ho
 have hB:=ZiC hov
 have hIs:∀x∈l,IsOp x:=λ_ _=>trivial
 have hnw:=hnow
 simp only[Zag,Bool.and_eq_true,decide_eq_true_eq] at hnw
 obtain⟨b0,hb0⟩:∃b0,b0=befV (oldB o had):=⟨_,rfl⟩
 rw[<-hb0] at hB
 obtain⟨c,hc⟩:∃c,c=Zbk now b0 l:=⟨_,rfl⟩
 have hch:=ZtB l hIs hval v now hnow b0 hB
 rw[<-hc] at hch
 have haft:aftV now t (oldB o had) l said=if c.nb≠0 then some ⟨t,c.nb,⟨((getA c.nb said).getD di0).seq,c.cost⟩,c.btn,0⟩ else match oldB o had with
  |none=>none
  |some o=>if o.nb≠0 then some ⟨t,0,⟨o.own.seq,inf⟩,-1,Zaz now 14⟩ else if now<o.til then some o else none:=by
  rw[hc,hb0]
  rfl
 have c1:=ZwX (o:=c) trivial
 have c2:=ZmE (o:=c) trivial
 have c3:=Zn2 (o:=c) trivial
 have c4:=Zfr (o:=c) trivial
 have b1:=ZfM (o:=b0) trivial
 refine Zar (n:=81) [] Tryz.func243 rfl rfl rfl ?_
 intro a w F M hwW
 refine W1 2 ?_;intro a F
 refine Qs F M ?_;clear F M;intro b7 w M a F
 refine Qs F M ?_;clear F M;intro b8 w M a F
 (refine sD F (Zay M ?_);clear F M;intro b12 w M a F)
 refine W1 6 ?_;intro a F
 (refine sD F (Zay M ?_);clear F M;intro b14 w M a F)
 refine W5 9 trivial ?_;intro a w F M
 refine ZgG (λa w=>Frm a 81 [] [(0, .int .i64 now),(3, .bool had),(4,v),(5,vm),(7, .pointer (some ⟨b7,0,none⟩)),(8, .pointer (some ⟨b8,0,none⟩)),(12, .pointer (some ⟨b12,0,none⟩)),(13, .bool false),(14, .pointer (some ⟨b14,0,none⟩))]/\Mem [] W w [(b14, .cells (chC b0).toArray 310 (0,0)),(b12, .cells inZ.toArray 74 (0,0)),(b8, .cells (inC o).toArray 74 (0,0)),(b7, .cells (dvC t).toArray 67 (0,0))]) ?_ ?_
 ·cases had
  ·refine W1 2 ?_;intro a F
   exact⟨F.only [0,3,4,5,7,8,12,13,14] rfl,by rw[hb0];exact M⟩
  ·refine W5 12 trivial ?_;intro a w F M
   exact⟨F.only [0,3,4,5,7,8,12,13,14] rfl,by rw[hb0];exact M⟩
 clear F M
 rintro a w ⟨F,M⟩
 refine W5 10 hch ?_;intro a w F M
 (refine sD F (Zay M ?_);clear F M;intro b15 w M a F)
 (refine ZaW rfl F (Zap M (F.e rfl) (F.e rfl) (c4) (Zjv c)  Q1  (Zat (by rw[c4];rfl)) Q1 ?_);clear F M;intro w M a F)
 by_cases h0:c.nb=0
 ·rw[haft,if_neg (by simp[h0])]
  cases had
  ·refine W5 38 trivial ?_;intro a w F M
   exact vAx
  ·have hold:oldB o true=some o:=rfl
   rw[hold]
   dsimp only
   refine W5 32 @Zge ?_;intro a w F M
   by_cases h1:o.nb=0
   ·rw[dqT h1] at F
    rw[if_neg (by simp[h1])]
    by_cases h2:now<o.til
    ·rw[if_pos h2]
     refine W1 17 ?_;intro a F
     (refine ZaW rfl F (Zap M (F.e rfl) (F.e rfl) (Zbu ho) (ZcE _)  Q1  (Zat (by rw[Zbu ho];rfl)) Q1 ?_);clear F M;intro w M a F)
     refine W1 6 ?_;intro a F
     exact ZdP F rfl (.cons (.cell (F.e rfl) (Zam TAgg.h (M.heap Q1) (Zfl ho))) (.cons (.tmp (F.e rfl)) .nil)) ⟨rfl,M.ext⟩
    ·rw[if_neg h2]
     refine W5 25 trivial ?_;intro a w F M
     exact vAx
   ·rw[dqF h1] at F
    rw[if_pos h1]
    have wf:IsIn ⟨t,0,⟨o.own.seq,inf⟩,-1,Zaz now 14⟩:=⟨ht,trivial⟩
    have e18:=ZbR (o:=⟨o.own.seq,inf⟩) trivial
    refine W1 10 ?_;intro a F
    (refine sD F (Zay M ?_);clear F M;intro b18 w M a F)
    refine W5 4 trivial ?_;intro a w F M
    replace F:=F.only [0,7,8,12,13,14,15,18] rfl
    refine Za4 5 F Q7 ?_
    intro w1 hE hok
    have M1:=M.later hE
    refine W2 3 hok ?_
    (refine mK hok rfl rfl (λa' w' F' E'=>Zav (F'.e rfl) (F'.evs rfl) (Cal.mono (Zso now 14 hnw.1 hnw.2 Q0 Q0 _) λ_ _ hh=>⟨hh.2,hh.1⟩)) ?_)
    skip
    (refine mK hok rfl rfl (λa' w' F' E'=>Zaq F' rfl (ZqU ht ⟨o.own.seq,inf⟩ (-1) (Zaz now 14)) ⟨Ext.refl _ _,rfl⟩) ?_)
    (refine Qx M1 ?_;clear F M M1 hok hE;intro a w F M;(try dsimp only at F))
    (refine ZaW rfl F (Zap M (F.e rfl) (F.e rfl) (Zbu wf) (ZcE _)  Q1  (Zat (by rw[Zbu wf];rfl)) Q1 ?_);clear F M;intro w M a F)
    refine W1 6 ?_;intro a F
    exact vCh
 rw[haft,if_pos h0]
 obtain⟨z,hz⟩:∃z,z=(getA c.nb said).getD di0:=⟨_,rfl⟩
 have hz2:(getA c.nb (mapQ said)).getD (diV di0)= .agg (diC z).toArray:=by
  rw[hz]
  unfold mapQ
  rw[ZhE]
  cases getA c.nb said<;>rfl
 rw[<-hz]
 have wf:IsIn ⟨t,c.nb,⟨z.seq,c.cost⟩,c.btn,0⟩:=⟨ht,trivial⟩
 have e17:=ZbR (o:=⟨z.seq,c.cost⟩) trivial
 refine W1 21 ?_;intro a F
 (refine sD F (Zk2 ZhC ZuN (hM.later M.ext) (λ_ _=>trivial) trivial (F.e rfl) (F.e rfl) ?_);clear F a;intro a F)
 rw[hz2] at F
 refine W1 4 ?_;intro a F
 (refine sD F (Zay M ?_);clear F M;intro b17 w M a F)
 refine W5 11 trivial ?_;intro a w F M
 (refine sD F (Zaq F rfl (ZqV ht c.nb ⟨z.seq,c.cost⟩ c.btn) ?_);clear F a;intro a F)
 (refine ZaW rfl F (Zap M (F.e rfl) (F.e rfl) (Zbu wf) (ZcE _)  Q1  (Zat (by rw[Zbu wf];rfl)) Q1 ?_);clear F M;intro w M a F)
 refine W1 5 ?_;intro a F
 exact vCh
def Zfn{α:Type}(p:α->Bool)(ls:List α):Int:=match ls.findIdx? p with|some i=>i|none=> -1
theorem ZnU{α:Type}{p:α->Bool}{ls:List α}(hi:i<ls.length)(h:p ls[i]=true)(hn:∀j(hj:j<i),p ls[j]=false):Zfn p ls=i:=by
 have:ls.findIdx? p=some i:=List.findIdx?_eq_some_iff_getElem.2 ⟨hi,h,λj hj=>by simp[hn j hj]⟩
 simp[Zfn,this]
theorem Zjl{α:Type}{p:α->Bool}{ls:List α}(hn:∀j(hj:j<ls.length),p ls[j]=false):Zfn p ls= -1:=by
 have:ls.findIdx? p=none:=List.findIdx?_eq_none_iff.2 λx hx=>by
  obtain⟨j,hj,rfl⟩:=List.mem_iff_getElem.1 hx
  exact hn j hj
 simp[Zfn,this]
theorem Ziq{α:Type}(p:α->Bool)(ls:List α):(Zfn p ls= -1/\∀x∈ls,p x=false)∨(∃i,∃hi:i<ls.length,Zfn p ls=i/\p ls[i]=true/\∀j(hj:j<i),p ls[j]=false):=by
 unfold Zfn
 cases h:ls.findIdx? p with
 |none=>exact .inl ⟨rfl,λx hx=>List.findIdx?_eq_none_iff.1 h x hx⟩
 |some i=>
  obtain⟨h1,h2,h3⟩:=List.findIdx?_eq_some_iff_getElem.1 h
  exact .inr ⟨i,h1,rfl,h2,λj hj=>by simpa using h3 j hj⟩
end
section
section
variable {now:Int} {s:List SrcV} {cm:List (Int×Int)} {t:DstV} {l:List RouV}
theorem ZmS(h:r<l.length)(he:l[r].to=t):(l.take (r+1)).filter (λr=>decide (r.to=t))=(l.take r).filter (λr=>decide (r.to=t))++[l[r]]:=by
 rw[List.take_add_one,List.getElem?_eq_getElem h,List.filter_append]
 simp[he]
theorem Zoz(h:r<l.length)(he:l[r].to=t):ZcA now s cm t (l.take (r+1))=ZcA now s cm t (l.take r)++(optV now s cm t l[r]).toList:=by
 unfold ZcA
 rw[ZmS h he,List.filterMap_append]
 cases ho:optV now s cm t l[r]<;>simp[List.filterMap_cons,ho]
theorem Zol(h:r<l.length)(he:l[r].to=t):ZeM now s cm t (l.take (r+1))=if(optV now s cm t l[r]).isSome then putA l[r].nb l[r].said (ZeM now s cm t (l.take r)) else ZeM now s cm t (l.take r):=by
 unfold ZeM
 rw[ZmS h he,List.filter_append,List.foldl_append]
 cases ho:(optV now s cm t l[r]).isSome<;>simp[List.filter_cons,ho]
theorem ZmT(h:∀j(hj:j<l.length),r<=j->l[j].to≠t):l.filter (λr=>decide (r.to=t))=(l.take r).filter (λr=>decide (r.to=t)):=by
 have h2:(l.drop r).filter (λr=>decide (r.to=t))=[]:=Zlm λa ha=>by
  obtain⟨j,hj,rfl⟩:=List.mem_iff_getElem.1 ha
  rw[List.length_drop] at hj
  rw[List.getElem_drop]
  exact dqF (h (r+j) Q0 Q0)
 conv=>lhs;rw[<-List.take_append_drop r l]
 rw[List.filter_append,h2,List.append_nil]
theorem Zph(h:∀j(hj:j<l.length),j<r->l[j].to≠t):(l.take r).filter (λr=>decide (r.to=t))=[]:=Zlm λa ha=>by
 obtain⟨j,hj,rfl⟩:=List.mem_iff_getElem.1 ha
 rw[List.length_take] at hj
 rw[List.getElem_take]
 exact dqF (h j Q0 Q0)
theorem Zqa(h:∀j(hj:j<l.length),r<=j->l[j].to≠t):ZcA now s cm t l=ZcA now s cm t (l.take r):=by
 unfold ZcA;rw[ZmT h]
theorem ZpC(h:∀j(hj:j<l.length),r<=j->l[j].to≠t):ZeM now s cm t l=ZeM now s cm t (l.take r):=by
 unfold ZeM;rw[ZmT h]
theorem Zp9(h:∀j(hj:j<l.length),j<r->l[j].to≠t):ZcA now s cm t (l.take r)=[]:=by
 unfold ZcA;rw[Zph h];rfl
theorem ZpB(h:∀j(hj:j<l.length),j<r->l[j].to≠t):ZeM now s cm t (l.take r)=[]:=by
 unfold ZeM;rw[Zph h];rfl
end
structure Yet{α:Type}(to:α->DstV)(l:List α)(ds:List DstV)(r:Nat):Prop where
 le:r<=l.length
 gone:∀j(hj:j<l.length),j<r->to l[j]∉ds
 yet:∀j(hj:j<l.length),r<=j->to l[j]∈ds
abbrev Weak{α:Type}(to:α->DstV)(l:List α):Prop:=l.Pairwise λa b=>¬cmpD (to b) (to a)<0
theorem Yet.next{α:Type}{to:α->DstV}{l:List α}{t:DstV}{ds:List DstV}{r r1:Nat}(hW:Weak to l)(hd:AscD (t::ds))(hi:∀x∈t::ds,IsDv x)(h:Yet to l (t::ds) r)(hr:r<=r1)(hle:r1<=l.length)(he:∀j(hj:j<l.length),r<=j->j<r1->to l[j]=t)(hn:∀hj:r1<l.length,to l[r1]≠t):Yet to l ds r1/\∀j(hj:j<l.length),r1<=j->to l[j]≠t:=by
 have hd1:=List.pairwise_cons.1 hd
 have htn:t∉ds:=λh=>by have:=hd1.1 t h;rw[Za0] at this;omega
 have key:∀j(hj:j<l.length),r1<=j->to l[j]≠t:=by
  intro j hj h1 e
  have hr1:r1<l.length:=by omega
  have h2:=h.yet r1 hr1 hr
  have h3:cmpD t (to l[r1])<0:=by
   rcases List.mem_cons.1 h2 with h4|h4
   ·exact absurd h4 (hn hr1)
   ·exact hd1.1 _ h4
  rcases Nat.lt_or_ge r1 j with h5|h5
  ·have:=(List.pairwise_iff_getElem.1 hW) r1 j hr1 hj h5
   rw[e] at this
   exact this h3
  ·obtain rfl:j=r1:=by omega
   exact hn hj e
 refine⟨⟨hle,λj hj h1 h2=>?_,λj hj h1=>?_⟩,key⟩
 ·rcases Nat.lt_or_ge j r with h3|h3
  ·exact h.gone j hj h3 (List.mem_cons_of_mem _ h2)
  ·rw[he j hj h3 h1] at h2
   exact htn h2
 ·rcases List.mem_cons.1 (h.yet j hj Q0) with h2|h2
  ·exact absurd h2 (key j hj h1)
  ·exact h2
theorem Yet.before{α:Type}{to:α->DstV}{l:List α}{t:DstV}{ds:List DstV}(h:Yet to l (t::ds) r):∀j(hj:j<l.length),j<r->to l[j]≠t:=λj hj h1 e=>h.gone j hj h1 (by rw[e];simp)
theorem Zpc(hi:∀x∈l,IsRo x)(h:AscC cmpR l):Weak RouV.to l:=by
 refine List.Pairwise.imp_of_mem ?_ h
 intro a b ha hb h1 h2
 rw[Zkn (hi a ha).1 (hi b hb).1,orI] at h1
 have h3:=ZbJ a.to b.to
 split at h1
 ·omega
 ·omega
theorem ZtM{l:List InsV}(h:AscC cmpN l):Weak InsV.to l:=by
 refine h.imp ?_
 intro a b h1 h2
 have h3:=ZbJ a.to b.to
 unfold cmpN at h1
 omega
theorem ZvT(h:i<old.length)(he:old[i].to=t)(hb:∀j(hj:j<old.length),j<i->old[j].to≠t):oldV old t=some old[i]:=
 Zmw h (dqT he) λj hj h1=>dqF (hb j hj h1)
theorem ZvR(hb:∀j(hj:j<old.length),old[j].to≠t):oldV old t=none:=Zj8 λj hj=>dqF (hb j hj)
theorem ZoP{l:List OptV}(h:i<l.length):Zcp (l.take (i+1))=putA l[i].nb (lkC l[i].cost) (Zcp (l.take i)):=by
 unfold Zcp
 exact vBm
theorem Zls{l:List OptV}{x c:Int}(h:getA x (Zcp l)=some c):∃o∈l,o.nb=x/\c=lkC o.cost:=by
 have key:∀(l:List OptV)(m:List (Int×Int)),getA x (l.foldl (λm o=>putA o.nb (lkC o.cost) m) m)=some c->(∃o∈l,o.nb=x/\c=lkC o.cost)∨getA x m=some c:=by
  intro l
  induction l with
  |nil=>intro m h;exact .inr h
  |cons o l ih=>
   intro m h
   rw[List.foldl_cons] at h
   rcases ih _ h with⟨o',h1,h2⟩|h1
   ·exact .inl ⟨o',List.mem_cons_of_mem _ h1,h2⟩
   ·rw[Zgx] at h1
    split at h1
    ·rename_i e
     exact .inl ⟨o,by simp,e.symm,by cases h1;rfl⟩
    ·exact .inr h1
 rcases key l [] h with h|h
 ·exact h
 ·simp[getA] at h
theorem Zny:∀{xs ys:List Int},xs.Nodup->(∀x∈xs,x∈ys)->xs.length<=ys.length
 |[],_,_,_=>by simp
 |x::xs,ys,hn,hs=>by
  have h1:=List.nodup_cons.1 hn
  have hx:=hs x Q5
  have h2:xs.length<=(ys.erase x).length:=Zny h1.2 λy hy=>(List.mem_erase_of_ne (λe=>h1.1 (by rw[<-e];exact hy))).2 (hs y (List.mem_cons_of_mem _ hy))
  rw[List.length_erase_of_mem hx] at h2
  have:0<ys.length:=List.length_pos_of_mem hx
  simp only[List.length_cons]
  omega
theorem Zo1(a b:Int):ZaA (addM a b)=true:=by
 unfold addM
 split
 ·rename_i h
  unfold ZaA at h⊢
  simp only[Bool.and_eq_true,decide_eq_true_eq] at h
  unfold inf
  simp only[Bool.and_eq_true,decide_eq_true_eq]
  omega
 ·rfl
theorem Zfg{now:Int}{s:List SrcV}{cm:List (Int×Int)}{t:DstV}{r:RouV}{o:OptV}(h:optV now s cm t r=some o):o.nb=r.nb/\∃c,getA r.nb cm=some c/\o.cost=addM r.said.met c:=by
 unfold optV at h
 cases hc:getA r.nb cm with
 |none=>rw[hc] at h;cases h
 |some c=>
  rw[hc] at h
  dsimp only at h
  split at h
  ·cases h
  ·cases h
   exact⟨rfl,c,rfl,rfl⟩
theorem ZgW{s:List SrcV}{links:List OptV}(hi:∀x∈l,IsRo x)(hl:Za7 l=true)(hk:links.length<=16):Zdj (ZcA now s (Zcp links) t l)=true:=by
 obtain⟨_,h2,h3⟩:=Zbd.1 hl
 have hasc:AscC cmpO (ZcA now s (Zcp links) t l):=by
  unfold ZcA
  refine List.Pairwise.filterMap _ ?_ ((List.Pairwise.filter (λr=>decide (r.to=t)) (List.Pairwise.imp_of_mem (S:=λa b=>a.to=t->b.to=t->a.nb<b.nb) ?_ h3)).imp_of_mem (S:=λa b=>a.nb<b.nb) ?_)
  ·intro a a' h b hb b' hb'
   have e1:=(Zfg hb).1
   have e2:=(Zfg hb').1
   unfold cmpO
   rw[Zfp,e1,e2]
   exact h
  ·intro a b ha hb h1 ea eb
   rw[Zkn (hi a ha).1 (hi b hb).1,ea,eb,Za0,orI,if_pos rfl,Zfp] at h1
   exact h1
  ·intro a b ha hb h1
   exact h1 (dqU (List.mem_filter.1 ha).2) (dqU (List.mem_filter.1 hb).2)
 refine Zca.2 ⟨?_,λo ho=>?_,hasc⟩
 ·have h4:((ZcA now s (Zcp links) t l).map (·.nb)).Nodup:=by
   rw[List.Nodup,List.pairwise_map]
   refine hasc.imp ?_
   intro a b h e
   unfold cmpO at h
   rw[Zfp] at h
   omega
  have h5:=Zny (ys:=links.map (·.nb)) h4 λx hx=>by
   obtain⟨o,ho,rfl⟩:=List.mem_map.1 hx
   obtain⟨r,_,hr⟩:=List.mem_filterMap.1 ho
   obtain⟨e1,c,hc,_⟩:=Zfg hr
   obtain⟨k,hk1,hk2,_⟩:=Zls hc
   rw[e1,<-hk2]
   exact List.mem_map_of_mem hk1
  simp only[List.length_map] at h5
  omega
 ·obtain⟨r,hr1,hr⟩:=List.mem_filterMap.1 ho
  obtain⟨e1,c,hc,e2⟩:=Zfg hr
  have h6:=h2 r (List.mem_filter.1 hr1).1
  simp only[rou1,Bool.and_eq_true] at h6
  unfold opt1
  rw[e1,e2,Zo1,h6.1.1.2]
  rfl
end
section
attribute [local irreducible] OpTo wpListIn Code.wpIn MW Cal
def ZaS(now:Int)(l:List RouV)(s:List SrcV)(links:List OptV)(old:List InsV):List InsV×Int:=
 if !Za7 l|| !ZaK s|| !Zdj links|| !ZbG old then([],1) else if !Zag now then([],2)
 else if 512<(selV now l s links old).length then([],10) else(selV now l s links old,0)
def mapI(m:List (Int×Int)):List (Int×Value):=m.map λp=>(p.1,Value.int .i64 p.2)
theorem ZuM:Zeb prog 3 (.int .i64 0):=by
 unfold Zeb
 kernel_rfl
theorem Zq6(x:Int)(m:List (Int×Int)):getA x (mapI m)=(getA x m).map (Value.int .i64):=ZhE _ x m
theorem Zib:∀{xs ys:List DstV},AscD xs->(∀x∈xs,x∈ys)->xs.length<=ys.length
 |[],_,_,_=>by simp
 |x::xs,ys,hn,hs=>by
  have h1:=List.pairwise_cons.1 hn
  have hx:=hs x Q5
  have h2:xs.length<=(ys.erase x).length:=Zib h1.2 λy hy=>(List.mem_erase_of_ne (λe=>by have:=h1.1 y hy;rw[e,Za0] at this;omega)).2 (hs y (List.mem_cons_of_mem _ hy))
  rw[List.length_erase_of_mem hx] at h2
  have:0<ys.length:=List.length_pos_of_mem hx
  simp only[List.length_cons]
  omega
theorem ZvS(hy:∀x∈old,IsIn x){o:InsV}(h:oldV old t=some o):IsIn o:=hy o (List.mem_of_find?_eq_some h)
theorem Zpw{s:List SrcV}{cm:List (Int×Int)}(ht:IsDv t)(hy:∀x∈old,IsIn x){e:InsV}(h:selE now l s cm old t=some e):IsIn e:=by
 unfold selE aftV at h
 dsimp only at h
 split at h
 ·cases h
  exact⟨ht,trivial⟩
 ·split at h
  ·cases h
  ·rename_i o ho
   split at h
   ·cases h
    exact⟨ht,trivial⟩
   ·split at h
    ·cases h
     exact ZvS hy ho
    ·cases h
theorem ZsA{s:List SrcV}{cm:List (Int×Int)}(h:l.length<=n):(ZcA now s cm t l).length<=n:=by
 unfold ZcA
 have h1:=List.length_filterMap_le (optV now s cm t) (l.filter λr=>decide (r.to=t))
 have h2:=List.length_filter_le (λr=>decide (r.to=t)) l
 omega
def PhO(o:OptV)(r:Value)(ent:EN):Prop:=∃b,r= .slice (some ⟨b,0,none⟩) 1 1/\ent=[(b,opO o)]
theorem bsO(o:OptV){a:Act}{n t:Nat}{df:List Deferred}{fr:FN}{w w1:World}{d:Option Tmp}{ty:TypeId}{pos:String}{af:Array Edge}{g:Option (Nat×Bool)}(F:Frm a n df fr)(E:Ext [] w1 w)(ht:Ev fr (.tmp t)=some (.agg (opC o).toArray)):
  OpTo prog ⟨d, .buildSlice 94 1 [(0, .tmp t)].toArray,ty,pos,af,g⟩ a.eval w λr w'=>Ext [] w w'/\NewP w1.heap.size (PhO o) r w':=by
 have hev:evP fr [(0, .tmp t)]=some [(0,opC o)]:=by simp only[evP,ht]
 refine ZaC F (Mem.start [] w) hev rfl rfl (Zh7 (o:=o) trivial) ?_
 intro b w' M
 exact Zmb E ⟨_,⟨b,rfl,rfl⟩,M⟩
theorem vAy(h:p:=by
  (refine Qx M1 ?_;clear F M M1 hok hE;intro a w F M;(try dsimp only at F))
  refine W1 6 ?_;intro a F
  exact⟨zO,entO,entS,by simpa using hOO,by simpa using hOS,F.only [16,20,21,19,69,68,67,12,15,17,0,1,2,4] rfl,M.perm Qe⟩):p:=h
theorem vBF(h:p:=by
  exact Qr F (⟨.slice none 0 0,[],rfl,OwnS.nil _ _,M⟩)):p:=h
theorem Zsa(now:Int)(l:List RouV)(hx:∀x∈l,IsRo x)(s:List SrcV)(hs':∀x∈s,IsSr x)(links:List OptV)(old:List InsV)(hy:∀x∈old,IsIn x)(vl vs vk vo:Value)(W:World)(hSl:SlAt W 39 vl l.length (rosC l))(hSs:SlAt W 38 vs s.length (srsC s))(hSk:SlAt W 2 vk links.length (opsC links))(hSo:SlAt W 40 vo old.length (insC old)):
  Cal prog 156 [.int .i64 now,vl,vs,vk,vo].toArray W λr w'=>∃u ent,r= .tuple [u, .int .i64 (ZaS now l s links old).2].toArray/\OwnS 74 40 u (ZaS now l s links old).1.length (insC (ZaS now l s links old).1) ent/\Mem [] W w' ent:=by
 have hk:∀x∈links,IsOp x:=λ_ _=>trivial
 have hSl0:=hSl
 have hSk0:=hSk
 have hSo0:=hSo
 obtain⟨q,cap,rfl,hcap,hsp,hl,hm⟩:=hSl
 obtain⟨qk,capk,rfl,hcapk,hspk,hlk,hmk⟩:=hSk
 obtain⟨qo,capo,rfl,hcapo,hspo,hlo,hmo⟩:=hSo
 refine Zar (n:=190) [] Tryz.func156 rfl rfl rfl ?_
 intro a w F M hwW
 refine W5 11 @Zdx ?_;intro a w F M
 cases c1:Za7 l
 ·have hL:ZaS now l s links old=([],1):=by unfold ZaS;rw[c1];rfl
  rw[hL]
  rw[c1] at F
  refine W1 27 ?_;intro a F
  exact vBF
 rw[c1] at F
 refine W5 4 @Zbq ?_;intro a w F M
 cases c2:ZaK s
 ·have hL:ZaS now l s links old=([],1):=by unfold ZaS;rw[c1,c2];rfl
  rw[hL]
  rw[c2] at F
  refine W1 23 ?_;intro a F
  exact vBF
 rw[c2] at F
 refine W5 5 @Zja ?_;intro a w F M
 cases c3:Zdj links
 ·have hL:ZaS now l s links old=([],1):=by unfold ZaS;rw[c1,c2,c3];rfl
  rw[hL]
  rw[c3] at F
  refine W1 18 ?_;intro a F
  exact vBF
 rw[c3] at F
 refine W5 5 @Zet ?_;intro a w F M
 cases c4:ZbG old
 ·have hL:ZaS now l s links old=([],1):=by unfold ZaS;rw[c1,c2,c3,c4];rfl
  rw[hL]
  rw[c4] at F
  refine W1 13 ?_;intro a F
  exact vBF
 rw[c4] at F
 refine W5 12 @ZeN ?_;intro a w F M
 cases c5:Zag now
 ·have hL:ZaS now l s links old=([],2):=by unfold ZaS;rw[c1,c2,c3,c4,c5];rfl
  rw[hL]
  rw[c5] at F
  refine W1 12 ?_;intro a F
  exact vBF
 rw[c5] at F
 have hL:ZaS now l s links old=if 512<(selV now l s links old).length then([],10) else(selV now l s links old,0):=by unfold ZaS;rw[c1,c2,c3,c4,c5];rfl
 obtain⟨hl512,hrou,hasc⟩:=Zbd.1 c1
 obtain⟨hk16,hopt,_⟩:=Zca.1 c3
 obtain⟨ho512,hins,hascN⟩:=Za5.1 c4
 refine W1 10 ?_;intro a F
 (refine sD F (Zk1 M (F.e rfl) ?_);clear F M;intro b12 w M a F)
 refine W1 12 ?_;intro a F
 refine ZbK (λm a w=>∃(i:Nat)(ent:EN),m=links.length-i/\i<=links.length/\OwnM (Value.int .u64) (.map (some b12)) (mapI (Zcp (links.take i))) ent/\Frm a 190 [] [(54, .int .i64 i),(53, .int .i64 links.length),(52, .slice qk links.length capk),(12, .map (some b12)),(0, .int .i64 now),(1, .slice q l.length cap),(2,vs),(4, .slice qo old.length capo)]/\Mem [] W w ent) links.length ⟨0,_,rfl,Q0,⟨b12,_,rfl,rfl,ZiL.empty _⟩,F.only [54,53,52,12,0,1,2,4] rfl,M⟩ ?_
 clear F M
 rintro m a w ⟨i,ent,hm',hi,hO,F,M⟩
 by_cases hlt:i<links.length
 ·obtain⟨b,o,cs,t,fz,rfl,hb,hs⟩:=hmk Q0
  have hxv:=hk _ (List.getElem_mem hlt)
  have f1:seg cs (o+(i:Int).toNat*2) 2=some (opC links[i]):=Zal (Zfh hk) hs hlt Q0
  have hmt:=ZoP hlt
  obtain⟨x,hx0⟩:∃x,x=links[i]:=⟨_,rfl⟩
  rw[<-hx0] at hxv f1 hmt
  have f2:(opC x).length=2:=Zfi hxv
  have f3:=ZkZ hxv
  have f4:=ZeR hxv
  refine W1 15 ?_;intro a F
  (refine sD F (Zay M ?_);clear F M;intro b14 w M a F)
  (refine ZaW rfl F (Zap M (F.e rfl) (F.e rfl) (f2) (Ze6 x)  Q1  (Zat (by rw[f2];rfl)) Q1 ?_);clear F M;intro w M a F)
  refine W1 9 ?_;intro a F
  (refine ZaW rfl F (ZeT (u:= .int .i64 (lkC x.cost)) ZhC M hO (.cons .here) (λ_ _=>trivial) (a:=x.nb) trivial (F.e rfl) (F.e rfl) (F.e rfl) ?_);clear F M;intro ent2 w hO2 M a F)
  refine W1 8 ?_;intro a F
  exact⟨_,Q0,i+1,ent2,rfl,Q0,by rw[hmt];unfold mapI;rw[<-Zhx];exact hO2,F.only [54,53,52,12,0,1,2,4] rfl,M.sub (List.sublist_cons_self _ _)⟩
 obtain rfl:i=links.length:=by omega
 rw[List.take_length] at hO
 clear hmk hspk hcapk
 refine W1 28 ?_;intro a F
 (refine sD F (Zav (F.e rfl) (F.evs rfl) (Cal.mono (ZwO l hx old hy Q0 Q0 _ _ _ (hSl0.later M.ext) (hSo0.later M.ext)) ?_));clear F;clear a;rintro _ w ⟨entD,hD,N⟩ a F;replace M:=M.joins N;clear N)
 obtain⟨qd,capd,rfl⟩:=hD.slice
 obtain⟨cm,hcm⟩:∃cm,cm=Zcp links:=⟨_,rfl⟩
 obtain⟨ds,hds⟩:∃ds,ds=Zby l old:=⟨_,rfl⟩
 have hall:∀x∈allD l old,IsDv x/\Za8 x=true:=by
  intro x h
  unfold allD at h
  rcases List.mem_append.1 h with h|h
  ·obtain⟨r,h1,rfl⟩:=List.mem_map.1 h
   have:=hrou r h1
   simp only[rou1,Bool.and_eq_true] at this
   exact⟨(hx r h1).1,this.1.1.1⟩
  ·obtain⟨r,h1,rfl⟩:=List.mem_map.1 h
   have:=hins r h1
   simp only[ins1,Bool.and_eq_true] at this
   exact⟨(hy r h1).1,this.1⟩
 obtain⟨hdA,hdm⟩:=ZeA λx h=>(hall x h).1
 have hdA':AscD ds:=by rw[hds];exact hdA
 have hdm':∀x,x∈ds↔x∈allD l old:=by rw[hds];exact hdm
 clear hdA hdm
 have hdi:∀x∈ds,IsDv x/\Za8 x=true:=λx h=>hall x ((hdm' x).1 h)
 have hszd:∀x∈ds,(dvC x).length=35:=λx h=>Zbl (hdi x h).1
 have hdl:ds.length<=1024:=by
  have h1:=Zib hdA' (λx h=>(hdm' x).1 h)
  simp only[allD,List.length_append,List.length_map] at h1
  omega
 have hsel:selV now l s links old=ds.filterMap (selE now l s cm old):=by rw[hds,hcm];rfl
 rw[<-hds] at hD F
 rw[<-hcm] at hO
 rw[hsel] at hL
 have hoE:∀(t:DstV),IsDv t->∀e,selE now l s cm old t=some e->IsIn e:=λt ht e h=>Zpw ht hy h
 have hwR:=Zpc hx hasc
 have hwN:=ZtM hascN
 have hov:∀t,Zdj (ZcA now s cm t l)=true:=λt=>by rw[hcm];exact ZgW hx c1 hk16
 refine W1 5 ?_;intro a F
 refine ZbK (λm a w=>∃(k r i:Nat)(z:Value)(entR:EN),m=ds.length-k/\k<=ds.length/\Yet RouV.to l (ds.drop k) r/\Yet InsV.to old (ds.drop k) i/\OwnS 74 40 z ((ds.take k).filterMap (selE now l s cm old)).length (insC ((ds.take k).filterMap (selE now l s cm old))) entR/\Frm a 190 [] [(69, .int .i64 k),(68, .int .i64 ds.length),(67, .slice qd ds.length capd),(12, .map (some b12)),(15,z),(16, .int .i64 r),(17, .int .i64 i),(0, .int .i64 now),(1, .slice q l.length cap),(2,vs),(4, .slice qo old.length capo)]/\Mem [] W w (entR++(entD++ent))) ds.length ⟨0,0,0, .slice none 0 0,[],rfl,Q0,⟨Q0,λj hj h=>absurd h Q0,λj hj _=>(hdm' _).2 (List.mem_append_left _ (List.mem_map_of_mem (List.getElem_mem hj)))⟩,⟨Q0,λj hj h=>absurd h Q0,λj hj _=>(hdm' _).2 (List.mem_append_right _ (List.mem_map_of_mem (List.getElem_mem hj)))⟩,OwnS.nil _ _,F.only [69,68,67,12,15,16,17,0,1,2,4] rfl,M⟩ ?_
 clear F M
 rintro m a w ⟨k,r,i,z,entR,hm',hkl,hYr,hYi,hR,F,M⟩
 by_cases hlt:k<ds.length
 ·rcases hD with⟨_,h0,_,_⟩|⟨bD,cD,junk,hvD,hentD,hxl,hjl,hnc⟩
  ·omega
  cases hvD
  subst hentD
  have f1:seg (dvsC ds++junk) (0+(k:Int).toNat*35) 35=some (dvC ds[k]):=Zeu hszd junk hlt Q0
  have hdk:ds.drop k=ds[k]::ds.drop (k+1):=List.drop_eq_getElem_cons hlt
  have htk:(ds.take (k+1)).filterMap (selE now l s cm old)=(ds.take k).filterMap (selE now l s cm old)++(selE now l s cm old ds[k]).toList:=by
   rw[List.take_add_one,List.getElem?_eq_getElem hlt,List.filterMap_append]
   cases ho:selE now l s cm old ds[k]<;>simp[List.filterMap_cons,ho]
  obtain⟨ht,hvt⟩:=hdi _ (List.getElem_mem hlt)
  obtain⟨t,ht0⟩:∃t,t=ds[k]:=⟨_,rfl⟩
  rw[<-ht0] at f1 hdk htk ht hvt
  have hdk2:AscD (t::ds.drop (k+1)):=by rw[<-hdk];exact hdA'.sublist (List.drop_sublist _ _)
  have hdk3:∀x∈t::ds.drop (k+1),IsDv x:=λx h=>(hdi x (List.mem_of_mem_drop (by rw[hdk];exact h))).1
  rw[hdk] at hYr hYi
  have t1:=Zbl ht
  have t2:=Zcx ht
  have t3:=ZaG ht
  replace M:=M.perm (l':=(bD, .cells (dvsC ds++junk).toArray 67 (0,0))::(entR++ent)) Qe
  refine W1 15 ?_;intro a F
  (refine sD F (Zay M ?_);clear F M;intro b19 w M a F)
  (refine ZaW rfl F (Zap M (F.e rfl) (F.e rfl) (t1) (Zek t)  Q1  (Zat (by rw[t1];rfl)) Q1 ?_);clear F M;intro w M a F)
  refine W1 9 ?_;intro a F
  (refine sD F (Zi3 M ?_);clear F M;intro bS w M a F)
  refine W1 3 ?_;intro a F
  repeat (refine Zea ?_)
  refine ZgG (λa w=>∃(r1:Nat)(zO:Value)(entO entS:EN),Yet RouV.to l (ds.drop (k+1)) r1/\OwnS 96 2 zO (ZcA now s cm t l).length (opsC (ZcA now s cm t l)) entO/\OwnM (Value.int .u64) (.map (some bS)) (mapQ (ZeM now s cm t l)) entS/\Frm a 190 [] [(16, .int .i64 r1),(20,zO),(21, .map (some bS)),(19, .pointer (some ⟨b19,0,none⟩)),(69, .int .i64 k),(68, .int .i64 ds.length),(67, .slice (some ⟨bD,0,none⟩) ds.length capd),(12, .map (some b12)),(15,z),(17, .int .i64 i),(0, .int .i64 now),(1, .slice q l.length cap),(2,vs),(4, .slice qo old.length capo)]/\Mem [] W w (entS++(entO++((b19, .cells (dvC t).toArray 67 (0,0))::(bD, .cells (dvsC ds++junk).toArray 67 (0,0))::(entR++ent))))) ?_ ?_
  ·refine ZmH ?_
   refine ZbK (λm a w=>∃(r':Nat)(zO:Value)(entO entS:EN),m=l.length-r'/\r<=r'/\r'<=l.length/\(∀j(hj:j<l.length),r<=j->j<r'->l[j].to=t)/\OwnS 96 2 zO (ZcA now s cm t (l.take r')).length (opsC (ZcA now s cm t (l.take r'))) entO/\OwnM (Value.int .u64) (.map (some bS)) (mapQ (ZeM now s cm t (l.take r'))) entS/\Frm a 190 [] [(16, .int .i64 r'),(20,zO),(21, .map (some bS)),(19, .pointer (some ⟨b19,0,none⟩)),(69, .int .i64 k),(68, .int .i64 ds.length),(67, .slice (some ⟨bD,0,none⟩) ds.length capd),(12, .map (some b12)),(15,z),(17, .int .i64 i),(0, .int .i64 now),(1, .slice q l.length cap),(2,vs),(4, .slice qo old.length capo)]/\Mem [] W w (entS++(entO++((b19, .cells (dvC t).toArray 67 (0,0))::(bD, .cells (dvsC ds++junk).toArray 67 (0,0))::(entR++ent))))) (l.length-r) ⟨r, .slice none 0 0,[],[(bS,_)],rfl,Q0,hYr.le,λj hj h1 h2=>absurd h2 Q0,by rw[Zp9 (hYr.before)];exact OwnS.nil _ _,by rw[ZpB (hYr.before)];exact⟨bS,_,rfl,rfl,ZiL.empty _⟩,F.only [16,20,21,19,69,68,67,12,15,17,0,1,2,4] rfl,M⟩ ?_
   clear F M
   rintro m a w ⟨r',zO,entO,entS,hm2,hr1,hr2,hre,hOO,hOS,F,M⟩
   have hend:(∀hj:r'<l.length,l[r'].to≠t)->Yet RouV.to l (ds.drop (k+1)) r'/\ZcA now s cm t l=ZcA now s cm t (l.take r')/\ZeM now s cm t l=ZeM now s cm t (l.take r'):=λh=>by
    obtain⟨h1,h2⟩:=Yet.next hwR hdk2 hdk3 hYr hr1 hr2 hre h
    exact⟨h1,Zqa h2,ZpC h2⟩
   by_cases hlt2:r'<l.length
   ·obtain⟨b,o,cs,t',fz,rfl,hb,hs⟩:=hm Q0
    have g1:seg cs (o+(r':Int).toNat*39) 39=some (roC l[r']):=Zal (Zbw hx) hs hlt2 Q0
    have hxv:=hx _ (List.getElem_mem hlt2)
    have hos:=λh=>Zoz (now:=now) (s:=s) (cm:=cm) (t:=t) hlt2 h
    have hss:=λh=>Zol (now:=now) (s:=s) (cm:=cm) (t:=t) hlt2 h
    obtain⟨x,hx0⟩:∃x,x=l[r']:=⟨_,rfl⟩
    rw[<-hx0] at g1 hxv hos hss
    have g2:seg cs (o+(r':Int).toNat*39) 35=some (dvC x.to):=Zbe g1 (ZfR hxv) Q0
    have g3:nth cs (o+(r':Int).toNat*39+35)=some (.int .u64 x.nb):=Zcr g1 (ZkK hxv) Q0
    have g4:seg cs (o+(r':Int).toNat*39+36) 2=some (diC x.said):=Zbe g1 (ro_said hxv) Q0
    have g5:nth cs (o+(r':Int).toNat*39+37)=some (.int .i64 x.said.met):=Zcr g1 (ZfS hxv) Q0
    have g6:nth cs (o+(r':Int).toNat*39+38)=some (.int .i64 x.til):=Zcr g1 (ZpT hxv) Q0
    have g7:=ZaG hxv.1
    have g8:=Zc3 hxv.1 ht
    replace M:=M.perm (l':=(b19, .cells (dvC t).toArray 67 (0,0))::(entS++(entO++((bD, .cells (dvsC ds++junk).toArray 67 (0,0))::(entR++ent))))) Qe
    with_reducible refine Zea (Zea ?_)
    by_cases he:x.to=t
    ·rw[dqT he] at g8
     refine Za4 13 F Q7 ?_
     intro w1 hE hok
     have M1:=M.later hE
     refine W2 13 hok ?_
     (refine Qx M1 ?_;clear F M M1 hok hE;intro a w F M;(try dsimp only at F))
     refine ZdS ?_
     dsimp only
     refine Zc6 ?_
     repeat (refine Zea ?_)
     refine W1 3 ?_;intro a F
     repeat (refine Zea ?_)
     replace F:=F.only [16,20,21,19,69,68,67,12,15,17,0,1,2,4] rfl
     refine ZgG (λa w=>∃(zO2:Value)(entO2 entS2:EN),OwnS 96 2 zO2 (ZcA now s cm t (l.take (r'+1))).length (opsC (ZcA now s cm t (l.take (r'+1)))) entO2/\OwnM (Value.int .u64) (.map (some bS)) (mapQ (ZeM now s cm t (l.take (r'+1)))) entS2/\Frm a 190 [] [(16, .int .i64 r'),(20,zO2),(21, .map (some bS)),(19, .pointer (some ⟨b19,0,none⟩)),(69, .int .i64 k),(68, .int .i64 ds.length),(67, .slice (some ⟨bD,0,none⟩) ds.length capd),(12, .map (some b12)),(15,z),(17, .int .i64 i),(0, .int .i64 now),(1, .slice (some ⟨b,o,none⟩) l.length cap),(2,vs),(4, .slice qo old.length capo)]/\Mem [] W w (entS2++(entO2++((b19, .cells (dvC t).toArray 67 (0,0))::(bD, .cells (dvsC ds++junk).toArray 67 (0,0))::(entR++ent))))) ?_ ?_
     ·rw[hos he,hss he]
      clear hos hss hend hL
      refine W1 9 ?_;intro a F
      (refine sD F (Zh8 ZhC ZuM (hO.at_ (λp hp=>M.at_ p (by simp[hp]))) (λ_ _=>trivial) (a:=x.nb) trivial (F.e rfl) (F.e rfl) ?_);clear F a;intro a F)
      rw[Zq6] at F
      cases hc:getA x.nb cm with
      |none=>
       rw[hc] at F
       have hv0:optV now s cm t x=none:=by unfold optV;rw[hc]
       rw[hv0]
       refine W1 9 ?_;intro a F
       replace F:=F.only [16,20,21,19,69,68,67,12,15,17,0,1,2,4,22,23] rfl
       refine Za4 23 F Q7 ?_
       intro w1 hE hok
       have M1:=M.later hE
       refine W2 23 hok ?_
       exact vAy
      |some c=>
       rw[hc] at F
       refine W1 9 ?_;intro a F
       replace F:=F.only [16,20,21,19,69,68,67,12,15,17,0,1,2,4,22,23] rfl
       by_cases c6:x.til<=now
       ·have hv0:optV now s cm t x=none:=by unfold optV;rw[hc];dsimp only;rw[dqT c6];rfl
        rw[hv0]
        refine Za4 23 F Q7 ?_
        intro w1 hE hok
        have M1:=M.later hE
        refine W2 23 hok ?_
        exact vAy
       have hfe:=Zsc s hs' c2 vs now c5 t ht hvt x.said
       cases c7:Zg4 s now t x.said
       ·have hv0:optV now s cm t x=none:=by unfold optV;rw[hc];dsimp only;rw[dqF c6,c7];rfl
        rw[hv0]
        rw[c7] at hfe
        refine Za4 23 F Q7 ?_
        intro w1 hE hok
        have M1:=M.later hE
        refine W2 20 hok ?_
        (refine mKG hok rfl rfl rfl rfl (λa' w' F' E'=>Zav (F'.e rfl) (F'.evs rfl) (Cal.mono (hfe _ (hSs.later (M1.later E').ext)) λ_ _ hh=>⟨hh.2,hh.1⟩)) ?_)
        refine W2 2 hok ?_
        exact vAy
       have hv0:optV now s cm t x=some ⟨x.nb,addM x.said.met c⟩:=by unfold optV;rw[hc];dsimp only;rw[dqF c6,c7];rfl
       rw[hv0]
       rw[c7] at hfe
       refine Za4 23 F Q7 ?_
       intro w1 hE hok
       have M1:=M.later hE
       refine W2 20 hok ?_
       (refine mKG hok rfl rfl rfl rfl (λa' w' F' E'=>Zav (F'.e rfl) (F'.evs rfl) (Cal.mono (hfe _ (hSs.later (M1.later E').ext)) λ_ _ hh=>⟨hh.2,hh.1⟩)) ?_)
       refine W2 2 hok ?_
       (refine Qx M1 ?_;clear F M M1 hok hE;intro a w F M;(try dsimp only at F))
       refine W1 6 ?_;intro a F
       clear hov hoE hYi hdk2 hdk3 htk hfe hre
       have hol:(ZcA now s cm t (l.take r')).length<=512:=ZsA (by rw[List.length_take];omega)
       replace F:=F.only [16,20,21,19,69,68,67,12,15,17,0,1,2,4,22] rfl
       replace M:=M.perm (l':=(b19, .cells (dvC t).toArray 67 (0,0))::(bD, .cells (dvsC ds++junk).toArray 67 (0,0))::(entO++(entR++(ent++entS)))) Qe
       refine Za4 11 F Q7 ?_
       intro w1 hE hok
       have M1:=M.later hE
       refine W2 11 hok ?_
       (refine Qx M1 ?_;clear F M M1 hok hE;intro a w F M;(try dsimp only at F))
       (refine ZaW rfl F (ZeT (u:=diV x.said) ZhC M hOS (.cons (.cons (.app (.app (.app .here))))) (λ_ _=>trivial) (a:=x.nb) trivial (F.e rfl) (F.e rfl) (F.e rfl) ?_);clear F M;intro entS2 w hOS2 M a F)
       replace M:=M.perm (l':=(b19, .cells (dvC t).toArray 67 (0,0))::(bD, .cells (dvsC ds++junk).toArray 67 (0,0))::(entS2++(entR++(ent++entO)))) Qe
       with_reducible refine ZdS (Zc6 ?_)
       replace F:=F.only [16,20,21,19,69,68,67,12,15,17,0,1,2,4,22] rfl
       refine Za4 16 F Q7 ?_
       intro w1 hE hok
       have M1:=M.later hE
       refine W2 13 hok ?_
       (refine mK hok rfl rfl (λa' w' F' E'=>Zav (F'.e rfl) (F'.evs rfl) (Cal.mono (ZzM x.said.met c _) λ_ _ hh=>⟨hh.2,hh.1⟩)) ?_)
       refine W2 1 hok ?_
       refine mX (V:=NewP w1.heap.size (PhO ⟨x.nb,addM x.said.met c⟩)) hok rfl rfl (NewP.stays _ _) (λa' w' F' E' D'=>bsO ⟨x.nb,addM x.said.met c⟩ F' E' rfl) ?_
       (refine ZiG rfl rfl ?_;clear F M;intro a w F hE2 hX hTT hDD hPP;have M:=M1.later hE2;(try dsimp only at F);obtain⟨new,hΦ,hN⟩:=hX 15 _ rfl;replace M:=M.joinNew M1 hN;obtain⟨b148,hr,rfl⟩:=hΦ;replace F:=F.know (d:=148) hr;clear hr;clear hN;clear M1;clear hX;clear hE2;clear hok;clear hE;clear hTT;clear hDD;clear hPP)
       replace M:=M.perm (l':=(b148,opO ⟨x.nb,addM x.said.met c⟩)::(b19, .cells (dvC t).toArray 67 (0,0))::(bD, .cells (dvsC ds++junk).toArray 67 (0,0))::(entS2++(entR++(ent++entO)))) Qe
       (refine sD F (Zck hOO M (.cons (.cons (.cons (.app (.app (.app .here)))))) (F.e rfl) (F.e rfl) (Zcc.cells' (M.heap .here) (ZbH (Zfi (o:=⟨x.nb,addM x.said.met c⟩) trivial)) (Ze6 _)) Q0 Q0 ?_);clear F M;intro zO2 entO2 w hOO2 M a F)
       refine W1 3 ?_;intro a F
       refine⟨zO2,entO2,entS2,?_,?_,F.only [16,20,21,19,69,68,67,12,15,17,0,1,2,4] rfl,(M.perm (l':=(entS2++(entO2++((b19, .cells (dvC t).toArray 67 (0,0))::(bD, .cells (dvsC ds++junk).toArray 67 (0,0))::(entR++ent))))++[(b148,opO ⟨x.nb,addM x.said.met c⟩)]) Qe).sub (List.sublist_append_left _ _)⟩
       ·rw[show(some (⟨x.nb,addM x.said.met c⟩:OptV)).toList=[⟨x.nb,addM x.said.met c⟩] from rfl,List.length_append]
        show OwnS _ 2 _ _ (encL opC _) _
        rw[ZbC,Zdd]
        exact hOO2
       ·rw[if_pos (show(some (⟨x.nb,addM x.said.met c⟩:OptV)).isSome=true from rfl)]
        unfold mapQ
        rw[<-Zhx]
        exact hOS2
     ·clear F M
      rintro a w ⟨zO2,entO2,entS2,hOO2,hOS2,F,M⟩
      refine W1 7 ?_;intro a F
      exact⟨_,Q0,r'+1,zO2,entO2,entS2,rfl,Q0,Q0,λj hj h1 h2=>by
       rcases Nat.lt_or_ge j r' with h3|h3
       ·exact hre j hj h1 h3
       ·obtain rfl:j=r':=by omega
        rw[<-hx0];exact he,hOO2,hOS2,F.only [16,20,21,19,69,68,67,12,15,17,0,1,2,4] rfl,M⟩
    ·rw[dqF he] at g8
     refine Za4 13 F Q7 ?_
     intro w1 hE hok
     have M1:=M.later hE
     refine W2 13 hok ?_
     (refine Qx M1 ?_;clear F M M1 hok hE;intro a w F M;(try dsimp only at F))
     refine W1 7 ?_;intro a F
     obtain⟨h1,h2,h3⟩:=hend (λhj=>by rw[<-hx0];exact he)
     exact⟨r',zO,entO,entS,h1,by rw[h2];exact hOO,by rw[h3];exact hOS,F.only [16,20,21,19,69,68,67,12,15,17,0,1,2,4] rfl,M.perm Qe⟩
   ·refine W1 2 ?_;intro a F
    refine Za4 13 F Q7 ?_
    intro w1 hE hok
    have M1:=M.later hE
    refine W2 13 hok ?_
    (refine Qx M1 ?_;clear F M M1 hok hE;intro a w F M;(try dsimp only at F))
    refine W1 7 ?_;intro a F
    obtain⟨h1,h2,h3⟩:=hend (λhj=>absurd hj hlt2)
    exact⟨r',zO,entO,entS,h1,by rw[h2];exact hOO,by rw[h3];exact hOS,F.only [16,20,21,19,69,68,67,12,15,17,0,1,2,4] rfl,M⟩
  ·clear F M
   rintro a w ⟨r1,zO,entO,entS,hYr1,hOO,hOS,F,M⟩
   clear hYr
   have hvO:=hov t
   have hlO:(ds.take k).length=k:=by rw[List.length_take];omega
   have hlR:((ds.take k).filterMap (selE now l s cm old)).length<=1024:=by
    have:=List.length_filterMap_le (selE now l s cm old) (ds.take k)
    omega
   refine Zc6 ?_
   repeat (refine Zea ?_)
   replace M:=M.perm (l':=((b19, .cells (dvC t).toArray 67 (0,0))::(bD, .cells (dvsC ds++junk).toArray 67 (0,0))::(entS++(entO++(entR++ent))))) Qe
   refine ZgG (λa w=>∃had:Bool,(had=true->∃hil:i<old.length,old[i].to=t)/\(had=false->∀hil:i<old.length,old[i].to≠t)/\Frm a 190 [] [(24, .bool had),(17, .int .i64 i),(16, .int .i64 r1),(20,zO),(21, .map (some bS)),(19, .pointer (some ⟨b19,0,none⟩)),(69, .int .i64 k),(68, .int .i64 ds.length),(67, .slice (some ⟨bD,0,none⟩) ds.length capd),(12, .map (some b12)),(15,z),(0, .int .i64 now),(1, .slice q l.length cap),(2,vs),(4, .slice qo old.length capo)]/\Mem [] W w ((b19, .cells (dvC t).toArray 67 (0,0))::(bD, .cells (dvsC ds++junk).toArray 67 (0,0))::(entS++(entO++(entR++ent))))) ?_ ?_
   ·clear hov hoE hYi hdk2 hdk3 htk
    by_cases hil:i<old.length
    ·obtain⟨b,o,cs,t',fz,rfl,hb,hs⟩:=hmo Q0
     have g1:seg cs (o+(i:Int).toNat*40) 40=some (inC old[i]):=Zal (ZbU hy) hs hil Q0
     have hxv:=hy _ (List.getElem_mem hil)
     obtain⟨y,hy0⟩:∃y,y=old[i]:=⟨_,rfl⟩
     rw[<-hy0] at g1 hxv
     have g2:seg cs (o+(i:Int).toNat*40) 35=some (dvC y.to):=Zbe g1 (Zgu hxv) Q0
     have g7:=ZaG hxv.1
     have g8:=Zc3 hxv.1 ht
     by_cases he:y.to=t
     ·rw[dqT he] at g8
      refine Za4 13 F Q7 ?_
      intro w1 hE hok
      have M1:=M.later hE
      refine W2 13 hok ?_
      (refine Qx M1 ?_;clear F M M1 hok hE;intro a w F M;(try dsimp only at F))
      refine W1 2 ?_;intro a F
      exact⟨true,λ_=>⟨hil,by rw[<-hy0];exact he⟩,λh=>(by cases h),F.only [24,17,16,20,21,19,69,68,67,12,15,0,1,2,4] rfl,M⟩
     ·rw[dqF he] at g8
      refine Za4 13 F Q7 ?_
      intro w1 hE hok
      have M1:=M.later hE
      refine W2 13 hok ?_
      (refine Qx M1 ?_;clear F M M1 hok hE;intro a w F M;(try dsimp only at F))
      refine W1 2 ?_;intro a F
      exact⟨false,λh=>(by cases h),λ_ _=>by rw[<-hy0];exact he,F.only [24,17,16,20,21,19,69,68,67,12,15,0,1,2,4] rfl,M⟩
    ·refine Za4 13 F Q7 ?_
     intro w1 hE hok
     have M1:=M.later hE
     refine W2 13 hok ?_
     (refine Qx M1 ?_;clear F M M1 hok hE;intro a w F M;(try dsimp only at F))
     refine W1 2 ?_;intro a F
     exact⟨false,λh=>(by cases h),λ_ h=>absurd h hil,F.only [24,17,16,20,21,19,69,68,67,12,15,0,1,2,4] rfl,M⟩
   clear F M
   rintro a w ⟨had,hh1,hh2,F,M⟩
   refine W1 3 ?_;intro a F
   (refine sD F (Zay M ?_);clear F M;intro b25 w M a F)
   refine W1 8 ?_;intro a F
   refine ZgG (λa w=>∃(y:InsV)(i':Nat),IsIn y/\(had=true->ins1 y=true)/\oldV old t=oldB y had/\Yet InsV.to old (ds.drop (k+1)) i'/\Frm a 190 [] [(24, .bool had),(25, .pointer (some ⟨b25,0,none⟩)),(17, .int .i64 i'),(16, .int .i64 r1),(20,zO),(21, .map (some bS)),(19, .pointer (some ⟨b19,0,none⟩)),(69, .int .i64 k),(68, .int .i64 ds.length),(67, .slice (some ⟨bD,0,none⟩) ds.length capd),(12, .map (some b12)),(15,z),(0, .int .i64 now),(1, .slice q l.length cap),(2,vs),(4, .slice qo old.length capo)]/\Mem [] W w ((b25, .cells (inC y).toArray 74 (0,0))::((b19, .cells (dvC t).toArray 67 (0,0))::(bD, .cells (dvsC ds++junk).toArray 67 (0,0))::(entS++(entO++(entR++ent)))))) ?_ ?_
   ·cases had with
    |false=>
     have hn:=hh2 rfl
     obtain⟨h1,h2⟩:=Yet.next hwN hdk2 hdk3 hYi (Nat.le_refl _) hYi.le (λj hj h1 h2=>absurd h2 Q0) hn
     have hov2:oldV old t=none:=ZvR λj hj=>by
      rcases Nat.lt_or_ge j i with h3|h3
      ·exact hYi.before j hj h3
      ·exact h2 j hj h3
     refine W1 2 ?_;intro a F
     exact⟨in0,i,ZnH,λh=>(by cases h),hov2,h1,F.only [24,25,17,16,20,21,19,69,68,67,12,15,0,1,2,4] rfl,M⟩
    |true=>
     obtain⟨hil,he⟩:=hh1 rfl
     obtain⟨b,o,cs,t',fz,rfl,hb,hs⟩:=hmo Q0
     have g1:seg cs (o+(i:Int).toNat*40) 40=some (inC old[i]):=Zal (ZbU hy) hs hil Q0
     have hxv:=hy _ (List.getElem_mem hil)
     have hnx:=Yet.next (r1:=i+1) hwN hdk2 hdk3 hYi Q0 Q0 (λj hj h1 h2=>by
      obtain rfl:j=i:=by omega
      exact he) (λhj e=>by
      have h3:=(List.pairwise_iff_getElem.1 hascN) i (i+1) hil hj Q0
      unfold cmpN at h3
      rw[e,he,Za0] at h3
      omega)
     have hov2:oldV old t=some old[i]:=ZvT hil he hYi.before
     have hin:=hins _ (List.getElem_mem hil)
     obtain⟨y,hy0⟩:∃y,y=old[i]:=⟨_,rfl⟩
     rw[<-hy0] at g1 hxv hov2 hin
     clear he
     refine W1 7 ?_;intro a F
     (refine ZaW rfl F (Zap M (F.e rfl) (F.e rfl) (Zbu hxv) (ZcE y)  Q1  (Zat (by rw[Zbu hxv];rfl)) Q1 ?_);clear F M;intro w M a F)
     refine W1 7 ?_;intro a F
     exact⟨y,i+1,hxv,λ_=>hin,hov2,hnx.1,F.only [24,25,17,16,20,21,19,69,68,67,12,15,0,1,2,4] rfl,M⟩
   clear F M
   rintro a w ⟨y,i',hyI,hy1,hov2,hYi2,F,M⟩
   have hEq:selE now l s cm old t=aftV now t (oldB y had) (ZcA now s cm t l) (ZeM now s cm t l):=by
    unfold selE
    rw[hov2]
   rw[hEq] at htk
   have hEI:∀e,aftV now t (oldB y had) (ZcA now s cm t l) (ZeM now s cm t l)=some e->IsIn e:=λe h=>hoE t ht e (by rw[hEq];exact h)
   have haf:=Zxc now c5 t ht y hyI had hy1 (ZcA now s cm t l) hvO zO (ZeM now s cm t l) (.map (some bS))
   obtain⟨E,hE⟩:∃E,E=aftV now t (oldB y had) (ZcA now s cm t l) (ZeM now s cm t l):=⟨_,rfl⟩
   rw[<-hE] at htk hEI haf
   have hgI:IsIn (E.getD in0):=by
    cases E with
    |none=>exact ZnH
    |some e=>exact hEI e rfl
   have y1:=Zfl hyI
   have e1:=Zfl hgI
   have e2:=Zbu hgI
   refine W1 9 ?_;intro a F
   (refine Qy F M rfl rfl (haf _ (hOO.slAt M (λp hp=>by simp[hp])) (hOS.at_ (λp hp=>M.at_ p (by simp[hp])))) ?_;clear F M a;intro w a M F)
   refine sD F (Zgm (F.e rfl) λa F=>sD F (Zey (F.e rfl) rfl λa F=>sD F (Zey (F.e rfl) rfl ?_)));iterate 3 clear F a
   intro a F
   (refine sD F (Zay M ?_);clear F M;intro b26 w M a F)
   (refine ZaW rfl F (Zap M (F.e rfl) (F.e rfl) (e2) (ZcE _)  Q1  (Zat (by rw[e2];rfl)) Q1 ?_);clear F M;intro w M a F)
   cases E with
   |none=>
    have htk2:(ds.take (k+1)).filterMap (selE now l s cm old)=(ds.take k).filterMap (selE now l s cm old):=by rw[htk];simp
    refine W1 17 ?_;intro a F
    exact⟨_,Q0,k+1,r1,i',z,entR,rfl,Q0,hYr1,hYi2,by rw[htk2];exact hR,F.only [69,68,67,12,15,16,17,0,1,2,4] rfl,(M.perm (l':=(entR++([(bD, .cells (dvsC ds++junk).toArray 67 (0,0))]++ent))++((b26, .cells (inC ((none:Option InsV).getD in0)).toArray 74 (0,0))::(b25, .cells (inC y).toArray 74 (0,0))::(b19, .cells (dvC t).toArray 67 (0,0))::(entS++entO))) Qe).sub (List.sublist_append_left _ _)⟩
   |some e=>
    have htk2:(ds.take (k+1)).filterMap (selE now l s cm old)=(ds.take k).filterMap (selE now l s cm old)++[e]:=by rw[htk];rfl
    have heI:=hEI e rfl
    have e3:seg (inC e) 0 40=some (inC e):=Zfl heI
    replace M:=M.perm (l':=(b26, .cells (inC e).toArray 74 (0,0))::(b25, .cells (inC y).toArray 74 (0,0))::(b19, .cells (dvC t).toArray 67 (0,0))::(bD, .cells (dvsC ds++junk).toArray 67 (0,0))::(entS++(entO++(ent++entR)))) Qe
    refine W1 12 ?_;intro a F
    (refine sD F (ZaC F M rfl rfl rfl (Zcw heI) ?_);clear F M;intro b183 w M a F)
    (refine sD F (Zck hR M (.cons (.cons (.cons (.cons (.cons (.app (.app (.app .here)))))))) (F.e rfl) (F.e rfl) (Zcc.cells' (M.heap .here) (ZbH (Zbu heI)) (ZcE _)) Q0 Q0 ?_);clear F M;intro z2 entR2 w hR2 M a F)
    refine W1 9 ?_;intro a F
    refine⟨_,Q0,k+1,r1,i',z2,entR2,rfl,Q0,hYr1,hYi2,?_,F.only [69,68,67,12,15,16,17,0,1,2,4] rfl,(M.perm (l':=(entR2++([(bD, .cells (dvsC ds++junk).toArray 67 (0,0))]++ent))++((b183, .cells (inC e).toArray 74 (0,0))::(b26, .cells (inC e).toArray 74 (0,0))::(b25, .cells (inC y).toArray 74 (0,0))::(b19, .cells (dvC t).toArray 67 (0,0))::(entS++entO))) Qe).sub (List.sublist_append_left _ _)⟩
    rw[htk2,List.length_append]
    show OwnS _ 40 _ _ (encL inC _) _
    rw[ZbC,Zdd]
    exact hR2
 ·obtain rfl:k=ds.length:=by omega
  rw[List.take_length] at hR
  obtain⟨pz,cz,rfl⟩:=hR.slice
  clear hD hov hoE
  by_cases c9:512<(ds.filterMap (selE now l s cm old)).length
  ·rw[if_pos c9] at hL
   rw[hL]
   refine W1 29 ?_;intro a F
   exact Qr F (⟨.slice none 0 0,[],rfl,OwnS.nil _ _,M.sub (List.nil_sublist _)⟩)
  ·rw[if_neg c9] at hL
   rw[hL]
   refine W1 31 ?_;intro a F
   exact Qr F (⟨_,entR,rfl,hR,M.sub (List.sublist_append_left _ _)⟩)
end
section
theorem Zn4:∀(l:List OptV)(b:OptV),((l.foldl (λb o=>if o.cost<b.cost then o else b) b=b∨(l.foldl (λb o=>if o.cost<b.cost then o else b) b∈l/\(l.foldl (λb o=>if o.cost<b.cost then o else b) b).cost<b.cost))/\(l.foldl (λb o=>if o.cost<b.cost then o else b) b).cost<=b.cost/\∀o∈l,(l.foldl (λb o=>if o.cost<b.cost then o else b) b).cost<=o.cost)
 |[],b=>by simp
 |a::l,b=>by
  rw[List.foldl_cons]
  obtain⟨h1,h2,h3⟩:=Zn4 l (if a.cost<b.cost then a else b)
  generalize l.foldl (λb o=>if o.cost<b.cost then o else b) (if a.cost<b.cost then a else b)=r at*
  by_cases h:a.cost<b.cost
  ·rw[if_pos h] at h1 h2
   refine⟨.inr ⟨?_,Q0⟩,Q0,λo ho=>?_⟩
   ·rcases h1 with rfl|h1
    ·simp
    ·exact List.mem_cons_of_mem _ h1.1
   ·rcases List.mem_cons.1 ho with rfl|ho
    ·exact h2
    ·exact h3 o ho
  ·rw[if_neg h] at h1 h2
   refine⟨?_,h2,λo ho=>?_⟩
   ·rcases h1 with rfl|h1
    ·exact .inl rfl
    ·exact .inr ⟨List.mem_cons_of_mem _ h1.1,h1.2⟩
   ·rcases List.mem_cons.1 ho with rfl|ho
    ·omega
    ·exact h3 o ho
theorem Zzw(l:List OptV):bstO l=Zdb∨(bstO l∈l/\(bstO l).cost<inf):=(Zn4 l Zdb).1
theorem Znl(nb:Int):∀(l:List OptV)(b:OptV),l.foldl (λc o=>if o.cost<inf/\o.nb=nb then o else c) b=b∨(l.foldl (λc o=>if o.cost<inf/\o.nb=nb then o else c) b∈l/\(l.foldl (λc o=>if o.cost<inf/\o.nb=nb then o else c) b).cost<inf/\(l.foldl (λc o=>if o.cost<inf/\o.nb=nb then o else c) b).nb=nb)
 |[],b=>by simp
 |a::l,b=>by
  rw[List.foldl_cons]
  have h1:=Znl nb l (if a.cost<inf/\a.nb=nb then a else b)
  generalize l.foldl (λc o=>if o.cost<inf/\o.nb=nb then o else c) (if a.cost<inf/\a.nb=nb then a else b)=r at*
  by_cases h:a.cost<inf/\a.nb=nb
  ·rw[if_pos h] at h1
   rcases h1 with rfl|h1
   ·exact .inr ⟨by simp,h⟩
   ·exact .inr ⟨List.mem_cons_of_mem _ h1.1,h1.2⟩
  ·rw[if_neg h] at h1
   rcases h1 with rfl|h1
   ·exact .inl rfl
   ·exact .inr ⟨List.mem_cons_of_mem _ h1.1,h1.2⟩
theorem Zt5(nb:Int)(l:List OptV):prvO nb l=Zdb∨(prvO nb l∈l/\(prvO nb l).cost<inf/\(prvO nb l).nb=nb):=Znl nb l Zdb
theorem ZwW(now:Int)(old:ChoV)(b c:OptV):∃q,(q=b∨q=c)/\(choB now old b c).nb=q.nb/\(choB now old b c).cost=q.cost:=by
 unfold choB
 repeat' split
 all_goals first|exact⟨b, .inl rfl,rfl,rfl⟩|exact⟨c, .inr rfl,rfl,rfl⟩
theorem Zlv{old:ChoV}{l:List OptV}(h:(Zbk now old l).nb≠0):∃q∈l,q.cost<inf/\(Zbk now old l).nb=q.nb/\(Zbk now old l).cost=q.cost:=by
 obtain⟨q,h1,h2,h3⟩:=ZwW now old (bstO l) (prvO old.nb l)
 have h4:(Zbk now old l).nb=q.nb:=h2
 have hq:q≠Zdb:=λe=>h (by rw[h4,e];rfl)
 rcases h1 with rfl|rfl
 ·have:=(Zzw l).resolve_left hq
  exact⟨_,this.1,this.2,h2,h3⟩
 ·have:=(Zt5 old.nb l).resolve_left hq
  exact⟨_,this.1,this.2.1,h2,h3⟩
theorem Zvi{now:Int}{s:List SrcV}{cm:List (Int×Int)}{t:DstV}{l:List RouV}{old:List InsV}{x:InsV}(h:selE now l s cm old t=some x):x.to=t:=by
 unfold selE aftV at h
 dsimp only at h
 split at h
 ·cases h;rfl
 ·cases ho:oldV old t with
  |none=>rw[ho] at h;cases h
  |some o=>
   have h2:o.to=t:=dqU (by simpa using List.find?_some ho)
   rw[ho] at h
   dsimp only at h
   split at h
   ·cases h;rfl
   ·split at h
    ·cases h;exact h2
    ·cases h
theorem Zif(hi:∀x∈l,IsRo x)(ho:∀x∈old,IsIn x):t∈Zby l old↔(∃r∈l,r.to=t)∨∃x∈old,x.to=t:=by
 unfold Zby
 rw[(ZeA (l:=allD l old) (λx hx=>by
  unfold allD at hx
  rcases List.mem_append.1 hx with h|h
  ·obtain⟨r,hr,rfl⟩:=List.mem_map.1 h
   exact(hi r hr).1
  ·obtain⟨r,hr,rfl⟩:=List.mem_map.1 h
   exact(ho r hr).1)).2]
 unfold allD
 simp only[List.mem_append,List.mem_map]
end
section
attribute [local irreducible] OpTo wpListIn Code.wpIn MW Cal
theorem ZiX(x y:RouV)(ha:IsRo x)(hb:IsRo y)(W:World):Cal prog 199 [.agg (roC x).toArray, .agg (roC y).toArray].toArray W λv w'=>v= .int .i64 (cmpR x y)/\Ext [] W w':=by
 have a1:=ZfR ha
 have a2:=ZkK ha
 have c1:=ZfR hb
 have c2:=ZkK hb
 rw[Zkn ha.1 hb.1]
 unfold orI cmpI
 refine yS (n:=24) Tryz.func199 rfl rfl ?_
 by_cases k:cmpD x.to y.to=0
 ·rw[if_pos k]
  by_cases k2:x.nb<y.nb
  ·rw[if_pos k2]
   refine gQ 2 rfl (Zai rfl rfl λb2=>Zai rfl rfl λb3=>?_)
   refine W4 [7,0,1,0,0,9,0,6,0,1,0,3,0,7] @ZaR ?_
   exact vA5
  ·rw[if_neg k2]
   by_cases k3:y.nb<x.nb
   ·rw[if_pos k3]
    refine gQ 2 rfl (Zai rfl rfl λb2=>Zai rfl rfl λb3=>?_)
    refine W4 [7,0,1,0,0,9,0,6,0,1,0,3,0,6,0,1,0,3,0,7] @ZaR ?_
    exact vA5
   ·rw[if_neg k3]
    refine gQ 2 rfl (Zai rfl rfl λb2=>Zai rfl rfl λb3=>?_)
    refine W4 [7,0,1,0,0,9,0,6,0,1,0,3,0,6,0,1,0,3,0,8] @ZaR ?_
    exact vA5
 ·rw[if_neg k]
  refine gQ 2 rfl (Zai rfl rfl λb2=>Zai rfl rfl λb3=>?_)
  refine W4 [7,0,1,0,0,9,0,8] @ZaR ?_
  exact vA5
theorem ZaN(l:List RouV)(hx:∀x∈l,IsRo x)(v:Value)(W:World)(hS:SlAt W 39 v l.length (rosC l)):
  Cal prog 114 [v].toArray W λr w'=>r= .bool (Za7 l)/\Ext [] W w':=by
 obtain⟨q,cap,rfl,_⟩:=id hS
 have hm:=hS.memB [] Q5
 unfold Za7
 generalize hV:vldL 512 rou1 cmpR l=b0
 refine yS (n:=70) Tryz.func114 rfl rfl ?_
 by_cases c0:512<l.length
 ·exact vAn
 refine W3 [13,0,11] ?_
 refine Zau (ι:=Nat) ⟨λ(i:Nat)=>l.length-i,λ(i:Nat)=>i<=l.length/\(∀j,j<i->vld1 rou1 cmpR l j=true),λ(i:Nat)=>[(9, .int .i64 i),(8, .int .i64 l.length),(7, .slice q l.length cap),(0, .slice q l.length cap)],λ(i:Nat)=>[]⟩ 0 ⟨Q0,Q0⟩ (λa F=>F.only [9,8,7,0] rfl) Qa ?_
 rintro i ⟨hi_i,hv⟩
 by_cases hlt_i:i<l.length
 ·obtain⟨b,o,cs,t',fz,rfl,hb,hs⟩:=hm Q0
  obtain⟨x,hx0⟩:∃x,x=l[i]:=⟨_,rfl⟩
  have hxm:x∈l:=by rw[hx0];exact List.getElem_mem hlt_i
  have hxi:IsRo x:=hx _ hxm
  have f1:seg cs (o+(i:Int).toNat*39) 39=some (roC x):=by rw[hx0];exact Zal (Zbw hx) hs hlt_i Q0
  replace hx0:=hx0.symm
  have xd:IsDv x.to:=hxi.1
  refine W3 [6,0,15,0,1] ?_
  refine ZiJ rfl Qd (Zbe Qd (ZfR Qd) Q0) ?_
  refine W4 [0,2] @ZaM ?_
  refine Zah 19 rfl (λh1=>?_) (λh1=>?_)
  ·replace h1:=Zaa h1
   refine W3 [46,0,2] ?_
   exact vAB
  replace h1:=Zab h1
  refine W3 [2,0,1] ?_
  refine ZgA rfl Qd (Zcr Qd (ZkK Qd) Q0) ?_
  refine gQ 3 rfl (Zah 27 rfl (λh2=>?_) (λh2=>?_))
  ·replace h2:=dqU h2
   refine W3 [38,0,2] ?_
   exact vAB
  replace h2:=dqV h2
  refine W3 [2,0,1] ?_
  refine ZiJ rfl Qd (Zbe Qd (ro_said Qd) Q0) ?_
  refine W4 [0,3] @ZbI ?_
  refine Zah 36 rfl (λh3=>?_) (λh3=>?_)
  ·replace h3:=Zaa h3
   refine W3 [29,0,2] ?_
   exact vAB
  replace h3:=Zab h3
  refine W3 [2,0,2] ?_
  refine ZgA rfl Qd (Zcr Qd (ZfS Qd) Q0) ?_
  refine gQ 3 rfl (Zah 45 rfl (λh4=>?_) (λh4=>?_))
  ·replace h4:=dqU h4
   refine W3 [20,0,2] ?_
   exact vAB
  replace h4:=dqV h4
  refine W3 [2,0,1] ?_
  refine ZgA rfl Qd (Zcr Qd (ZpT Qd) Q0) ?_
  refine W4 [0,4] @Zas ?_
  refine g_if rfl (λh5=>?_) (λh5=>?_)
  ·replace h5:=Zaa h5
   refine W3 [9,0,2] ?_
   exact vAB
  replace h5:=Zab h5
  refine gQ 2 rfl ?_
  by_cases hi0:0<i
  ·obtain⟨y,hy0⟩:∃y,y=l[i-1]'Q0:=⟨_,rfl⟩
   have yI:IsRo y:=by rw[hy0];exact hx _ (List.getElem_mem _)
   have f2:seg cs (o+((i:Int)-1).toNat*39) 39=some (roC y):=by rw[hy0];exact Zal (Zbw hx) hs (show i-1<l.length by omega) Q0
   replace hy0:=hy0.symm
   have yd:IsDv y.to:=yI.1
   refine W4 [1,1015,3,0,2,0,0,0,2,0,0,0,2,0,2] @ZiX ?_
   exact vB1
  ·refine W3 [1,1015,3,0,12,0,7,0,2] ?_
   exact yN (i+1) ⟨Q0,vl_N hlt_i hx0.symm hv Qj λh=>absurd h hi0⟩
 ·exact vA6
theorem ZaO(l:List SrcV)(hx:∀x∈l,IsSr x)(v:Value)(W:World)(hS:SlAt W 38 v l.length (srsC l)):
  Cal prog 72 [v].toArray W λr w'=>r= .bool (ZaK l)/\Ext [] W w':=by
 obtain⟨q,cap,rfl,_⟩:=id hS
 have hm:=hS.memB [] Q5
 unfold ZaK
 generalize hV:vldL 256 src1 cmpS l=b0
 refine yS (n:=64) Tryz.func72 rfl rfl ?_
 by_cases c0:256<l.length
 ·exact vAn
 refine W3 [13,0,11] ?_
 refine Zau (ι:=Nat) ⟨λ(i:Nat)=>l.length-i,λ(i:Nat)=>i<=l.length/\(∀j,j<i->vld1 src1 cmpS l j=true),λ(i:Nat)=>[(9, .int .i64 i),(8, .int .i64 l.length),(7, .slice q l.length cap),(0, .slice q l.length cap)],λ(i:Nat)=>[]⟩ 0 ⟨Q0,Q0⟩ (λa F=>F.only [9,8,7,0] rfl) Qa ?_
 rintro i ⟨hi_i,hv⟩
 by_cases hlt_i:i<l.length
 ·obtain⟨b,o,cs,t',fz,rfl,hb,hs⟩:=hm Q0
  obtain⟨x,hx0⟩:∃x,x=l[i]:=⟨_,rfl⟩
  have hxm:x∈l:=by rw[hx0];exact List.getElem_mem hlt_i
  have hxi:IsSr x:=hx _ hxm
  have f1:seg cs (o+(i:Int).toNat*38) 38=some (srC x):=by rw[hx0];exact Zal (ZbN hx) hs hlt_i Q0
  replace hx0:=hx0.symm
  have xd:IsDv x.to:=hxi.1
  refine W3 [6,0,15,0,1] ?_
  refine ZiJ rfl Qd (Zbe Qd (ZlG Qd) Q0) ?_
  refine W4 [0,2] @ZaM ?_
  refine Zah 19 rfl (λh1=>?_) (λh1=>?_)
  ·replace h1:=Zaa h1
   refine W3 [38,0,2] ?_
   exact vAF
  replace h1:=Zab h1
  refine W3 [2,0,1] ?_
  refine ZiJ rfl Qd (Zbe Qd (ZmY Qd) Q0) ?_
  refine W4 [0,3] @ZbI ?_
  refine Zah 28 rfl (λh2=>?_) (λh2=>?_)
  ·replace h2:=Zaa h2
   refine W3 [29,0,2] ?_
   exact vAF
  replace h2:=Zab h2
  refine W3 [2,0,2] ?_
  refine ZgA rfl Qd (Zcr Qd (ZiQ Qd) Q0) ?_
  refine gQ 3 rfl (Zah 37 rfl (λh3=>?_) (λh3=>?_))
  ·replace h3:=dqU h3
   refine W3 [20,0,2] ?_
   exact vAF
  replace h3:=dqV h3
  refine W3 [2,0,1] ?_
  refine ZgA rfl Qd (Zcr Qd (ZkG Qd) Q0) ?_
  refine W4 [0,4] @Zas ?_
  refine g_if rfl (λh4=>?_) (λh4=>?_)
  ·replace h4:=Zaa h4
   refine W3 [9,0,2] ?_
   exact vAF
  replace h4:=Zab h4
  refine gQ 2 rfl ?_
  by_cases hi0:0<i
  ·obtain⟨y,hy0⟩:∃y,y=l[i-1]'Q0:=⟨_,rfl⟩
   have yI:IsSr y:=by rw[hy0];exact hx _ (List.getElem_mem _)
   have f2:seg cs (o+((i:Int)-1).toNat*38) 38=some (srC y):=by rw[hy0];exact Zal (ZbN hx) hs (show i-1<l.length by omega) Q0
   replace hy0:=hy0.symm
   have yd:IsDv y.to:=yI.1
   refine W3 [1,1017,3,0,2,0,0,1] ?_
   refine Zb8 rfl Qd (Zbe f2 (ZlG Qd) Q0) ?_
   refine W3 [2,0,1] ?_
   refine Zb8 rfl Qd (Zbe f1 (ZlG Qd) Q0) ?_
   refine W4 [0,2,0,2] @ZaR ?_
   exact vAM
  ·refine W3 [1,1017,3,0,14,0,7,0,2] ?_
   exact yN (i+1) ⟨Q0,vl_N hlt_i hx0.symm hv Qk λh=>absurd h hi0⟩
 ·exact vA6
theorem vCF(h:p:=by
  replace h1:=Zaa h1
  refine gQ 15 rfl (Zae rfl rfl rfl λw M=>?_)
  exact⟨by simp[*];done,M.ext⟩):p:=h
theorem ZkM(e:InsV)(he:IsIn e)(W:World):Cal prog 200 [.agg (inC e).toArray].toArray W λv w'=>v= .bool (ins1 e)/\Ext [] W w':=by
 have hd:IsDv e.to:=he.1
 refine yS (n:=49) Tryz.func200 rfl rfl ?_
 unfold ins1
 by_cases k:e.own.met=65535
 ·have hvv:ZaA e.own.met=true:=by rw[k];rfl
  have hf:finD e.own=false:=by unfold finD inf;simp[k]
  refine gQ 2 rfl (Zai rfl rfl λb1=>?_)
  refine W4 [7,0,0,2] @ZaM ?_
  refine Zah 7 rfl (λh1=>?_) (λh1=>?_)
  ·exact vCF
  ·replace h1:=Zab h1
   refine W4 [1,0,0,4,0,6,0,3] @ZbI ?_
   refine g_if rfl (λh2=>?_) (λh2=>?_)
   ·replace h2:=Zbx h2
    refine W3 [4,0,2,0,19] ?_
    refine Zae rfl rfl rfl λw M=>?_
    exact⟨by simp[*];done,M.ext⟩
   ·replace h2:=ZaJ h2
    refine W3 [6,0,2,0,1,0,3] ?_
    refine Zah 44 rfl (λh3=>?_) (λh3=>?_)
    ·replace h3:=dqU h3
     refine W4 [1,0,0,5] @Zas ?_
     exact vC5
    ·replace h3:=dqV h3
     refine gQ 8 rfl (Zae rfl rfl rfl λw M=>?_)
     exact⟨by simp[*];done,M.ext⟩
 ·have hf:finD e.own=ZaA e.own.met:=by unfold finD inf;simp[k]
  refine gQ 2 rfl (Zai rfl rfl λb1=>?_)
  refine W4 [7,0,0,2] @ZaM ?_
  refine Zah 7 rfl (λh1=>?_) (λh1=>?_)
  ·exact vCF
  ·replace h1:=Zab h1
   refine W4 [1,0,0,4] @ZbI ?_
   refine g_if rfl (λh2=>?_) (λh2=>?_)
   ·replace h2:=Zaa h2
    refine gQ 7 rfl (Zae rfl rfl rfl λw M=>?_)
    exact⟨by unfold inf;simp[*];done,M.ext⟩
   ·replace h2:=Zab h2
    refine W3 [6,0,3] ?_
    refine g_if rfl (λh3=>?_) (λh3=>?_)
    ·replace h3:=Zbx h3
     refine W3 [4,0,2,0,1,0,2] ?_
     refine Zah 24 rfl (λh4=>?_) (λh4=>?_)
     ·replace h4:=dqU h4
      refine W3 [7,0,7] ?_
      refine Zae rfl rfl rfl λw M=>?_
      exact⟨by simp[*];rfl,M.ext⟩
     ·replace h4:=dqV h4
      refine W4 [1,0,0,3] @Zas ?_
      refine Zah 30 rfl (λh5=>?_) (λh5=>?_)
      ·refine W3 [1,0,7] ?_
       refine Zae rfl rfl rfl λw M=>?_
       exact⟨by simp[*];rfl,M.ext⟩
      ·refine gQ 9 rfl (Zae rfl rfl rfl λw M=>?_)
       exact⟨by simp[*];done,M.ext⟩
    ·replace h3:=ZaJ h3
     refine W3 [6,0,2,0,13] ?_
     exact vC5
theorem Zct(l:List InsV)(hx:∀x∈l,IsIn x)(v:Value)(W:World)(hS:SlAt W 40 v l.length (insC l)):
  Cal prog 115 [v].toArray W λr w'=>r= .bool (ZbG l)/\Ext [] W w':=by
 obtain⟨q,cap,rfl,_⟩:=id hS
 have hm:=hS.memB [] Q5
 unfold ZbG
 generalize hV:vldL 512 ins1 cmpN l=b0
 refine yS (n:=38) Tryz.func115 rfl rfl ?_
 by_cases c0:512<l.length
 ·exact vAn
 refine W3 [13,0,11] ?_
 refine Zau (ι:=Nat) ⟨λ(i:Nat)=>l.length-i,λ(i:Nat)=>i<=l.length/\(∀j,j<i->vld1 ins1 cmpN l j=true),λ(i:Nat)=>[(9, .int .i64 i),(8, .int .i64 l.length),(7, .slice q l.length cap),(0, .slice q l.length cap)],λ(i:Nat)=>[]⟩ 0 ⟨Q0,Q0⟩ (λa F=>F.only [9,8,7,0] rfl) Qa ?_
 rintro i ⟨hi_i,hv⟩
 by_cases hlt_i:i<l.length
 ·obtain⟨b,o,cs,t',fz,rfl,hb,hs⟩:=hm Q0
  obtain⟨x,hx0⟩:∃x,x=l[i]:=⟨_,rfl⟩
  have hxm:x∈l:=by rw[hx0];exact List.getElem_mem hlt_i
  have hxi:IsIn x:=hx _ hxm
  have f1:seg cs (o+(i:Int).toNat*40) 40=some (inC x):=by rw[hx0];exact Zal (ZbU hx) hs hlt_i Q0
  replace hx0:=hx0.symm
  have xd:IsDv x.to:=hxi.1
  by_cases hi0:0<i
  ·obtain⟨y,hy0⟩:∃y,y=l[i-1]'Q0:=⟨_,rfl⟩
   have yI:IsIn y:=by rw[hy0];exact hx _ (List.getElem_mem _)
   have f2:seg cs (o+((i:Int)-1).toNat*40) 40=some (inC y):=by rw[hy0];exact Zal (ZbU hx) hs (show i-1<l.length by omega) Q0
   replace hy0:=hy0.symm
   have yd:IsDv y.to:=yI.1
   refine W4 [6,0,11,1025,2,0,0,0,2] @ZkM ?_
   refine ZbQ 18 rfl (λh1=>?_) (λh1=>?_)
   ·replace h1:=Zaa h1
    refine W3 [18,0,11,0,2] ?_
    exact vBW
   ·replace h1:=Zab h1
    refine W3 [3,0,2,0,0,1] ?_
    refine Zb8 rfl Qd (Zbe f2 (Zgu Qd) Q0) ?_
    refine W3 [2,0,1] ?_
    refine Zb8 rfl Qd (Zbe f1 (Zgu Qd) Q0) ?_
    refine W4 [0,3,0,2] @ZaR ?_
    exact vAN
  ·refine W4 [6,0,11,1025,2,0,0,0,2] @ZkM ?_
   refine ZbQ 18 rfl (λh1=>?_) (λh1=>?_)
   ·replace h1:=Zaa h1
    refine W3 [18,0,11,0,2] ?_
    exact vBW
   ·replace h1:=Zab h1
    refine W3 [3,0,15,0,7,0,2] ?_
    exact yN (i+1) ⟨Q0,vl_N hlt_i hx0.symm hv Qm λh=>absurd h hi0⟩
 ·exact vA6
theorem vBo(h:p:=by
  (refine Qx M1 ?_;clear F M M1 hok hE;intro a w F M;(try dsimp only at F))
  refine W1 15 ?_;intro a F
  exact Qq F (⟨rfl,M.ext⟩)):p:=h
theorem ZeP(l:List OptV)(hx:∀x∈l,IsOp x)(v:Value)(W:World)(hS:SlAt W 2 v l.length (opsC l)):
  Cal prog 334 [v].toArray W λr w'=>r= .bool (Zdj l)/\Ext [] W w':=by
 obtain⟨q,cap,rfl,hcap,hsp,hl,hm⟩:=hS
 unfold Zdj vldL
 by_cases c0:16<l.length
 ·rw[dqF Q0,Bool.false_and]
  refine Zar (n:=46) [] Tryz.func334 rfl rfl rfl ?_
  intro a w F M hwW
  refine W1 21 ?_;intro a F
  exact Qq F (⟨rfl,M.ext⟩)
 rw[dqT (show l.length<=16 by omega),Bool.true_and]
 refine Zar (n:=46) [] Tryz.func334 rfl rfl rfl ?_
 intro a w F M hwW
 refine W1 25 ?_;intro a F
 refine ZbK (λm a w=>∃i:Nat,m=l.length-i/\i<=l.length/\(∀j,j<i->vld1 opt1 cmpO l j=true)/\Frm a 46 [] [(9, .int .i64 i),(8, .int .i64 l.length),(0, .slice q l.length cap)]/\Mem [] W w []) l.length ⟨0,rfl,Q0,Q0,F.only [9,8,0] rfl,M⟩ ?_
 clear F M
 rintro m a w ⟨i,hm',hi,hv,F,M⟩
 by_cases hlt:i<l.length
 ·obtain⟨b,o,cs,t,fz,rfl,hb,hs⟩:=hm Q0
  have hxv:=hx _ (List.getElem_mem hlt)
  have hv0:=Zpd (e1:=opt1) (cm:=cmpO) hlt
  have hvs:=ZkE (e1:=opt1) (cm:=cmpO) hlt
  have hvf:=ZmP (e1:=opt1) (cm:=cmpO) hlt
  have f1:seg cs (o+(i:Int).toNat*2) 2=some (opC l[i]):=Zal (Zfh hx) hs hlt Q0
  obtain⟨x,hx0⟩:∃x,x=l[i]:=⟨_,rfl⟩
  rw[<-hx0] at hxv hv0 hvs hvf f1
  have g0:nth cs (o+(i:Int).toNat*2)=some (.int .u64 x.nb):=Zcr f1 (ZkZ (o:=x) trivial) Q0
  have g1:nth cs (o+(i:Int).toNat*2+1)=some (.int .i64 x.cost):=Zcr f1 (ZeR (o:=x) trivial) Q0
  refine W1 18 ?_;intro a F
  replace F:=F.only [9,8,0,3] rfl
  by_cases c1:x.nb=0
  ·rw[Zou hlt (hvf (by unfold opt1;rw[dqT c1];rfl))]
   refine Za4 32 F Q7 ?_
   intro w1 hE hok
   have M1:=M.later hE
   refine W2 32 hok ?_
   exact vBo
  cases c2:ZaA x.cost
  ·rw[Zou hlt (hvf (by unfold opt1;rw[c2];simp))]
   refine Za4 32 F Q7 ?_
   intro w1 hE hok
   have M1:=M.later hE
   refine W2 12 hok ?_
   (refine mKG hok rfl rfl rfl rfl (λa' w' F' E'=>Zav (F'.e rfl) (F'.evs rfl) (Cal.mono (Cal.to (v':= .bool false) (Zcs x.cost _) (by rw[c2])) λ_ _ hh=>⟨hh.2,hh.1⟩)) ?_)
   refine W2 19 hok ?_
   exact vBo
  have hgood:opt1 x=true:=by unfold opt1;rw[dqF c1,c2];rfl
  rw[hgood] at hv0 hvs
  clear hvf hgood
  rcases Nat.eq_zero_or_pos i with hi0|hi0
  ·refine Za4 32 F Q7 ?_
   intro w1 hE hok
   have M1:=M.later hE
   refine W2 12 hok ?_
   (refine mKG hok rfl rfl rfl rfl (λa' w' F' E'=>Zav (F'.e rfl) (F'.evs rfl) (Cal.mono (Cal.to (v':= .bool true) (Zcs x.cost _) (by rw[c2])) λ_ _ hh=>⟨hh.2,hh.1⟩)) ?_)
   refine W2 19 hok ?_
   (refine Qx M1 ?_;clear F M M1 hok hE;intro a w F M;(try dsimp only at F))
   refine W1 12 ?_;intro a F
   exact⟨_,Q0,i+1,rfl,Q0,λj hj=>by
     rcases Nat.lt_or_ge j i with h1|h1
     ·exact hv j h1
     ·obtain rfl:j=i:=by omega
      rw[hv0 hi0],F.only [9,8,0] rfl,M⟩
  ·have hyv:=hx _ (List.getElem_mem (show i-1<l.length by omega))
   have p1:seg cs (o+((i:Int)-1).toNat*2) 2=some (opC (l[i-1]'Q0)):=Zal (Zfh hx) hs (show i-1<l.length by omega) Q0
   replace hvs:=hvs hi0
   obtain⟨y,hy0⟩:∃y,y=l[i-1]'Q0:=⟨_,rfl⟩
   rw[<-hy0] at hyv p1 hvs
   have p2:nth cs (o+((i:Int)-1).toNat*2)=some (.int .u64 y.nb):=Zcr p1 (ZkZ (o:=y) trivial) Q0
   clear hy0
   have hcm:cmpO y x<0↔y.nb<x.nb:=by unfold cmpO;rw[Zfp]
   by_cases c9:y.nb<x.nb
   ·refine Za4 32 F Q7 ?_
    intro w1 hE hok
    have M1:=M.later hE
    refine W2 12 hok ?_
    (refine mKG hok rfl rfl rfl rfl (λa' w' F' E'=>Zav (F'.e rfl) (F'.evs rfl) (Cal.mono (Cal.to (v':= .bool true) (Zcs x.cost _) (by rw[c2])) λ_ _ hh=>⟨hh.2,hh.1⟩)) ?_)
    refine W2 19 hok ?_
    (refine Qx M1 ?_;clear F M M1 hok hE;intro a w F M;(try dsimp only at F))
    refine W1 12 ?_;intro a F
    exact⟨_,Q0,i+1,rfl,Q0,λj hj=>by
     rcases Nat.lt_or_ge j i with h1|h1
     ·exact hv j h1
     ·obtain rfl:j=i:=by omega
      rw[hvs];simp[hcm,c9],F.only [9,8,0] rfl,M⟩
   ·rw[Zou hlt (by rw[hvs];simp[hcm,c9])]
    refine Za4 32 F Q7 ?_
    intro w1 hE hok
    have M1:=M.later hE
    refine W2 12 hok ?_
    (refine mKG hok rfl rfl rfl rfl (λa' w' F' E'=>Zav (F'.e rfl) (F'.evs rfl) (Cal.mono (Cal.to (v':= .bool true) (Zcs x.cost _) (by rw[c2])) λ_ _ hh=>⟨hh.2,hh.1⟩)) ?_)
    refine W2 19 hok ?_
    exact vBo
 ·obtain rfl:i=l.length:=by omega
  rw[ZxV hv]
  exact vBR
end
section
section
variable {c:Cx} {Q:Exit->Act->World->Prop} {ks:List KF} {fr:FN} {l:Row} {d:Nat} {ty:TypeId} {pos:String} {af:Array Edge} {g:Option (Nat×Bool)} {aa:Array Oper} {rest:List Oper}
theorem Zq9{fn:Fn}{xs ys:List Operand}{vs us:List Value}(h1:evL fr xs=some vs)(h2:evL fr ys=some us)(hk:G c Q ks (.ops aa rest) ((d, .func fn vs.toArray us.toArray)::fr) l)(hd:Nat.blt d c.n=true:=by rfl)(hg:gOk aa fr g=some true:=by rfl):
  G c Q ks (.ops aa (⟨some d, .makeFunc fn xs.toArray ys.toArray,ty,pos,af,g⟩::rest)) fr l:=g_v (λa w F M R r=>ZgX (F.evs h1) (F.evs h2) r) hk rfl hd hg
theorem Ztd{y:Operand}{fn:FuncId}{ys:List Operand}{ts:Array TypeId}{vs us:List Value} [hb:Zad c.P fn](hx:Ev fr y=some (.func (.func fn) #[] us.toArray))(ha:evL fr ys=some vs)
  (hc:∀w,Mem c.S c.W w l.flatten->Cal c.P fn (vs++us).toArray w λu w'=>u=v/\Ext [] w w')
  (hk:G c Q ks (.ops aa rest) ((d,v)::fr) l) (hd:Nat.blt d c.n=true:=by rfl) (hg:gOk aa fr g=some true:=by rfl):G c Q ks (.ops aa (⟨some d, .call ⟨.value y,ys.toArray,ts⟩,ty,pos,af,g⟩::rest)) fr l:=
 g_op rfl hd hg λa w F M=>ZfB (us:=(vs++us).toArray) (F.e hx) (F.evs ha) Q5 (Cal.mono (hc w M) λu w' h a' F'=>by
  obtain⟨rfl,E⟩:=h
  exact hk a' w' F' (M.later E))
end
attribute [local irreducible] OpTo wpListIn Code.wpIn MW Cal
structure RtV where
 self:Int
 seq:Int
 raised:Int
 quiet:Int
 hello:Int
 nextH:Int
 full:Int
 og:List OrgV
 aj:List AdjV
 sr:List SrcV
 ro:List RouV
 ins:List InsV
 rq:List ReqV
 av:List AdvV
structure RtX where
 og:Value
 aj:Value
 sr:Value
 ro:Value
 ins:Value
 rq:Value
 av:Value
def rtC(s:RtV)(x:RtX):List Value:=[.int .u64 s.self, .int .u16 s.seq, .int .i64 s.raised, .int .i64 s.quiet, .int .u16 s.hello, .int .i64 s.nextH,x.og,x.aj,x.sr,x.ro,x.ins,x.rq,x.av, .int .i64 s.full]
structure RtAt(W:World)(s:RtV)(x:RtX):Prop where
 og:SlAt W 34 x.og s.og.length (ogsC s.og)
 aj:SlAt W 8 x.aj s.aj.length (ajsC s.aj)
 sr:SlAt W 38 x.sr s.sr.length (srsC s.sr)
 ro:SlAt W 39 x.ro s.ro.length (rosC s.ro)
 ins:SlAt W 40 x.ins s.ins.length (insC s.ins)
 rq:SlAt W 40 x.rq s.rq.length (rqsC s.rq)
 av:SlAt W 37 x.av s.av.length (avsC s.av)
structure IsRt(s:RtV):Prop where
 og:∀x∈s.og,IsOg x
 aj:∀x∈s.aj,IsAj x
 sr:∀x∈s.sr,IsSr x
 ro:∀x∈s.ro,IsRo x
 ins:∀x∈s.ins,IsIn x
 rq:∀x∈s.rq,IsRq x
 av:∀x∈s.av,IsAv x
 q:∀x∈s.aj,BdQu x.q
theorem RtAt.later{W w:World}{s:RtV}{x:RtX}(h:RtAt W s x)(E:Ext [] W w):RtAt w s x:=⟨h.og.later E,h.aj.later E,h.sr.later E,h.ro.later E,h.ins.later E,h.rq.later E,h.av.later E⟩
def Zaj(s:RtV):Bool:= !decide (s.self=0)&&Zag s.raised&&Zag s.quiet&&Zag s.nextH&&ZdL s.self s.og&&Zdu s.self s.aj&&ZaK s.sr&&Za7 s.ro&&ZbG s.ins&&ZaB s.rq&&(Zbh s.av&&Zag s.full)&& !(s.ro.any λx=>decide (x.to.rt=s.self))&& !(s.ins.any λx=>decide (x.to.rt=s.self))
theorem Zwi{α:Type}{p:α->Bool}{l:List α}(h:i<l.length)(hno:∀j(hj:j<i)(hj2:j<l.length),p l[j]=false)(hp:p l[i]=false):∀j(hj:j<i+1)(hj2:j<l.length),p l[j]=false:=λj hj hj2=>by
 rcases Nat.lt_or_ge j i with h1|h1
 ·exact hno j h1 hj2
 ·obtain rfl:j=i:=by omega
  exact hp
theorem Zlk{α:Type}(p:α->Bool)(l:List α):decide (0<=Zfn p l)=l.any p:=by
 unfold Zfn
 cases h:l.findIdx? p with
 |none=>
  rw[List.findIdx?_eq_none_iff] at h
  rw[List.any_eq_false.2 (λx hx=>by rw[h x hx];simp)]
  rfl
 |some i=>
  obtain⟨hi,h1,_⟩:=List.findIdx?_eq_some_iff_getElem.1 h
  rw[List.any_eq_true.2 ⟨l[i],List.getElem_mem hi,h1⟩]
  simp
theorem vAT(h:p:=by
  have hx0s:=hx0.symm
  refine W3 [6,0,15,0,0] ?_
  refine Ztd (v:= .bool (p x)) rfl rfl (λw M=>hcl w x M.ext hxm) ?_
  cases hp:p x
  ·refine W3 [7,0,2] ?_
   exact yN (i+1) ⟨Q0,Zwi hlt_i hno (hx0s▸hp)⟩
  ·refine W3 [12,0,2] ?_
   exact Zae rfl rfl rfl λw M=>⟨by rw[ZnU hlt_i (hx0s▸hp) λj hj=>hno j hj Q0],M.ext⟩):p:=h
theorem vC9(h:p:=by
  obtain rfl:i=l.length:=by omega
  refine W3 [6,0,2,0,8] ?_
  exact Zae rfl rfl rfl λw M=>⟨by rw[Zjl λj hj=>hno j hj hj],M.ext⟩):p:=h
theorem ZqR(l:List RouV)(hx:∀x∈l,IsRo x)(v:Value)(W:World)(hS:SlAt W 39 v l.length (rosC l))(hlen:l.length<=1000)(g:FuncId) [hg:Zad prog g](caps:List Value)(p:RouV->Bool)
  (hcl:∀w x,Ext [] W w->x∈l->Cal prog g ([Value.agg (roC x).toArray]++caps).toArray w λv w'=>v= .bool (p x)/\Ext [] w w'):
  Cal prog 197 [v, .func (.func g) #[] caps.toArray].toArray W λx w'=>x= .int .i64 (Zfn p l)/\Ext [] W w':=by
 obtain⟨q,cap,rfl,_⟩:=id hS
 have hm:=hS.memB [] Q5
 refine yS (n:=19) Tryz.func197 rfl rfl (gQ 14 rfl (Zau (ι:=Nat) ⟨λ(i:Nat)=>l.length-i,λ(i:Nat)=>i<=l.length/\(∀j(hj:j<i)(hj2:j<l.length),p l[j]=false),λ(i:Nat)=>[(8, .int .i64 i),(7, .int .i64 l.length),(0, .slice q l.length cap),(1, .func (.func g) #[] caps.toArray)],λ(i:Nat)=>[]⟩ 0 ⟨Q0,Q0⟩ (λa F=>F.only [8,7,0,1] rfl) Qa ?_))
 rintro i ⟨hi_i,hno⟩
 by_cases hlt_i:i<l.length
 ·obtain⟨b,o,cs,t',fz,rfl,hb,hs⟩:=hm Q0
  obtain⟨x,hx0⟩:∃x,x=l[i]:=⟨_,rfl⟩
  have hxm:x∈l:=by rw[hx0];exact List.getElem_mem hlt_i
  have hxi:IsRo x:=hx _ hxm
  have f1:seg cs (o+(i:Int).toNat*39) 39=some (roC x):=by rw[hx0];exact Zal (Zbw hx) hs hlt_i Q0
  exact vAT
 ·exact vC9
theorem ZzB(l:List RouV)(hx:∀x∈l,IsRo x)(v:Value)(W:World)(hS:SlAt W 39 v l.length (rosC l))(hlen:l.length<=1000)(g:FuncId) [hg:Zad prog g](caps:List Value)(p:RouV->Bool)
  (hcl:∀w x,Ext [] W w->x∈l->Cal prog g ([Value.agg (roC x).toArray]++caps).toArray w λv w'=>v= .bool (p x)/\Ext [] w w'):
  Cal prog 108 [v, .func (.func g) #[] caps.toArray].toArray W λx w'=>x= .bool (l.any p)/\Ext [] W w':=by
 exact yS (n:=9) Tryz.func108 rfl rfl (gQ 9 rfl (Zb6 (v:= .int .i64 (Zfn p l)) rfl rfl (λw M=>ZqR l hx v w (hS.later M.ext) hlen g caps p λw' x E hxl=>hcl w' x (M.ext.trans E) hxl) (gQ 5 rfl (Zae rfl rfl rfl λw M=>⟨congrArg Value.bool (Zlk p l),M.ext⟩))))
theorem ZqS(l:List InsV)(hx:∀x∈l,IsIn x)(v:Value)(W:World)(hS:SlAt W 40 v l.length (insC l))(hlen:l.length<=1000)(g:FuncId) [hg:Zad prog g](caps:List Value)(p:InsV->Bool)
  (hcl:∀w x,Ext [] W w->x∈l->Cal prog g ([Value.agg (inC x).toArray]++caps).toArray w λv w'=>v= .bool (p x)/\Ext [] w w'):
  Cal prog 198 [v, .func (.func g) #[] caps.toArray].toArray W λx w'=>x= .int .i64 (Zfn p l)/\Ext [] W w':=by
 obtain⟨q,cap,rfl,_⟩:=id hS
 have hm:=hS.memB [] Q5
 refine yS (n:=19) Tryz.func198 rfl rfl (gQ 14 rfl (Zau (ι:=Nat) ⟨λ(i:Nat)=>l.length-i,λ(i:Nat)=>i<=l.length/\(∀j(hj:j<i)(hj2:j<l.length),p l[j]=false),λ(i:Nat)=>[(8, .int .i64 i),(7, .int .i64 l.length),(0, .slice q l.length cap),(1, .func (.func g) #[] caps.toArray)],λ(i:Nat)=>[]⟩ 0 ⟨Q0,Q0⟩ (λa F=>F.only [8,7,0,1] rfl) Qa ?_))
 rintro i ⟨hi_i,hno⟩
 by_cases hlt_i:i<l.length
 ·obtain⟨b,o,cs,t',fz,rfl,hb,hs⟩:=hm Q0
  obtain⟨x,hx0⟩:∃x,x=l[i]:=⟨_,rfl⟩
  have hxm:x∈l:=by rw[hx0];exact List.getElem_mem hlt_i
  have hxi:IsIn x:=hx _ hxm
  have f1:seg cs (o+(i:Int).toNat*40) 40=some (inC x):=by rw[hx0];exact Zal (ZbU hx) hs hlt_i Q0
  exact vAT
 ·exact vC9
theorem ZzC(l:List InsV)(hx:∀x∈l,IsIn x)(v:Value)(W:World)(hS:SlAt W 40 v l.length (insC l))(hlen:l.length<=1000)(g:FuncId) [hg:Zad prog g](caps:List Value)(p:InsV->Bool)
  (hcl:∀w x,Ext [] W w->x∈l->Cal prog g ([Value.agg (inC x).toArray]++caps).toArray w λv w'=>v= .bool (p x)/\Ext [] w w'):
  Cal prog 110 [v, .func (.func g) #[] caps.toArray].toArray W λx w'=>x= .bool (l.any p)/\Ext [] W w':=by
 exact yS (n:=9) Tryz.func110 rfl rfl (gQ 9 rfl (Zb6 (v:= .int .i64 (Zfn p l)) rfl rfl (λw M=>ZqS l hx v w (hS.later M.ext) hlen g caps p λw' x E hxl=>hcl w' x (M.ext.trans E) hxl) (gQ 5 rfl (Zae rfl rfl rfl λw M=>⟨congrArg Value.bool (Zlk p l),M.ext⟩))))
end
section
instance {w:World} {s:RtV} {x:RtX}:Ltr w (RtAt w s x) (λw=>RtAt w s x):=⟨λE h=>h.later E⟩
abbrev rtS(s:RtV)(p6:Option Addr)(c6:Nat)(p7:Option Addr)(c7:Nat)(p8:Option Addr)(c8:Nat)(p9:Option Addr)(c9:Nat)(p10:Option Addr)(c10:Nat)(p11:Option Addr)(c11:Nat)(p12:Option Addr)(c12:Nat):List Value:=rtC s ⟨.slice p6 s.og.length c6, .slice p7 s.aj.length c7, .slice p8 s.sr.length c8, .slice p9 s.ro.length c9, .slice p10 s.ins.length c10, .slice p11 s.rq.length c11, .slice p12 s.av.length c12⟩
end
section
open Go.ChangeShapes Go.WideShapes Go.ChangeAt Go.RowKit
theorem Zpb(h:wfV .b v=true):∃b,v= .bool b:=by
 cases v<;>simp[wfV] at h⊢
section
variable {H:Type} {enc:TypeId×Value->H} {w:World} {base:Nat} {sp:Nat->Bool} {held:Bool}
set_option maxRecDepth 100000 in
theorem Zzj(n:Nat)(cs:List Value)(y:DataW H×List MemPlace)(h:DataW.trod enc prog w base sp held n 85 cs=some y):∃x:OrgV,IsOg x/\cs=ogC x:=by
 have hw:=Zc8 8 85 (List.replicate 16 (.i .u8)++(.i .i64::(List.replicate 16 (.i .u8)++[.i .i64]))) Q7 n cs y h (.inl Q7)
 obtain⟨c0,c1,rfl,h1,h2⟩:=ZbY hw
 obtain⟨a1,rfl,hl1,hb1⟩:=Zg3 c0 16 h1
 obtain⟨x1,c2,rfl,g1,h3⟩:=Zax h2
 obtain⟨c3,c4,rfl,h4,h5⟩:=ZbY (ks:=List.replicate 16 (LK.i .u8)) (ks':=[LK.i .i64]) h3
 obtain⟨a2,rfl,hl2,hb2⟩:=Zg3 c3 16 h4
 obtain⟨x2,c5,rfl,g2,h6⟩:=Zax h5
 obtain rfl:=ZfP h6
 obtain⟨n1,rfl,_,_⟩:=ZaH g1
 obtain⟨n2,rfl,_,_⟩:=ZaH g2
 exact⟨⟨a1,n1,a2,n2⟩,⟨⟨hl1,hb1⟩,⟨hl2,hb2⟩⟩,by simp[ogC,pfC]⟩
set_option maxRecDepth 100000 in
theorem Zzm(n:Nat)(cs:List Value)(y:DataW H×List MemPlace)(h:DataW.trod enc prog w base sp held n 124 cs=some y):∃x:AdjV,(IsAj x/\BdQu x.q)/\cs=ajC x:=by
 have hw:=Zc8 8 124 [.i .u64, .b, .i .u8, .i .i64, .i .u16, .i .i64, .i .i64, .i .i64] Q7 n cs y h (.inl Q7)
 obtain⟨y0,d0,rfl,k0,r0⟩:=Zax hw
 obtain⟨m0,rfl,p0,q0⟩:=ZaH k0
 obtain⟨y1,d1,rfl,k1,r1⟩:=Zax r0
 obtain⟨m1,rfl⟩:=Zpb k1
 obtain⟨y2,d2,rfl,k2,r2⟩:=Zax r1
 obtain⟨m2,rfl,p2,q2⟩:=ZaH k2
 obtain⟨y3,d3,rfl,k3,r3⟩:=Zax r2
 obtain⟨m3,rfl,p3,q3⟩:=ZaH k3
 obtain⟨y4,d4,rfl,k4,r4⟩:=Zax r3
 obtain⟨m4,rfl,p4,q4⟩:=ZaH k4
 obtain⟨y5,d5,rfl,k5,r5⟩:=Zax r4
 obtain⟨m5,rfl,p5,q5⟩:=ZaH k5
 obtain⟨y6,d6,rfl,k6,r6⟩:=Zax r5
 obtain⟨m6,rfl,p6,q6⟩:=ZaH k6
 obtain⟨y7,d7,rfl,k7,r7⟩:=Zax r6
 obtain⟨m7,rfl,p7,q7⟩:=ZaH k7
 obtain rfl:=ZfP r7
 simp only[loK,hiK] at p2 q2 p3 q3 p5 q5
 exact⟨⟨m0,⟨m1,m2,m3,m4,m5⟩,m6,m7⟩,⟨trivial,⟨⟨p2,by dsimp only;omega⟩,⟨p3,q3⟩,⟨p5,q5⟩⟩⟩,rfl⟩
end
section
variable {H:Type} {enc:TypeId×Value->H} {w:World} {r:Reach} {b0 base:Nat} {sp:Nat->Bool} {held:Bool} {v:Value} {d:DataW H} {p:List MemPlace}
end
end
section
attribute [local irreducible] OpTo wpListIn Code.wpIn MW Cal
theorem rtF0{s:RtV}(h:s.self=0):Value.bool false= .bool (Zaj s):=by unfold Zaj;simp[h]
theorem rtF1{s:RtV}(h:Zag s.raised=false):Value.bool false= .bool (Zaj s):=by unfold Zaj;simp[h]
theorem rtF2{s:RtV}(h:Zag s.quiet=false):Value.bool false= .bool (Zaj s):=by unfold Zaj;simp[h]
theorem rtF3{s:RtV}(h:Zag s.nextH=false):Value.bool false= .bool (Zaj s):=by unfold Zaj;simp[h]
theorem rtF4{s:RtV}(h:ZdL s.self s.og=false):Value.bool false= .bool (Zaj s):=by unfold Zaj;simp[h]
theorem rtF5{s:RtV}(h:Zdu s.self s.aj=false):Value.bool false= .bool (Zaj s):=by unfold Zaj;simp[h]
theorem rtF6{s:RtV}(h:ZaK s.sr=false):Value.bool false= .bool (Zaj s):=by unfold Zaj;simp[h]
theorem rtF7{s:RtV}(h:Za7 s.ro=false):Value.bool false= .bool (Zaj s):=by unfold Zaj;simp[h]
theorem rtF8{s:RtV}(h:ZbG s.ins=false):Value.bool false= .bool (Zaj s):=by unfold Zaj;simp[h]
theorem rtF9{s:RtV}(h:ZaB s.rq=false):Value.bool false= .bool (Zaj s):=by unfold Zaj;simp[h]
theorem ZxN{s:RtV}(h:(Zbh s.av&&Zag s.full)=false):Value.bool false= .bool (Zaj s):=by unfold Zaj;simp[h]
theorem ZxM{s:RtV}(h:(s.ro.any λx=>decide (x.to.rt=s.self))=true):Value.bool false= .bool (Zaj s):=by unfold Zaj;simp[h]
theorem ZzP{s:RtV}(h:(s.ins.any λx=>decide (x.to.rt=s.self))=true):Value.bool false= .bool (Zaj s):=by unfold Zaj;simp[h]
theorem rtL{s:RtV}(h0:¬s.self=0)(h1:Zag s.raised=true)(h2:Zag s.quiet=true)(h3:Zag s.nextH=true)(h4:ZdL s.self s.og=true)(h5:Zdu s.self s.aj=true)(h6:ZaK s.sr=true)(h7:Za7 s.ro=true)(h8:ZbG s.ins=true)(h9:ZaB s.rq=true)(h10:(Zbh s.av&&Zag s.full)=true)(h11:(s.ro.any λx=>decide (x.to.rt=s.self))=false):Value.bool (!(s.ins.any λx=>decide (x.to.rt=s.self)))= .bool (Zaj s):=by
 unfold Zaj
 rw[dqF h0,h1,h2,h3,h4,h5,h6,h7,h8,h9,h10,h11]
 rfl
theorem ZhQ(h:Za7 l=true):l.length<=1000:=by unfold Za7 vldL at h;simp at h;omega
theorem ZhR{l:List InsV}(h:ZbG l=true):l.length<=1000:=by unfold ZbG vldL at h;simp at h;omega
theorem Zxt(s:RtV)(x:RtX)(b1:Nat)(W:World)(hb:W.heap[b1]? =some (.cells (rtC s x).toArray 53 (0,0)))(r:RouV)(hr:IsRo r):Cal prog 109 ([Value.agg (roC r).toArray]++[Value.pointer (some ⟨b1,0,none⟩)]).toArray W λv w'=>v= .bool (decide (r.to.rt=s.self))/\Ext [] W w':=by
 have hld:∀w',Ext [] W w'->w'.heap[b1]? =some (.cells (rtC s x).toArray 53 (0,0)):=λw' E=>(E.block b1 (Array.getElem?_eq_some_iff.1 hb).1 Q5).trans hb
 have hf:nth (rtC s x) 0=some (.int .u64 s.self):=rfl
 simp only[List.cons_append,List.nil_append]
 refine yS (n:=10) Tryz.func109 rfl rfl (gQ 2 rfl (Zai rfl rfl λb2=>?_))
 refine W3 [7,0,1,0,5] ?_
 exact vA5
theorem Zxu(s:RtV)(x:RtX)(b1:Nat)(W:World)(hb:W.heap[b1]? =some (.cells (rtC s x).toArray 53 (0,0)))(r:InsV)(hr:IsIn r):Cal prog 111 ([Value.agg (inC r).toArray]++[Value.pointer (some ⟨b1,0,none⟩)]).toArray W λv w'=>v= .bool (decide (r.to.rt=s.self))/\Ext [] W w':=by
 have hld:∀w',Ext [] W w'->w'.heap[b1]? =some (.cells (rtC s x).toArray 53 (0,0)):=λw' E=>(E.block b1 (Array.getElem?_eq_some_iff.1 hb).1 Q5).trans hb
 have hf:nth (rtC s x) 0=some (.int .u64 s.self):=rfl
 simp only[List.cons_append,List.nil_append]
 refine yS (n:=10) Tryz.func111 rfl rfl (gQ 2 rfl (Zai rfl rfl λb2=>?_))
 refine W3 [7,0,1,0,5] ?_
 exact vA5
theorem ZnX{w w':World}{b:Nat}{o:Obj}(E:Ext [] w w')(h:w.heap[b]? =some o):w'.heap[b]? =some o:=(E.block b (Array.getElem?_eq_some_iff.1 h).1 Q5).trans h
theorem Zes(s:RtV)(x:RtX)(hs:IsRt s)(W:World)(h:RtAt W s x):Cal prog 34 [.agg (rtC s x).toArray].toArray W λr w'=>r= .bool (Zaj s)/\Ext [] W w':=by
 obtain⟨v6,v7,v8,v9,v10,v11,v12⟩:=x
 obtain⟨a6,a7,a8,a9,a10,a11,a12⟩:=h
 dsimp only at a6 a7 a8 a9 a10 a11 a12
 obtain⟨q6,c6,rfl,_⟩:=id a6
 obtain⟨q7,c7,rfl,_⟩:=id a7
 obtain⟨q8,c8,rfl,_⟩:=id a8
 obtain⟨q9,c9,rfl,_⟩:=id a9
 obtain⟨q10,c10,rfl,_⟩:=id a10
 obtain⟨q11,c11,rfl,_⟩:=id a11
 obtain⟨q12,c12,rfl,_⟩:=id a12
 obtain⟨i6,i7,i8,i9,i10,i11,i12,iq⟩:=hs
 refine yS (n:=80) Tryz.func34 rfl rfl (gQ 2 rfl (Zai rfl rfl λb1=>?_))
 refine W3 [7,0,2] ?_
 refine Zah 6 rfl (λh1=>?_) (λh1=>?_)
 ·replace h1:=dqU h1
  exact gQ 43 rfl (Zae rfl rfl rfl λw M=>⟨rtF0 Qd,M.ext⟩)
 replace h1:=dqV h1
 refine W4 [1,0,0,3] @Zc9 ?_
 refine Zah 12 rfl (λh2=>?_) (λh2=>?_)
 ·replace h2:=Zaa h2
  exact gQ 37 rfl (Zae rfl rfl rfl λw M=>⟨rtF1 Qd,M.ext⟩)
 replace h2:=Zab h2
 refine W4 [1,0,0,3] @Zc9 ?_
 refine Zah 18 rfl (λh3=>?_) (λh3=>?_)
 ·replace h3:=Zaa h3
  exact gQ 31 rfl (Zae rfl rfl rfl λw M=>⟨rtF2 Qd,M.ext⟩)
 replace h3:=Zab h3
 refine W4 [1,0,0,3] @Zc9 ?_
 refine Zah 24 rfl (λh4=>?_) (λh4=>?_)
 ·replace h4:=Zaa h4
  exact gQ 25 rfl (Zae rfl rfl rfl λw M=>⟨rtF3 Qd,M.ext⟩)
 replace h4:=Zab h4
 refine W4 [1,0,1,0,0,3] @Zod ?_
 refine Zah 32 rfl (λh5=>?_) (λh5=>?_)
 ·replace h5:=Zaa h5
  exact gQ 17 rfl (Zae rfl rfl rfl λw M=>⟨rtF4 Qd,M.ext⟩)
 replace h5:=Zab h5
 refine W4 [1,0,1,0,0,4] @Zof ?_
 refine g_if rfl (λh6=>?_) (λh6=>?_)
 ·replace h6:=Zaa h6
  exact gQ 7 rfl (Zae rfl rfl rfl λw M=>⟨rtF5 Qd,M.ext⟩)
 replace h6:=Zab h6
 refine W4 [6,0,0,2] @Zbq ?_
 refine Zah 44 rfl (λh7=>?_) (λh7=>?_)
 ·replace h7:=Zaa h7
  exact gQ 33 rfl (Zae rfl rfl rfl λw M=>⟨rtF6 Qd,M.ext⟩)
 replace h7:=Zab h7
 refine W4 [1,0,0,3] @Zdx ?_
 refine Zah 50 rfl (λh8=>?_) (λh8=>?_)
 ·replace h8:=Zaa h8
  exact gQ 27 rfl (Zae rfl rfl rfl λw M=>⟨rtF7 Qd,M.ext⟩)
 replace h8:=Zab h8
 refine W4 [1,0,0,3] @Zet ?_
 refine Zah 56 rfl (λh9=>?_) (λh9=>?_)
 ·replace h9:=Zaa h9
  exact gQ 21 rfl (Zae rfl rfl rfl λw M=>⟨rtF8 Qd,M.ext⟩)
 replace h9:=Zab h9
 refine W4 [1,0,0,3] @Zbm ?_
 refine Zah 62 rfl (λh10=>?_) (λh10=>?_)
 ·replace h10:=Zaa h10
  exact gQ 15 rfl (Zae rfl rfl rfl λw M=>⟨rtF9 Qd,M.ext⟩)
 replace h10:=Zab h10
 refine W4 [1,0,0,4] @ZmQ ?_
 refine g_if rfl (λh11=>?_) (λh11=>?_)
 ·replace h11:=Zaa h11
  exact gQ 7 rfl (Zae rfl rfl rfl λw M=>⟨ZxN Qd,M.ext⟩)
 replace h11:=Zab h11
 refine W3 [5,0] ?_
 refine Zq9 (us:=[Value.pointer (some ⟨b1,0,none⟩)]) rfl rfl (Zb6 (v:= .bool (s.ro.any λx=>decide (x.to.rt=s.self))) rfl rfl (λw M=>ZzB s.ro i9 _ w (a9.later M.ext) (ZhQ h8) _ _ _ λw' x E hx=>Zxt s _ b1 w' (ZnX E (M.at_ _ (Zak (i:=0) rfl))) x (i9 x hx)) ?_)
 cases hro:s.ro.any λx=>decide (x.to.rt=s.self)
 ·refine W3 [3,0] ?_
  exact Zq9 (us:=[Value.pointer (some ⟨b1,0,none⟩)]) rfl rfl (Zb6 (v:= .bool (s.ins.any λx=>decide (x.to.rt=s.self))) rfl rfl (λw M=>ZzC s.ins i10 _ w (a10.later M.ext) (ZhR h9) _ _ _ λw' x E hx=>Zxu s _ b1 w' (ZnX E (M.at_ _ (Zak (i:=0) rfl))) x (i10 x hx)) (gQ 6 rfl (Zae rfl rfl rfl λw M=>⟨rtL h1 h2 h3 h4 h5 h6 h7 h8 h9 h10 h11 hro,M.ext⟩)))
 ·refine gQ 12 rfl ?_
  exact Zae rfl rfl rfl λw M=>⟨ZxM hro,M.ext⟩
end
section
section
variable {α:Type} {n:Nat} {e1:α->Bool} {cm:α->α->Int} {l:List α} {i:Nat}
theorem Zxs{x:α}(h:i<l.length)(hx:x=l[i])(hv:e1 x=false):vldL n e1 cm l=false:=ZrU h (ZmP h (by rw[<-hx];exact hv)) rfl
theorem Zxq{x y:α}(h:i<l.length)(h0:0<i)(hx:x=l[i])(hy:y=l[i-1]'Q0)(hv:¬cm y x<0):vldL n e1 cm l=false:=ZrU h (by rw[ZkE h h0,<-hx,<-hy,dqF hv,Bool.and_false]) rfl
theorem Zxr(h:n<l.length):vldL n e1 cm l=false:=by unfold vldL;rw[dqF Q0,Bool.false_and]
theorem Zxp(h:l.length<=n)(ha:∀j,j<l.length->vld1 e1 cm l j=true):vldL n e1 cm l=true:=vCX
end
theorem ZuG{α:Type}{p:α->Bool}{l:List α}{x:α}(h:x∈l)(hp:p x=true):l.any p=true:=List.any_eq_true.2 ⟨x,h,hp⟩
theorem Zn7{α:Type}{p:α->Bool}{l:List α}(h:∀j(hj:j<l.length)(hj2:j<l.length),p l[j]=false):l.any p=false:=List.any_eq_false.2 λx hx=>by
 obtain⟨j,hj,rfl⟩:=List.getElem_of_mem hx
 rw[h j hj hj]
 simp
attribute [local irreducible] OpTo wpListIn Code.wpIn MW Cal
theorem vAG(h:p:=by
  refine Zae rfl rfl rfl λw M=>?_
  exact⟨rtF5 (Zxs hlt_j hx0.symm Qh),M.ext⟩):p:=h
theorem vCc(h:p:=by
  replace h1:=Zaa h1
  refine W3 [20,0,11,0,2] ?_
  refine Zae rfl rfl rfl λw M=>?_
  exact⟨rtF4 (Zxs hlt_i hx0.symm Qi),M.ext⟩):p:=h
theorem Zee(s:RtV)(x:RtX)(hs:IsRt s)(W:World)(h:RtAt W s x):Cal prog 36 [.agg (rtC s x).toArray].toArray W λr w'=>r= .bool (Zaj s)/\Ext [] W w':=by
 obtain⟨v6,v7,v8,v9,v10,v11,v12⟩:=x
 obtain⟨a6,a7,a8,a9,a10,a11,a12⟩:=h
 dsimp only at a6 a7 a8 a9 a10 a11 a12
 obtain⟨q6,c6,rfl,_⟩:=id a6
 obtain⟨q7,c7,rfl,_⟩:=id a7
 obtain⟨q8,c8,rfl,_⟩:=id a8
 obtain⟨q9,c9,rfl,_⟩:=id a9
 obtain⟨q10,c10,rfl,_⟩:=id a10
 obtain⟨q11,c11,rfl,_⟩:=id a11
 obtain⟨q12,c12,rfl,_⟩:=id a12
 obtain⟨i6,i7,i8,i9,i10,i11,i12,iq⟩:=hs
 have m6:=a6.memB [] Q5
 have m7:=a7.memB [] Q5
 have m9:=a9.memB [] Q5
 have m10:=a10.memB [] Q5
 refine yS (n:=193) Tryz.func36 rfl rfl (gQ 2 rfl (Zai rfl rfl λb1=>?_))
 refine W3 [7,0,2] ?_
 refine Zah 14 rfl (λh1=>?_) (λh1=>?_)
 ·replace h1:=dqU h1
  exact gQ 39 rfl (Zae rfl rfl rfl λw M=>⟨rtF0 Qd,M.ext⟩)
 replace h1:=dqV h1
 refine W4 [1,0,0,3] @Zas ?_
 refine Zah 20 rfl (λh2=>?_) (λh2=>?_)
 ·replace h2:=Zaa h2
  exact gQ 33 rfl (Zae rfl rfl rfl λw M=>⟨rtF1 Qd,M.ext⟩)
 replace h2:=Zab h2
 refine W4 [1,0,0,3] @Zas ?_
 refine Zah 26 rfl (λh3=>?_) (λh3=>?_)
 ·replace h3:=Zaa h3
  exact gQ 27 rfl (Zae rfl rfl rfl λw M=>⟨rtF2 Qd,M.ext⟩)
 replace h3:=Zab h3
 refine W4 [1,0,0,3] @Zas ?_
 refine Zah 32 rfl (λh4=>?_) (λh4=>?_)
 ·replace h4:=Zaa h4
  exact gQ 21 rfl (Zae rfl rfl rfl λw M=>⟨rtF3 Qd,M.ext⟩)
 replace h4:=Zab h4
 refine W3 [1,0,4] ?_
 refine Zah 38 rfl (λh5=>?_) (λh5=>?_)
 ·replace h5:=dqU h5
  exact gQ 15 rfl (Zae rfl rfl rfl λw M=>⟨rtF4 (Zxr (n:=8) Q0),M.ext⟩)
 replace h5:=dqV h5
 refine W3 [1,0,5] ?_
 refine g_if rfl (λh6=>?_) (λh6=>?_)
 ·replace h6:=dqU h6
  exact gQ 7 rfl (Zae rfl rfl rfl λw M=>⟨rtF5 (Zxr (n:=16) Q0),M.ext⟩)
 replace h6:=dqV h6
 refine W3 [6,0,5] ?_
 refine Zau (ι:=Nat) ⟨λ(i:Nat)=>s.og.length-i,λ(i:Nat)=>i<=s.og.length/\(∀z,z<i->vld1 (org1 s.self) (Zlt s.self) s.og z=true),λ(i:Nat)=>[(47, .int .i64 i),(46, .int .i64 s.og.length),(45, .slice q6 s.og.length c6),(1, .pointer (some ⟨b1,0,none⟩))],λ(i:Nat)=>[[(b1, .cells (rtS s q6 c6 q7 c7 q8 c8 q9 c9 q10 c10 q11 c11 q12 c12).toArray 53 (0,0))]]⟩ 0 ⟨Q0,Q0⟩ (λa F=>F.only [47,46,45,1] rfl) Qa ?_
 rintro i ⟨hi_i,hv⟩
 by_cases hlt_i:i<s.og.length
 ·obtain⟨b,o,cs,t',fz,rfl,hb,hs⟩:=m6 Q0
  obtain⟨x,hx0⟩:∃x,x=s.og[i]:=⟨_,rfl⟩
  have hxm:x∈s.og:=by rw[hx0];exact List.getElem_mem hlt_i
  have hxi:IsOg x:=i6 _ hxm
  have f1:seg cs (o+(i:Int).toNat*34) 34=some (ogC x):=by rw[hx0];exact Zal (ZdF i6) hs hlt_i Q0
  replace hx0:=hx0.symm
  have xd:IsDv (orgD s.self x):=hxi
  by_cases hi0:0<i
  ·obtain⟨y,hy0⟩:∃y,y=s.og[i-1]'Q0:=⟨_,rfl⟩
   have yI:IsOg y:=by rw[hy0];exact i6 _ (List.getElem_mem _)
   have f2:seg cs (o+((i:Int)-1).toNat*34) 34=some (ogC y):=by rw[hy0];exact Zal (ZdF i6) hs (show i-1<s.og.length by omega) Q0
   replace hy0:=hy0.symm
   have yd:IsDv (orgD s.self y):=yI
   refine W3 [6,0,7,0,0] ?_
   refine Zac λb4=>?_
   refine W4 [1,0,3,1027,1,0,0,0,0,2] (T2 @Zhh @ZaM) ?_
   refine ZbQ 58 rfl (λh1=>?_) (λh1=>?_)
   ·exact vCc
   ·replace h1:=Zab h1
    refine W4 [3,0,1,0,1,0,1,0,0,0,0,1,0,0,0,0,3,0,2] (T2 @Zhh @ZaR) ?_
    refine g_if rfl (λh2=>?_) (λh2=>?_)
    ·replace h2:=dqU h2
     refine W3 [8,0,2] ?_
     exact Zae rfl rfl rfl λw M=>⟨rtF4 (Zxq hlt_i hi0 hx0.symm hy0.symm (by unfold Zlt;omega)),M.ext⟩
    ·exact vC4
  ·refine W3 [6,0,7,0,0] ?_
   refine Zac λb4=>?_
   refine W4 [1,0,3,1027,1,0,0,0,0,2] (T2 @Zhh @ZaM) ?_
   refine ZbQ 58 rfl (λh1=>?_) (λh1=>?_)
   ·exact vCc
   ·replace h1:=Zab h1
    refine W3 [3,0,17,0,7,0,2] ?_
    exact yN (i+1) ⟨Q0,vl_N hlt_i hx0.symm hv Qi λh=>absurd h hi0⟩
 ·have hil:i=s.og.length:=by omega
  rw[hil] at hv
  have e4:=Zxp (n:=8) Q0 hv
  clear hv
  refine W3 [6,0,2,0,6,0,5] ?_
  refine Zau (ι:=Nat) ⟨λ(j:Nat)=>s.aj.length-j,λ(j:Nat)=>j<=s.aj.length/\(∀z,z<j->vld1 (adj1 s.self) ZiA s.aj z=true),λ(j:Nat)=>[(83, .int .i64 j),(82, .int .i64 s.aj.length),(81, .slice q7 s.aj.length c7),(1, .pointer (some ⟨b1,0,none⟩))],λ(j:Nat)=>[[(b1, .cells (rtS s q6 c6 q7 c7 q8 c8 q9 c9 q10 c10 q11 c11 q12 c12).toArray 53 (0,0))]]⟩ 0 ⟨Q0,Q0⟩ (λa F=>F.only [83,82,81,1] rfl) Qa ?_
  rintro j ⟨hi_j,hv⟩
  by_cases hlt_j:j<s.aj.length
  ·obtain⟨b,o,cs,t',fz,rfl,hb,hs⟩:=m7 Q0
   obtain⟨x,hx0⟩:∃x,x=s.aj[j]:=⟨_,rfl⟩
   have hxm:x∈s.aj:=by rw[hx0];exact List.getElem_mem hlt_j
   have hxi:IsAj x:=i7 _ hxm
   have f1:seg cs (o+(j:Int).toNat*8) 8=some (ajC x):=by rw[hx0];exact Zal (ZdI i7) hs hlt_j Q0
   replace hx0:=hx0.symm
   have hbq:=iq _ hxm
   refine W3 [6,0,7,0,0] ?_
   refine Zac λb6=>?_
   refine W3 [1,0,6,0,2] ?_
   refine Zah 91 rfl (λh1=>?_) (λh1=>?_)
   ·replace h1:=dqU h1
    refine W3 [42,0,2] ?_
    exact vAG
   replace h1:=dqV h1
   refine W3 [1,0,1,0,3] ?_
   refine Zah 98 rfl (λh2=>?_) (λh2=>?_)
   ·replace h2:=dqU h2
    refine W3 [35,0,2] ?_
    exact vAG
   replace h2:=dqV h2
   refine W4 [1,0,0,3] @Zh1 ?_
   refine Zah 104 rfl (λh3=>?_) (λh3=>?_)
   ·replace h3:=Zaa h3
    refine W3 [29,0,2] ?_
    exact vAG
   replace h3:=Zab h3
   refine W3 [2,0,3] ?_
   refine Zah 110 rfl (λh4=>?_) (λh4=>?_)
   ·replace h4:=Zaa h4
    refine W3 [23,0,2] ?_
    exact vAG
   replace h4:=Zab h4
   refine W4 [1,0,0,3] @Zas ?_
   refine Zah 116 rfl (λh5=>?_) (λh5=>?_)
   ·replace h5:=Zaa h5
    refine W3 [17,0,2] ?_
    exact vAG
   replace h5:=Zab h5
   refine W4 [1,0,0,4] @Zas ?_
   refine g_if rfl (λh6=>?_) (λh6=>?_)
   ·replace h6:=Zaa h6
    refine W3 [9,0,2] ?_
    exact vAG
   replace h6:=Zab h6
   refine gQ 2 rfl ?_
   by_cases hi0:0<j
   ·obtain⟨y,hy0⟩:∃y,y=s.aj[j-1]'Q0:=⟨_,rfl⟩
    have yI:IsAj y:=by rw[hy0];exact i7 _ (List.getElem_mem _)
    have f2:seg cs (o+((j:Int)-1).toNat*8) 8=some (ajC y):=by rw[hy0];exact Zal (ZdI i7) hs (show j-1<s.aj.length by omega) Q0
    replace hy0:=hy0.symm
    refine W3 [1,1014,3,0,1,0,1,0,0,1] ?_
    refine Zjq rfl Qd (Zcr f2 (Zo0 Qd) Q0) ?_
    refine W3 [1,0,2,0,2] ?_
    refine g_if rfl (λh1=>?_) (λh1=>?_)
    ·replace h1:=dqU h1
     refine W3 [8,0,2] ?_
     exact Zae rfl rfl rfl λw M=>⟨rtF5 (Zxq hlt_j hi0 hx0.symm hy0.symm (by unfold ZiA;omega)),M.ext⟩
    ·replace h1:=dqV h1
     refine W3 [4,0,2] ?_
     exact yN (j+1) ⟨Q0,vl_N hlt_j hx0.symm hv Qh λ_=>by rw[hy0];exact(by unfold ZiA;omega)⟩
   ·refine W3 [1,1014,3,0,11,0,7,0,2] ?_
    exact yN (j+1) ⟨Q0,vl_N hlt_j hx0.symm hv Qh λh=>absurd h hi0⟩
  ·have hil:j=s.aj.length:=by omega
   rw[hil] at hv
   have e5:=Zxp (n:=16) Q0 hv
   clear hv
   refine W4 [6,0,2,0,6,0,0,2] @ZaO ?_
   refine Zah 141 rfl (λh1=>?_) (λh1=>?_)
   ·replace h1:=Zaa h1
    exact gQ 33 rfl (Zae rfl rfl rfl λw M=>⟨rtF6 Qd,M.ext⟩)
   replace h1:=Zab h1
   refine W4 [1,0,0,3] @ZaN ?_
   refine Zah 147 rfl (λh2=>?_) (λh2=>?_)
   ·replace h2:=Zaa h2
    exact gQ 27 rfl (Zae rfl rfl rfl λw M=>⟨rtF7 Qd,M.ext⟩)
   replace h2:=Zab h2
   refine W4 [1,0,0,3] @Zct ?_
   refine Zah 153 rfl (λh3=>?_) (λh3=>?_)
   ·replace h3:=Zaa h3
    exact gQ 21 rfl (Zae rfl rfl rfl λw M=>⟨rtF8 Qd,M.ext⟩)
   replace h3:=Zab h3
   refine W4 [1,0,0,3] @Zbf ?_
   refine Zah 159 rfl (λh4=>?_) (λh4=>?_)
   ·replace h4:=Zaa h4
    exact gQ 15 rfl (Zae rfl rfl rfl λw M=>⟨rtF9 Qd,M.ext⟩)
   replace h4:=Zab h4
   refine W4 [1,0,0,4] @Zm7 ?_
   refine g_if rfl (λh5=>?_) (λh5=>?_)
   ·replace h5:=Zaa h5
    exact gQ 7 rfl (Zae rfl rfl rfl λw M=>⟨ZxN Qd,M.ext⟩)
   replace h5:=Zab h5
   refine W3 [6,0,5] ?_
   have l9:s.ro.length<=1000:=ZhQ Qd
   have l10:s.ins.length<=1000:=ZhR Qd
   refine Zau (ι:=Nat) ⟨λ(k:Nat)=>s.ro.length-k,λ(k:Nat)=>k<=s.ro.length/\(∀j(hj:j<k)(hj2:j<s.ro.length),(λx:RouV=>decide (x.to.rt=s.self)) s.ro[j]=false),λ(k:Nat)=>[(168, .int .i64 k),(167, .int .i64 s.ro.length),(166, .slice q9 s.ro.length c9),(1, .pointer (some ⟨b1,0,none⟩))],λ(k:Nat)=>[[(b1, .cells (rtS s q6 c6 q7 c7 q8 c8 q9 c9 q10 c10 q11 c11 q12 c12).toArray 53 (0,0))]]⟩ 0 ⟨Q0,Q0⟩ (λa F=>F.only [168,167,166,1] rfl) Qa ?_
   rintro k ⟨hi_k,hno⟩
   by_cases hlt_k:k<s.ro.length
   ·obtain⟨b,o,cs,t',fz,rfl,hb,hs⟩:=m9 Q0
    obtain⟨x,hx0⟩:∃x,x=s.ro[k]:=⟨_,rfl⟩
    have hxm:x∈s.ro:=by rw[hx0];exact List.getElem_mem hlt_k
    have hxi:IsRo x:=i9 _ hxm
    have f1:seg cs (o+(k:Int).toNat*39) 39=some (roC x):=by rw[hx0];exact Zal (Zbw i9) hs hlt_k Q0
    have hx0s:=hx0.symm
    refine W3 [6,0,6,0,0] ?_
    refine Zac λb8=>?_
    refine W3 [0,6,0,1,0,3] ?_
    refine g_if rfl (λh1=>?_) (λh1=>?_)
    ·replace h1:=dqU h1
     refine W3 [8,0,2] ?_
     exact Zae rfl rfl rfl λw M=>⟨ZxM (ZuG hxm (dqT Qd)),M.ext⟩
    ·replace h1:=dqV h1
     refine W3 [4,0,2] ?_
     exact yN (k+1) ⟨Q0,Zwi (p:=λx:RouV=>decide (x.to.rt=s.self)) hlt_k hno (by rw[hx0s];exact dqF Qd)⟩
   ·have hil:k=s.ro.length:=by omega
    rw[hil] at hno
    have e11:=Zn7 (p:=λx:RouV=>decide (x.to.rt=s.self)) hno
    clear hno
    refine W3 [6,0,2,0,6,0,5] ?_
    refine Zau (ι:=Nat) ⟨λ(m:Nat)=>s.ins.length-m,λ(m:Nat)=>m<=s.ins.length/\(∀j(hj:j<m)(hj2:j<s.ins.length),(λx:InsV=>decide (x.to.rt=s.self)) s.ins[j]=false),λ(m:Nat)=>[(182, .int .i64 m),(181, .int .i64 s.ins.length),(180, .slice q10 s.ins.length c10),(1, .pointer (some ⟨b1,0,none⟩))],λ(m:Nat)=>[[(b1, .cells (rtS s q6 c6 q7 c7 q8 c8 q9 c9 q10 c10 q11 c11 q12 c12).toArray 53 (0,0))]]⟩ 0 ⟨Q0,Q0⟩ (λa F=>F.only [182,181,180,1] rfl) Qa ?_
    rintro m ⟨hi_m,hno⟩
    by_cases hlt_m:m<s.ins.length
    ·obtain⟨b,o,cs,t',fz,rfl,hb,hs⟩:=m10 Q0
     obtain⟨x,hx0⟩:∃x,x=s.ins[m]:=⟨_,rfl⟩
     have hxm:x∈s.ins:=by rw[hx0];exact List.getElem_mem hlt_m
     have hxi:IsIn x:=i10 _ hxm
     have f1:seg cs (o+(m:Int).toNat*40) 40=some (inC x):=by rw[hx0];exact Zal (ZbU i10) hs hlt_m Q0
     have hx0s:=hx0.symm
     refine W3 [6,0,6,0,0] ?_
     refine Zac λb10=>?_
     refine W3 [0,6,0,1,0,3] ?_
     refine g_if rfl (λh1=>?_) (λh1=>?_)
     ·replace h1:=dqU h1
      refine W3 [8,0,2] ?_
      exact Zae rfl rfl rfl λw M=>⟨ZzP (ZuG hxm (dqT Qd)),M.ext⟩
     ·replace h1:=dqV h1
      refine W3 [4,0,2] ?_
      exact yN (m+1) ⟨Q0,Zwi (p:=λx:InsV=>decide (x.to.rt=s.self)) hlt_m hno (by rw[hx0s];exact dqF Qd)⟩
    ·have hil:m=s.ins.length:=by omega
     rw[hil] at hno
     have e12:=Zn7 (p:=λx:InsV=>decide (x.to.rt=s.self)) hno
     clear hno
     refine W3 [6,0,2,0,8] ?_
     exact Zae rfl rfl rfl λw M=>⟨(rtL Qd Qd Qd Qd e4 e5 Qd Qd Qd Qd Qd e11)▸(by rw[e12];rfl),M.ext⟩
end
section
attribute [local irreducible] OpTo wpListIn Code.wpIn MW Cal
def optA(a:AdjV):OptV:=⟨a.nb,Zhr a.q⟩
def Zb9(l:List AdjV):List OptV:=l.map optA
theorem Zju{l:List AdjV}(h:i<l.length){x:AdjV}(hx:x=l[i]):Zb9 (l.take (i+1))=Zb9 (l.take i)++[⟨x.nb,Zhr x.q⟩]:=by
 unfold Zb9
 rw[hx,List.take_succ_eq_append_getElem h,List.map_append]
 rfl
theorem Zye(a b:Int):ZaD [(0,1),(1,1)] opZ [(0,[.int .u64 a]),(1,[.int .i64 b])]=some (opC ⟨a,b⟩):=rfl
theorem vB0(h:p:=by
  refine fd_v (λa w F M R r=>Zaq F rfl (Zye _ _) r) (Zmy rfl rfl rfl (Zh7 Qd) (λb20=>?_))
  refine ZaY 2 0 (enc:=opC) rfl rfl Qd rfl rfl (Zfi Qd) Q4 (λ_=>rfl) (λv21 es21 hO21=>?_) (Ze6 _)
  refine W3 [5,0,2] ?_
  exact yN (i+1,_,_) ⟨by dsimp only;omega,by dsimp only;rw[hst];assumption⟩):p:=h
theorem vC7(h:p:=by
  have hil:i=s.aj.length:=by omega
  rw[hil,List.take_length] at hOs
  refine W3 [6,0,2,0,9] ?_
  exact Zae rfl rfl rfl λw M=>⟨_,hOs,M.sub Q5⟩):p:=h
theorem ZsT(s:RtV)(x:RtX)(hs:IsRt s)(hl:s.aj.length<=16)(W:World)(h:RtAt W s x):Cal prog 118 [.agg (rtC s x).toArray].toArray W λr w'=>∃ent,OwnS 96 2 r (Zb9 s.aj).length (opsC (Zb9 s.aj)) ent/\Mem [] W w' ent:=by
 obtain⟨v6,v7,v8,v9,v10,v11,v12⟩:=x
 obtain⟨a6,a7,a8,a9,a10,a11,a12⟩:=h
 dsimp only at a6 a7 a8 a9 a10 a11 a12
 obtain⟨q6,c6,rfl,_⟩:=id a6
 obtain⟨q7,c7,rfl,_⟩:=id a7
 obtain⟨q8,c8,rfl,_⟩:=id a8
 obtain⟨q9,c9,rfl,_⟩:=id a9
 obtain⟨q10,c10,rfl,_⟩:=id a10
 obtain⟨q11,c11,rfl,_⟩:=id a11
 obtain⟨q12,c12,rfl,_⟩:=id a12
 obtain⟨i6,i7,i8,i9,i10,i11,i12,iq⟩:=hs
 have m7:=a7.memB [] Q5
 refine yS (n:=24) Tryz.func118 rfl rfl (gQ 2 rfl (Zai rfl rfl λb1=>?_))
 refine W3 [12,0,5] ?_
 refine Zba (Zau (ι:=Nat×Value×EN) ⟨λ(i,u,es)=>s.aj.length-i,λ(i,u,es)=>i<=s.aj.length/\(OwnS 96 2 u (Zb9 (s.aj.take i)).length (opsC (Zb9 (s.aj.take i))) es),λ(i,u,es)=>[(9, .int .i64 i),(8, .int .i64 s.aj.length),(7, .slice q7 s.aj.length c7),(3,u)],λ(i,u,es)=>[es]⟩ (0,_,[]) ⟨Q0,OwnS.nilL _ _ _⟩ (λa F=>F.only [9,8,7,3] rfl) Qa ?_)
 rintro⟨i,u,es⟩ ⟨hi_i,hOs⟩
 dsimp only
 by_cases hlt_i:i<s.aj.length
 ·obtain⟨b,o,cs,t',fz,rfl,hb,hs⟩:=m7 Q0
  obtain⟨x,hx0⟩:∃x,x=s.aj[i]:=⟨_,rfl⟩
  have hxm:x∈s.aj:=by rw[hx0];exact List.getElem_mem hlt_i
  have hxi:IsAj x:=i7 _ hxm
  have f1:seg cs (o+(i:Int).toNat*8) 8=some (ajC x):=by rw[hx0];exact Zal (ZdI i7) hs hlt_i Q0
  have hbq:=iq _ hxm
  have hol:(Zb9 (s.aj.take i)).length<=i:=by unfold Zb9;rw[List.length_map,List.length_take];omega
  have hst:=Zju hlt_i hx0
  refine W3 [6,0,6,0,0] ?_
  refine Zac λb5=>?_
  refine W4 [0,2,1008,2,0,1,0,0] @ZvF ?_
  exact vB0
 ·exact vC7
theorem Zss(s:RtV)(x:RtX)(hs:IsRt s)(hl:s.aj.length<=16)(W:World)(h:RtAt W s x):Cal prog 119 [.agg (rtC s x).toArray].toArray W λr w'=>∃ent,OwnS 96 2 r (Zb9 s.aj).length (opsC (Zb9 s.aj)) ent/\Mem [] W w' ent:=by
 obtain⟨v6,v7,v8,v9,v10,v11,v12⟩:=x
 obtain⟨a6,a7,a8,a9,a10,a11,a12⟩:=h
 dsimp only at a6 a7 a8 a9 a10 a11 a12
 obtain⟨q6,c6,rfl,_⟩:=id a6
 obtain⟨q7,c7,rfl,_⟩:=id a7
 obtain⟨q8,c8,rfl,_⟩:=id a8
 obtain⟨q9,c9,rfl,_⟩:=id a9
 obtain⟨q10,c10,rfl,_⟩:=id a10
 obtain⟨q11,c11,rfl,_⟩:=id a11
 obtain⟨q12,c12,rfl,_⟩:=id a12
 obtain⟨i6,i7,i8,i9,i10,i11,i12,iq⟩:=hs
 have m7:=a7.memB [] Q5
 refine yS (n:=24) Tryz.func119 rfl rfl (gQ 2 rfl (Zai rfl rfl λb1=>?_))
 refine W3 [12,0,5] ?_
 refine Zba (Zau (ι:=Nat×Value×EN) ⟨λ(i,u,es)=>s.aj.length-i,λ(i,u,es)=>i<=s.aj.length/\(OwnS 96 2 u (Zb9 (s.aj.take i)).length (opsC (Zb9 (s.aj.take i))) es),λ(i,u,es)=>[(9, .int .i64 i),(8, .int .i64 s.aj.length),(7, .slice q7 s.aj.length c7),(3,u)],λ(i,u,es)=>[es]⟩ (0,_,[]) ⟨Q0,OwnS.nilL _ _ _⟩ (λa F=>F.only [9,8,7,3] rfl) Qa ?_)
 rintro⟨i,u,es⟩ ⟨hi_i,hOs⟩
 dsimp only
 by_cases hlt_i:i<s.aj.length
 ·obtain⟨b,o,cs,t',fz,rfl,hb,hs⟩:=m7 Q0
  obtain⟨x,hx0⟩:∃x,x=s.aj[i]:=⟨_,rfl⟩
  have hxm:x∈s.aj:=by rw[hx0];exact List.getElem_mem hlt_i
  have hxi:IsAj x:=i7 _ hxm
  have f1:seg cs (o+(i:Int).toNat*8) 8=some (ajC x):=by rw[hx0];exact Zal (ZdI i7) hs hlt_i Q0
  have hbq:=iq _ hxm
  have hol:(Zb9 (s.aj.take i)).length<=i:=by unfold Zb9;rw[List.length_map,List.length_take];omega
  have hst:=Zju hlt_i hx0
  refine W3 [6,0,6,0,0] ?_
  refine Zac λb5=>?_
  refine W4 [0,2,1008,2,0,1,0,0] @Zsi ?_
  exact vB0
 ·exact vC7
theorem Zlx(t:DstV)(h:IsDv t)(d:DisV):ZaD [(0,35),(35,2)] avZ [(0,dvC t),(1,diC d)]=some (avC ⟨t,d⟩):=Zn5 (o:=⟨t,d⟩) ⟨h,trivial⟩
theorem Zrq(a:Int):ZaD [(0,1),(1,1)] diZ [(0,[.int .u16 a])]=some (diC ⟨a,0⟩):=rfl
def insA(x:InsV):AdvV:=⟨x.to,x.own⟩
def orgA(s:RtV)(o:OrgV):AdvV:=⟨orgD s.self o,⟨s.seq,0⟩⟩
def mgA(a b:List AdvV):List AdvV:=a.merge b λx y=>decide (cmpD x.to y.to<0)
theorem Zmf(b:List AdvV):mgA [] b=b:=List.nil_merge ..
theorem Zgp(a:List AdvV):mgA a []=a:=List.merge_right ..
theorem Zqx{x y:AdvV}{a b:List AdvV}(h:cmpD x.to y.to<0):mgA (x::a) (y::b)=x::mgA a (y::b):=by
 unfold mgA
 rw[List.cons_merge_cons_pos _ _ _ (dqT h)]
theorem Zqy{x y:AdvV}{a b:List AdvV}(h:¬cmpD x.to y.to<0):mgA (x::a) (y::b)=y::mgA (x::a) b:=by
 unfold mgA
 rw[List.cons_merge_cons_neg _ _ _ (by simpa using h)]
theorem ZqA{z:AdvV}{a b:List AdvV}:z∈mgA a b↔z∈a∨z∈b:=List.mem_merge
theorem Zmg:∀(n:Nat)(a b:List AdvV),a.length+b.length=n->AscA a->AscA b->(∀x∈a,∀y∈b,cmpD x.to y.to≠0)->AscA (mgA a b)
 | _,[],b,_,_,hb,_=>by rw[Zmf];exact hb
 | _,x::a,[],_,ha,_,_=>by rw[Zgp];exact ha
 |0,x::a,y::b,hn,_,_,_=>by simp at hn
 |n+1,x::a,y::b,hn,ha,hb,hne=>by
  obtain⟨ha1,ha2⟩:=List.pairwise_cons.1 ha
  obtain⟨hb1,hb2⟩:=List.pairwise_cons.1 hb
  by_cases h:cmpD x.to y.to<0
  ·rw[Zqx h]
   refine List.pairwise_cons.2 ⟨λz hz=>?_,Zmg n a (y::b) (by simp at hn⊢;omega) ha2 hb λp hp q hq=>hne p (List.mem_cons_of_mem _ hp) q hq⟩
   rcases ZqA.1 hz with h1|h1
   ·exact ha1 z h1
   ·rcases List.mem_cons.1 h1 with rfl|h1
    ·exact h
    ·exact Za6 h (hb1 z h1)
  ·rw[Zqy h]
   have h2:cmpD y.to x.to<0:=by
    have:=ZbJ x.to y.to
    have:=hne x List.mem_cons_self y List.mem_cons_self
    omega
   refine List.pairwise_cons.2 ⟨λz hz=>?_,Zmg n (x::a) b (by simp at hn⊢;omega) ha hb2 λp hp q hq=>hne p hp q (List.mem_cons_of_mem _ hq)⟩
   rcases ZqA.1 hz with h1|h1
   ·rcases List.mem_cons.1 h1 with rfl|h1
    ·exact h2
    ·exact Za6 h2 (ha1 z h1)
   ·exact hb1 z h1
def annV(s:RtV):List AdvV:=mgA (s.og.map (orgA s)) (s.ins.map insA)
def annR(s:RtV)(j i:Nat):List AdvV:=mgA ((s.og.drop j).map (orgA s)) ((s.ins.drop i).map insA)
theorem ZtE{s:RtV}(hi:i<s.ins.length)(hx:s.ins[i]=x)(hj:j<s.og.length)(hy:s.og[j]=y)(h:cmpD (orgD s.self y) x.to<0):annR s j i=orgA s y::annR s (j+1) i:=by
 unfold annR
 rw[List.drop_eq_getElem_cons hj,List.drop_eq_getElem_cons hi,List.map_cons,List.map_cons,hx,hy]
 exact Zqx h
theorem ZtG{s:RtV}(hi:i<s.ins.length)(hx:s.ins[i]=x)(hj:j<s.og.length)(hy:s.og[j]=y)(h:¬cmpD (orgD s.self y) x.to<0):annR s j i=⟨x.to,x.own⟩::annR s j (i+1):=by
 unfold annR
 rw[List.drop_eq_getElem_cons hj,List.drop_eq_getElem_cons hi,List.map_cons,List.map_cons,hx,hy]
 exact Zqy h
theorem ZrK{s:RtV}(hi:i<s.ins.length)(hx:s.ins[i]=x)(hj:s.og.length<=j):annR s j i=⟨x.to,x.own⟩::annR s j (i+1):=by
 unfold annR
 rw[List.drop_eq_nil_of_le hj,List.drop_eq_getElem_cons hi,List.map_nil,Zmf,Zmf,List.map_cons,hx]
 rfl
theorem ZtF{s:RtV}(hj:j<s.og.length)(hy:s.og[j]=y):annR s j s.ins.length=orgA s y::annR s (j+1) s.ins.length:=by
 unfold annR
 rw[List.drop_length,List.map_nil,Zgp,Zgp,List.drop_eq_getElem_cons hj,List.map_cons,hy]
theorem Zw8{s:RtV}(hj:s.og.length<=j):annR s j s.ins.length=[]:=by
 unfold annR
 rw[List.drop_length,List.map_nil,Zgp,List.drop_eq_nil_of_le hj]
 rfl
theorem Zkx{T out r:List AdvV}{x:AdvV}{r':List AdvV}(h:out++r=T)(hr:r=x::r'):(out++[x])++r'=T:=by rw[<-h,hr,List.append_assoc];rfl
theorem vAH(h:p:=by
  refine g_v (λa w F M R r=>Zaq F rfl (Zlx _ Qd _) r) ?_
  refine g_bs rfl rfl rfl (ZbS Qd) (λb56=>?_)
  refine ZaY 2 0 (enc:=avC) rfl rfl Qd rfl rfl (Zcy Qd) Q4 (λ_=>rfl) (λv57 es57 hO57=>?_) (Zco _)
  refine W3 [5,0,2] ?_
  exact yN (i+1,j,out++[⟨x.to,x.own⟩],_,_) ⟨by dsimp only;omega,hj,by assumption,Zkx hT he,by simp;omega⟩):p:=h
theorem Zhi(s:RtV)(x:RtX)(hs:IsRt s)(hlo:s.og.length<=8)(hli:s.ins.length<=512)(W:World)(h:RtAt W s x):Cal prog 121 [.agg (rtC s x).toArray].toArray W λr w'=>∃ent,OwnS 100 37 r (annV s).length (avsC (annV s)) ent/\Mem [] W w' ent:=by
 obtain⟨v6,v7,v8,v9,v10,v11,v12⟩:=x
 obtain⟨a6,a7,a8,a9,a10,a11,a12⟩:=h
 dsimp only at a6 a7 a8 a9 a10 a11 a12
 obtain⟨q6,c6,rfl,_⟩:=id a6
 obtain⟨q7,c7,rfl,_⟩:=id a7
 obtain⟨q8,c8,rfl,_⟩:=id a8
 obtain⟨q9,c9,rfl,_⟩:=id a9
 obtain⟨q10,c10,rfl,_⟩:=id a10
 obtain⟨q11,c11,rfl,_⟩:=id a11
 obtain⟨q12,c12,rfl,_⟩:=id a12
 obtain⟨i6,i7,i8,i9,i10,i11,i12,iq⟩:=hs
 have m6:=a6.memB [] Q5
 have m10:=a10.memB [] Q5
 refine yS (n:=82) Tryz.func121 rfl rfl (gQ 2 rfl (Zai rfl rfl λb1=>?_))
 refine W3 [17,0,5] ?_
 refine Zba ?_
 refine Zau (ι:=Nat×Nat×(List AdvV)×Value×EN) ⟨λ(i,j,out,u,es)=>s.ins.length-i,λ(i,j,out,u,es)=>i<=s.ins.length/\(j<=s.og.length)/\(OwnS 100 37 u (out).length (avsC (out)) es)/\(out++annR s j i=annV s)/\(out.length=i+j),λ(i,j,out,u,es)=>[(10, .int .i64 i),(9, .int .i64 s.ins.length),(8, .slice q10 s.ins.length c10),(3,u),(4, .int .i64 j),(1, .pointer (some ⟨b1,0,none⟩))],λ(i,j,out,u,es)=>[es,[(b1, .cells (rtS s q6 c6 q7 c7 q8 c8 q9 c9 q10 c10 q11 c11 q12 c12).toArray 53 (0,0))]]⟩ (0,0,[],_,[]) ⟨Q0,Q0,OwnS.nilL _ _ _,rfl,rfl⟩ (λa F=>F.only [10,9,8,3,4,1] rfl) Qa ?_
 rintro⟨i,j,out,u,es⟩ ⟨hi_i,hj,hOs,hT,hol⟩
 dsimp only
 by_cases hlt_i:i<s.ins.length
 ·obtain⟨b,o,cs,t',fz,rfl,hb,hs⟩:=m10 Q0
  obtain⟨x,hx0⟩:∃x,x=s.ins[i]:=⟨_,rfl⟩
  have hxm:x∈s.ins:=by rw[hx0];exact List.getElem_mem hlt_i
  have hxi:IsIn x:=i10 _ hxm
  have f1:seg cs (o+(i:Int).toNat*40) 40=some (inC x):=by rw[hx0];exact Zal (ZbU i10) hs hlt_i Q0
  replace hx0:=hx0.symm
  have xd:IsDv x.to:=hxi.1
  refine W3 [6,0,6,0,0] ?_
  refine Zac λb6=>?_
  refine W3 [0,4] ?_
  refine Zau (ι:=Nat×(List AdvV)×Value×EN) ⟨λ(j,out,u,es)=>s.og.length-j,λ(j,out,u,es)=>j<=s.og.length/\OwnS 100 37 u (out).length (avsC (out)) es/\out++annR s j i=annV s/\out.length=i+j,λ(j,out,u,es)=>[(10, .int .i64 i),(9, .int .i64 s.ins.length),(8, .slice (some ⟨b,o,none⟩) s.ins.length c10),(6, .pointer (some ⟨b6,0,none⟩)),(3,u),(4, .int .i64 j),(1, .pointer (some ⟨b1,0,none⟩))],λ(j,out,u,es)=>[[(b6, .cells (inC x).toArray 74 (0,0))],es,[(b1, .cells (rtC s ⟨.slice q6 s.og.length c6, .slice q7 s.aj.length c7, .slice q8 s.sr.length c8, .slice q9 s.ro.length c9, .slice (some ⟨b,o,none⟩) s.ins.length c10, .slice q11 s.rq.length c11, .slice q12 s.av.length c12⟩).toArray 53 (0,0))]]⟩ (j,out,u,es) ⟨hj,hOs,hT,hol⟩ (λa F=>F.only [10,9,8,6,3,4,1] rfl) Qa ?_
  clear hj hOs hT hol
  rintro⟨j,out,u,es⟩ ⟨hj,hOs,hT,hol⟩
  dsimp only at hj hOs hT hol⊢
  by_cases hlj:j<s.og.length
  ·have hj8:j<8:=by omega
   obtain⟨bo,oo,cso,t'o,fzo,rfl,hbo,hso⟩:=m6 Q0
   obtain⟨y,hy0⟩:∃y,s.og[j]=y:=⟨_,rfl⟩
   have yI:IsOg y:=by rw[<-hy0];exact i6 _ (List.getElem_mem _)
   have yd:IsDv (orgD s.self y):=yI
   have f2:seg cso (oo+(j:Int).toNat*34) 34=some (ogC y):=by rw[<-hy0];exact Zal (ZdF i6) hso hlj Q0
   have hjt:decide ((j:Int)<(s.og.length:Int))=true:=dqT Q0
   by_cases hc:cmpD (orgD s.self y) x.to<0
   ·have hct:=dqT hc
    refine W4 [2,1019,2,0,3,0,1,0,1,0,1,0,0,0,1,0,0,2,0,2,0,4,1014,2,0,1,0,1,0,0,0,1,0] (T2 @Zhh @ZaR) ?_
    refine fd_v (λa w F M R r=>Zaq F rfl (Zrq _) r) (fd_v (λa w F M R r=>Zaq F rfl (Zlx _ Qd _) r) ?_)
    refine Zmy rfl rfl rfl (ZbS ⟨by assumption,trivial⟩) (λb46=>?_)
    refine ZaY 2 0 (enc:=avC) rfl rfl Qd rfl rfl (Zcy ⟨by assumption,trivial⟩) Q4 (λ_=>rfl) (λv47 es47 hO47=>?_) (Zco _)
    refine W3 [5,0,3] ?_
    exact yN (j+1,out++[orgA s y],_,_) ⟨by dsimp only;omega,by assumption,Zkx hT (ZtE hlt_i hx0 hlj hy0 hc),by simp;omega⟩
   ·have hcf:=dqF hc
    have he:=ZtG hlt_i hx0 hlj hy0 hc
    refine W4 [2,1019,2,0,3,0,1,0,1,0,1,0,0,0,1,0,0,2,0,2,0,2,0,5,0,1,0] (T2 @Zhh @ZaR) ?_
    exact vAH
  ·have hjf:decide ((j:Int)<(s.og.length:Int))=false:=dqF Q0
   have he:=ZrK hlt_i hx0 (show s.og.length<=j by omega)
   refine W3 [2,1019,2,0,3,0,13,0,5,0,5,0,1,0] ?_
   exact vAH
 ·have hil:i=s.ins.length:=by omega
  rw[hil] at hT hol
  refine W3 [6,0,2,0,4] ?_
  refine Zau (ι:=Nat×(List AdvV)×Value×EN) ⟨λ(j,out,u,es)=>s.og.length-j,λ(j,out,u,es)=>j<=s.og.length/\OwnS 100 37 u (out).length (avsC (out)) es/\out++annR s j s.ins.length=annV s/\out.length=s.ins.length+j,λ(j,out,u,es)=>[(3,u),(4, .int .i64 j),(1, .pointer (some ⟨b1,0,none⟩))],λ(j,out,u,es)=>[es,[(b1, .cells (rtS s q6 c6 q7 c7 q8 c8 q9 c9 q10 c10 q11 c11 q12 c12).toArray 53 (0,0))]]⟩ (j,out,u,es) ⟨hj,hOs,hT,hol⟩ (λa F=>F.only [3,4,1] rfl) Qa ?_
  clear hj hOs hT hol
  rintro⟨j,out,u,es⟩ ⟨hj,hOs,hT,hol⟩
  dsimp only at hj hOs hT hol⊢
  by_cases hlj:j<s.og.length
  ·have hj8:j<8:=by omega
   obtain⟨bo,oo,cso,t'o,fzo,rfl,hbo,hso⟩:=m6 Q0
   obtain⟨y,hy0⟩:∃y,s.og[j]=y:=⟨_,rfl⟩
   have yI:IsOg y:=by rw[<-hy0];exact i6 _ (List.getElem_mem _)
   have yd:IsDv (orgD s.self y):=yI
   have f2:seg cso (oo+(j:Int).toNat*34) 34=some (ogC y):=by rw[<-hy0];exact Zal (ZdF i6) hso hlj Q0
   have hjt:decide ((j:Int)<(s.og.length:Int))=true:=dqT Q0
   refine W4 [5,0,4,0,4,1014,2,0,1,0,1,0,0,0,1,0] @Zhh ?_
   refine fd_v (λa w F M R r=>Zaq F rfl (Zrq _) r) (fd_v (λa w F M R r=>Zaq F rfl (Zlx _ Qd _) r) ?_)
   refine Zmy rfl rfl rfl (ZbS ⟨by assumption,trivial⟩) (λb77=>?_)
   refine ZaY 1 0 (enc:=avC) rfl rfl Qd rfl rfl (Zcy ⟨by assumption,trivial⟩) Q4 (λ_=>rfl) (λv78 es78 hO78=>?_) (Zco _)
   refine W3 [5,0,3] ?_
   exact yN (j+1,out++[orgA s y],_,_) ⟨by dsimp only;omega,by assumption,Zkx hT (ZtF hlj hy0),by simp;omega⟩
  ·have hjf:decide ((j:Int)<(s.og.length:Int))=false:=dqF Q0
   rw[Zw8 Q0,List.append_nil] at hT
   rw[hT] at hOs
   refine W3 [5,0,4,0,2,0,9] ?_
   exact Zae rfl rfl rfl λw M=>⟨_,hOs,M.sub (List.sublist_append_left _ _)⟩
end
section
theorem Zwt{c:Cx}{Q:Exit->Act->World->Prop}{ks:List KF}{fr:FN}{l:Row}{all:Array Oper}{rest:List Oper}{d:Nat}{ty:TypeId}{pos:String}{af:Array Edge}{g:Option (Nat×Bool)}(i:Nat)(Ψ:Value->EN->Prop){f:EN->Row}{x:Operand}{fn:FuncId}{xs:List Operand}{ts:Array TypeId} [hb:Zad c.P fn](hx:Ev fr x=some (.func (.func fn) #[] #[]))(ha:evL fr xs=some vs)(hi:nthO l i=some ent)(hf:∀e',setO l i e'=some (f e'))
  (hc:∀w r,Mem c.S c.W w (r++ent)->Cal c.P fn vs.toArray w λu w'=>∃e',Ψ u e'/\Mem c.S c.W w' (r++e')) (hk:∀u e',Ψ u e'->G c Q ks (.ops all rest) ((d,u)::fr) (f e')) (hd:Nat.blt d c.n=true:=by rfl) (hg:gOk all fr g=some true:=by rfl):
  G c Q ks (.ops all (⟨some d, .call ⟨.value x,xs.toArray,ts⟩,ty,pos,af,g⟩::rest)) fr l:=
 g_op rfl hd hg λa w F M=>by
  obtain⟨r,p1,_⟩:=ZcL hi (hf ent)
  have hp:∀e',(f e').flatten.Perm (e'++r):=λe'=>by
   obtain⟨r',q1,q2⟩:=ZcL hi (hf e')
   exact q2.trans (List.Perm.append_left _ ((List.perm_append_left_iff ent).1 (q1.symm.trans p1)))
  refine Zav (F.e hx) (F.evs ha) (Cal.mono (hc w r (M.perm (p1.trans List.perm_append_comm))) λu w' h a' F'=>?_)
  obtain⟨e',h1,M'⟩:=h
  exact hk u e' h1 a' w' F' (M'.perm (List.perm_append_comm.trans (hp e').symm))
end
section
attribute [local irreducible] OpTo wpListIn Code.wpIn MW Cal
theorem ZzD(x y:AdvV)(hx:IsAv x)(hy:IsAv y)(W:World):Cal prog 205 [.agg (avC x).toArray, .agg (avC y).toArray].toArray W λr w'=>r= .int .i64 (cmpD x.to y.to)/\Ext [] W w':=by
 have xd:IsDv x.to:=hx.1
 have yd:IsDv y.to:=hy.1
 refine yS (n:=10) Tryz.func205 rfl rfl (gQ 2 rfl (Zai rfl rfl λb2=>Zai rfl rfl λb3=>?_))
 refine W4 [6,0,1,0,0,4] @Zb0 ?_
 exact vA5
theorem Zr8(ls m:List AdvV)(hx:∀x∈ls,IsAv x)(hnd:(ls.map (·.to)).Nodup)(hm:AscA m)(hmem:∀x,x∈m↔x∈ls)(hlen:ls.length<=100000)
   {W0 w:World} {l:EN} {f:EN->EN}   (M:Mem S W0 w l) (hO:OwnS 100 37 v ls.length (avsC ls) ent) (hl:ZcQ ent l f):
  Cal prog 204 [v, .func (.func 205) #[] #[]].toArray w λ_ w'=>∃ent',OwnS 100 37 v ls.length (avsC m) ent'/\Mem S W0 w' (f ent'):=by
 obtain⟨f0,hf0⟩:∃f0:DstV->DisV,∀a∈ls,f0 a.to=a.own:=⟨λd=>(getO ls d).getD di0,λa ha=>by simp[Zmq hnd ha]⟩
 let dec:ADst->AdvV:=λd=>⟨d.1,f0 d.1⟩
 let enc:ADst->List Value:=λd=>avC (dec d)
 have hdec:∀d,IsAv (dec d):=λd=>⟨d.2,trivial⟩
 obtain⟨az,haz⟩:∃az:List ADst,az.map dec=ls:=⟨ls.pmap (λa h=>(⟨a.to,h⟩:ADst)) (λa ha=>(hx a ha).1),by
  exact vAE⟩
 have henc:∀bz:List ADst,encL enc bz=avsC (bz.map dec):=by
  exact vCa
 have hlz:az.length=ls.length:=by rw[<-haz,List.length_map]
 rw[<-hlz] at hO
 rw[<-haz,<-henc] at hO
 have h:=ZjH (P:=prog) (ρ:=ZgN) (enc:=enc) (k:=37) (e:=100) ZtR (λx=>Zcy (hdec x)) Q0 (λx=>Zco _) Q7 cfD swoD totD (g:=205) (Zad.h (P:=prog)) (λW x y=>ZzD (dec x) (dec y) (hdec x) (hdec y) W) az M hO hl Q0
 exact vA7
def ZgS(s:RtV):List AdvV:=if Zaj s then annV s else []
def annL(s:RtV):List AdvV:=s.og.map (orgA s)++s.ins.map insA
theorem Zhf{s:RtV}(h:Zaj s=true):ZdL s.self s.og=true/\ZbG s.ins=true/\(s.ins.any λx=>decide (x.to.rt=s.self))=false:=by
 unfold Zaj at h
 simp only[Bool.and_eq_true,Bool.not_eq_true'] at h
 exact⟨h.1.1.1.1.1.1.1.1.2,h.1.1.1.1.2,h.2⟩
theorem Zcq{self:Int}{l:List OrgV}:ZdL self l=true↔l.length<=8/\(∀a∈l,org1 self a=true)/\AscC (Zlt self) l:=Zdt (λ_ _ _ h k=>Za6 h k)
theorem Zky{s:RtV}(hs:IsRt s)(h:Zaj s=true):AscA (annV s):=by
 obtain⟨h1,h2,h3⟩:=Zhf h
 refine Zmg _ _ _ rfl ?_ ?_ ?_
 ·have:=(Zcq.1 h1).2.2
  unfold AscA AscK
  rw[List.pairwise_map]
  exact this
 ·have:=(Za5.1 h2).2.2
  unfold AscA AscK
  rw[List.pairwise_map]
  exact this
 ·intro x hx y hy e
  obtain⟨o,ho,rfl⟩:=List.mem_map.1 hx
  obtain⟨z,hz,rfl⟩:=List.mem_map.1 hy
  have e2:orgD s.self o=z.to:=Zcg (ZvN (hs.og o ho)) (hs.ins z hz).1 e
  have h4:=List.any_eq_false.1 h3 z hz
  apply h4
  rw[<-e2]
  exact dqT rfl
theorem ZdD(s:RtV):(annV s).Perm (annL s):=List.merge_perm_append _
theorem ZoW{l:List AdvV}(h:AscA l):(l.map (·.to)).Nodup:=by
 unfold List.Nodup
 rw[List.pairwise_map]
 refine h.imp λ{a b}hab e=>?_
 rw[e,Za0] at hab
 omega
theorem ZoY{s:RtV}(hs:IsRt s)(h:Zaj s=true):((annL s).map (·.to)).Nodup:=((ZdD s).map _).nodup_iff.1 (ZoW (Zky hs h))
theorem ZmK{s:RtV}(hs:IsRt s):∀x∈annL s,IsAv x:=λx hx=>by
 rcases List.mem_append.1 hx with h|h
 ·obtain⟨o,ho,rfl⟩:=List.mem_map.1 h
  exact⟨hs.og o ho,trivial⟩
 ·obtain⟨o,ho,rfl⟩:=List.mem_map.1 h
  exact⟨(hs.ins o ho).1,trivial⟩
theorem Zsz{s:RtV}(h:i<s.og.length){x:OrgV}(hx:x=s.og[i]):(s.og.take (i+1)).map (orgA s)=(s.og.take i).map (orgA s)++[orgA s x]:=by
 rw[hx,List.take_succ_eq_append_getElem h,List.map_append]
 rfl
theorem Zs3{s:RtV}(h:i<s.ins.length)(hx:x=s.ins[i]):s.og.map (orgA s)++(s.ins.take (i+1)).map insA=(s.og.map (orgA s)++(s.ins.take i).map insA)++[⟨x.to,x.own⟩]:=by
 rw[hx,List.take_succ_eq_append_getElem h,List.map_append,List.append_assoc]
 rfl
theorem vD1(h:p:=by
  refine W3 [5,0,2] ?_
  exact yN (i+1,_,_) ⟨by dsimp only;omega,by dsimp only;rw[hst];assumption⟩):p:=h
theorem Zk5(s:RtV)(x:RtX)(hs:IsRt s)(hv:Zaj s=true)(W:World)(h:RtAt W s x):Cal prog 120 [.agg (rtC s x).toArray].toArray W λr w'=>∃ent,OwnS 100 37 r (annV s).length (avsC (annV s)) ent/\Mem [] W w' ent:=by
 have hlo:=(Zcq.1 (Zhf hv).1).1
 have hli:=(Za5.1 (Zhf hv).2.1).1
 have hsL:=ZmK hs
 have hnd:=ZoY hs hv
 have hasc:=Zky hs hv
 obtain⟨v6,v7,v8,v9,v10,v11,v12⟩:=x
 obtain⟨a6,a7,a8,a9,a10,a11,a12⟩:=h
 dsimp only at a6 a7 a8 a9 a10 a11 a12
 obtain⟨q6,c6,rfl,_⟩:=id a6
 obtain⟨q7,c7,rfl,_⟩:=id a7
 obtain⟨q8,c8,rfl,_⟩:=id a8
 obtain⟨q9,c9,rfl,_⟩:=id a9
 obtain⟨q10,c10,rfl,_⟩:=id a10
 obtain⟨q11,c11,rfl,_⟩:=id a11
 obtain⟨q12,c12,rfl,_⟩:=id a12
 obtain⟨i6,i7,i8,i9,i10,i11,i12,iq⟩:=hs
 have m6:=a6.memB [] Q5
 have m10:=a10.memB [] Q5
 refine yS (n:=46) Tryz.func120 rfl rfl (gQ 2 rfl (Zai rfl rfl λb1=>?_))
 refine W3 [12,0,5] ?_
 refine Zba (Zau (ι:=Nat×Value×EN) ⟨λ(i,u,es)=>s.og.length-i,λ(i,u,es)=>i<=s.og.length/\(OwnS 100 37 u ((s.og.take i).map (orgA s)).length (avsC ((s.og.take i).map (orgA s))) es),λ(i,u,es)=>[(11, .int .i64 i),(10, .int .i64 s.og.length),(9, .slice q6 s.og.length c6),(3,u),(1, .pointer (some ⟨b1,0,none⟩))],λ(i,u,es)=>[es,[(b1, .cells (rtS s q6 c6 q7 c7 q8 c8 q9 c9 q10 c10 q11 c11 q12 c12).toArray 53 (0,0))]]⟩ (0,_,[]) ⟨Q0,OwnS.nilL _ _ _⟩ (λa F=>F.only [11,10,9,3,1] rfl) Qa ?_)
 rintro⟨i,u,es⟩ ⟨hi_i,hOs⟩
 dsimp only
 by_cases hlt_i:i<s.og.length
 ·obtain⟨b,o,cs,t',fz,rfl,hb,hs⟩:=m6 Q0
  obtain⟨x,hx0⟩:∃x,x=s.og[i]:=⟨_,rfl⟩
  have hxm:x∈s.og:=by rw[hx0];exact List.getElem_mem hlt_i
  have hxi:IsOg x:=i6 _ hxm
  have f1:seg cs (o+(i:Int).toNat*34) 34=some (ogC x):=by rw[hx0];exact Zal (ZdF i6) hs hlt_i Q0
  have xd:IsDv (orgD s.self x):=hxi
  have hol:((s.og.take i).map (orgA s)).length<=i:=by rw[List.length_map,List.length_take];omega
  have hst:=Zsz hlt_i hx0
  refine W3 [6,0,6,0,0] ?_
  refine Zac λb5=>?_
  refine W4 [0,2,1010,2,0,0,0,1,0] @ZjR ?_
  refine fd_v (λa w F M R r=>Zaq F rfl (Zrq _) r) (fd_v (λa w F M R r=>Zaq F rfl (Zlx _ Qd _) r) ?_)
  refine Zmy rfl rfl rfl (ZbS ⟨by assumption,trivial⟩) (λb24=>?_)
  refine ZaY 2 0 (enc:=avC) rfl rfl Qd rfl rfl (Zcy ⟨by assumption,trivial⟩) Q4 (λ_=>rfl) (λv25 es25 hO25=>?_) (Zco _)
  exact vD1
 ·have hil:i=s.og.length:=by omega
  rw[hil,List.take_length] at hOs
  refine W3 [6,0,2,0,6,0,5] ?_
  refine Zau (ι:=Nat×Value×EN) ⟨λ(i,u,es)=>s.ins.length-i,λ(i,u,es)=>i<=s.ins.length/\(OwnS 100 37 u (s.og.map (orgA s)++(s.ins.take i).map insA).length (avsC (s.og.map (orgA s)++(s.ins.take i).map insA)) es),λ(i,u,es)=>[(30, .int .i64 i),(29, .int .i64 s.ins.length),(28, .slice q10 s.ins.length c10),(3,u),(1, .pointer (some ⟨b1,0,none⟩))],λ(i,u,es)=>[es,[(b1, .cells (rtS s q6 c6 q7 c7 q8 c8 q9 c9 q10 c10 q11 c11 q12 c12).toArray 53 (0,0))]]⟩ (0,u,es) ⟨Q0,by simpa using hOs⟩ (λa F=>F.only [30,29,28,3,1] rfl) Qa ?_
  rintro⟨i,u,es⟩ ⟨hi_i,hOs⟩
  dsimp only
  by_cases hlt_i:i<s.ins.length
  ·obtain⟨b,o,cs,t',fz,rfl,hb,hs⟩:=m10 Q0
   obtain⟨x,hx0⟩:∃x,x=s.ins[i]:=⟨_,rfl⟩
   have hxm:x∈s.ins:=by rw[hx0];exact List.getElem_mem hlt_i
   have hxi:IsIn x:=i10 _ hxm
   have f1:seg cs (o+(i:Int).toNat*40) 40=some (inC x):=by rw[hx0];exact Zal (ZbU i10) hs hlt_i Q0
   have xd:IsDv x.to:=hxi.1
   have hol:(s.og.map (orgA s)++(s.ins.take i).map insA).length<=8+i:=by rw[List.length_append,List.length_map,List.length_map,List.length_take];omega
   have hst:=Zs3 hlt_i hx0
   refine W3 [6,0,6,0,0] ?_
   refine Zac λb7=>?_
   refine W3 [0,5,0,1,0] ?_
   refine g_v (λa w F M R r=>Zaq F rfl (Zlx _ Qd _) r) ?_
   refine g_bs rfl rfl rfl (ZbS Qd) (λb40=>?_)
   refine ZaY 2 0 (enc:=avC) rfl rfl Qd rfl rfl (Zcy Qd) Q4 (λ_=>rfl) (λv41 es41 hO41=>?_) (Zco _)
   exact vD1
  ·have hil2:i=s.ins.length:=by omega
   rw[hil2,List.take_length] at hOs
   refine W3 [6,0,2,0,5] ?_
   refine Zwt 0 (λ_ e'=>OwnS 100 37 u (annL s).length (avsC (annV s)) e') rfl rfl rfl (λ_=>rfl) (λw r M=>Cal.mono (Zr8 (annL s) (annV s) hsL hnd hasc (λz=>(ZdD s).mem_iff) (by unfold annL;rw[List.length_append,List.length_map,List.length_map];omega) M hOs (.app .here)) λu w' h=>h) ?_
   intro u' e' hO'
   rw[<-(ZdD s).length_eq] at hO'
   exact gQ 9 rfl (Zae rfl rfl rfl λw M=>⟨_,hO',M.sub (List.sublist_append_left _ _)⟩)
theorem ZkQ(s:RtV)(x:RtX)(hs:IsRt s)(W:World)(h:RtAt W s x):Cal prog 42 [.agg (rtC s x).toArray].toArray W λr w'=>∃ent,OwnS 100 37 r (ZgS s).length (avsC (ZgS s)) ent/\Mem [] W w' ent:=by
 obtain⟨v6,v7,v8,v9,v10,v11,v12⟩:=x
 obtain⟨a6,a7,a8,a9,a10,a11,a12⟩:=id h
 dsimp only at a6 a7 a8 a9 a10 a11 a12
 obtain⟨q6,c6,rfl,_⟩:=id a6
 obtain⟨q7,c7,rfl,_⟩:=id a7
 obtain⟨q8,c8,rfl,_⟩:=id a8
 obtain⟨q9,c9,rfl,_⟩:=id a9
 obtain⟨q10,c10,rfl,_⟩:=id a10
 obtain⟨q11,c11,rfl,_⟩:=id a11
 obtain⟨q12,c12,rfl,_⟩:=id a12
 refine yS (n:=8) Tryz.func42 rfl rfl (gQ 2 rfl (Zai rfl rfl λb1=>?_))
 refine W3 [6,0] ?_
 refine Zb6 (v:= .bool (Zaj s)) rfl rfl (λw M=>Zee s _ hs w (h.later M.ext)) ?_
 unfold ZgS
 cases hv:Zaj s
 ·refine gQ 11 rfl ?_
  exact Zae rfl rfl rfl λw M=>⟨[],OwnS.nil _ _,Mem.nil M.ext⟩
 rw[if_pos rfl]
 refine W3 [8,0] ?_
 refine ZaU (ι:=Value×EN) (λj=>j.1) (λj=>OwnS 100 37 j.1 (annV s).length (avsC (annV s)) j.2) (λj=>[j.2]) rfl rfl (λw M=>Cal.mono (Zhi s _ hs (Zcq.1 (Zhf hv).1).1 (Za5.1 (Zhf hv).2.1).1 w (h.later M.ext)) λr w' hh=>by
  obtain⟨ent,e1,e2⟩:=hh
  exact⟨(r,ent),rfl,e1,by simpa using e2⟩) ?_
 rintro⟨r,ent⟩ hO
 dsimp only at hO⊢
 exact gQ 4 rfl (Zae rfl rfl rfl λw M=>⟨ent,hO,M.sub (List.sublist_append_left _ _)⟩)
def rt0:RtV:=⟨0,0,0,0,0,0,0,[],[],[],[],[],[],[]⟩
def rx0:RtX:=⟨.slice none 0 0, .slice none 0 0, .slice none 0 0, .slice none 0 0, .slice none 0 0, .slice none 0 0, .slice none 0 0⟩
def rxU(u:Value):RtX:=⟨u, .slice none 0 0, .slice none 0 0, .slice none 0 0, .slice none 0 0, .slice none 0 0, .slice none 0 0⟩
def PhSt(r:Value)(W w':World):Prop:=∃(s:RtV)(u:Value)(c:Int)(ent:EN),r= .tuple #[.agg (rtC s (rxU u)).toArray, .int .i64 c]/\OwnS 85 34 u s.og.length (ogsC s.og) ent/\(∀y∈s.og,IsOg y)/\s.og.length<=8/\Mem [] W w' ent
theorem PhSt.zero{c:Int}{W w:World}(E:Ext [] W w):PhSt (.tuple #[.agg (rtC rt0 rx0).toArray, .int .i64 c]) W w:=⟨rt0, .slice none 0 0,c,[],rfl,OwnS.nil _ _,λy hy=>(List.not_mem_nil hy).elim,by simp[rt0],Mem.nil E⟩
theorem Zbt{t:Int}(h:Zag t=true):0<=t/\t<=1099511627776:=by
 unfold Zag at h
 simpa using h
theorem Zbr{e:TypeId}{sz:Nat}{cs:List Value}(h:OwnS e sz v n cs ent):∃q c,v= .slice q n c/\(0<n->∃b j,q=some ⟨b,0,none⟩/\ent=[(b, .cells (cs++j).toArray e (0,0))]):=by
 rcases h with⟨hv,h0,-,-⟩|⟨b,c,j,hv,he,-⟩
 ·exact⟨none,0,by rw[hv,h0],λh=>by omega⟩
 ·exact⟨_,c,hv,λ_=>⟨b,j,rfl,he⟩⟩
theorem ZbW{α:Type}{p:α->Prop}{l:List α}{x:α}(h:∀y∈l,p y)(hx:p x):∀y∈l++[x],p y:=λy hy=>by
 rcases List.mem_append.1 hy with h1|h1
 ·exact h y h1
 ·rw[List.mem_singleton.1 h1];exact hx
theorem vAV(h:p:=by
  refine g_bs rfl rfl rfl (Zd4 Qd) (λb71=>?_)
  refine ZaY 2 0 (enc:=ogC) rfl rfl Qd rfl rfl (ZfH Qd) Q4 (λ_=>rfl) (λv72 es72 hO72=>?_) (Zhk _)
  refine W3 [5,0,2] ?_
  exact yN (c+1,d,o2++[y],_,_) ⟨by dsimp only;omega,by assumption,ZbW hI2 yI,by first|(simp;omega)|(have:=hol0 Qd;simp;omega)⟩):p:=h
theorem Zov(self now:Int)(l:List OrgV)(hx:∀x∈l,IsOg x)(hl:l.length<=100)(v:Value)(W:World)(hS:SlAt W 34 v l.length (ogsC l)):Cal prog 32 [.int .u64 self, .int .i64 now,v].toArray W λr w'=>PhSt r W w':=by
 obtain⟨q,cap,rfl,_⟩:=id hS
 have hm:=hS.memB [] Q5
 refine yS (n:=95) Tryz.func32 rfl rfl (gQ 2 rfl (Zac λb6=>gQ 10 rfl (g_if rfl (λh1=>?_) (λh1=>?_))))
 ·replace h1:=dqU h1
  refine W3 [2,0,0,5] ?_
  exact Zcb 0 rfl rfl rfl rfl rfl rfl λw M=>PhSt.zero M.ext
 replace h1:=dqV h1
 refine gQ 11 rfl (Zau (ι:=Nat) ⟨λ(i:Nat)=>l.length-i,λ(i:Nat)=>i<=l.length/\(True),λ(i:Nat)=>[(23, .int .i64 i),(22, .int .i64 l.length),(21, .slice q l.length cap),(0, .int .u64 self),(1, .int .i64 now),(2, .slice q l.length cap),(6, .pointer (some ⟨b6,0,none⟩))],λ(i:Nat)=>[[(b6, .cells (rtC rt0 rx0).toArray 53 (0,0))]]⟩ 0 ⟨Q0,trivial⟩ (λa F=>F.only [23,22,21,0,1,2,6] rfl) Qa ?_)
 rintro i ⟨hi_i,hdm⟩
 by_cases hlt_i:i<l.length
 ·obtain⟨b,o,cs,t',fz,rfl,hb,hs⟩:=hm Q0
  obtain⟨x,hx0⟩:∃x,x=l[i]:=⟨_,rfl⟩
  have hxm:x∈l:=by rw[hx0];exact List.getElem_mem hlt_i
  have hxi:IsOg x:=hx _ hxm
  have f1:seg cs (o+(i:Int).toNat*34) 34=some (ogC x):=by rw[hx0];exact Zal (ZdF hx) hs hlt_i Q0
  have xd:IsDv (orgD self x):=hxi
  refine W3 [6,0,6,0,0] ?_
  refine Zac λb9=>?_
  refine W4 [0,5,0,0,0,3] (T2 @Zhh @ZaM) ?_
  refine g_if rfl (λh1=>?_) (λh1=>?_)
  ·replace h1:=Zaa h1
   refine W3 [2,0,0,6,0,2] ?_
   exact Zcb 1 rfl rfl rfl rfl rfl rfl λw M=>PhSt.zero M.ext
  ·replace h1:=Zab h1
   refine W3 [4,0,2] ?_
   exact yN (i+1) ⟨Q0,trivial⟩
 ·refine W4 [6,0,2,0,6,0,3] @Zas ?_
  refine g_if rfl (λh1=>?_) (λh1=>?_)
  ·replace h1:=Zaa h1
   refine W3 [2,0,0,5] ?_
   exact Zcb 0 rfl rfl rfl rfl rfl rfl λw M=>PhSt.zero M.ext
  replace h1:=Zab h1
  refine gQ 16 rfl (Zba (Zau (ι:=Nat×(List OrgV)×Value×EN) ⟨λ(i,out,u,es)=>l.length-i,λ(i,out,u,es)=>i<=l.length/\(OwnS 85 34 u out.length (ogsC out) es)/\(∀y∈out,IsOg y)/\(out.length<=i),λ(i,out,u,es)=>[(40, .int .i64 i),(39, .int .i64 l.length),(38, .slice q l.length cap),(10,u),(0, .int .u64 self),(1, .int .i64 now),(2, .slice q l.length cap),(6, .pointer (some ⟨b6,0,none⟩))],λ(i,out,u,es)=>[es,[(b6, .cells (rtC rt0 rx0).toArray 53 (0,0))]]⟩ (0,[],_,[]) ⟨Q0,OwnS.nilL _ _ _,λy hy=>(List.not_mem_nil hy).elim,by simp⟩ (λa F=>F.only [40,39,38,10,0,1,2,6] rfl) Qa ?_))
  rintro⟨i,out,u,es⟩ ⟨hi_i,hOs,hI,hol⟩
  dsimp only
  by_cases hlt_i:i<l.length
  ·obtain⟨b,o,cs,t',fz,rfl,hb,hs⟩:=hm Q0
   obtain⟨x,hx0⟩:∃x,x=l[i]:=⟨_,rfl⟩
   have hxm:x∈l:=by rw[hx0];exact List.getElem_mem hlt_i
   have hxi:IsOg x:=hx _ hxm
   have f1:seg cs (o+(i:Int).toNat*34) 34=some (ogC x):=by rw[hx0];exact Zal (ZdF hx) hs hlt_i Q0
   have xd:IsDv (orgD self x):=hxi
   obtain⟨q4,c4,rfl,hq4⟩:=Zbr hOs
   refine W3 [6,0,6,0,0] ?_
   refine Zac λb12=>?_
   refine W3 [0,21] ?_
   refine Zba ?_
   refine Zau (ι:=Nat×Bool×(List OrgV)×Value×EN) ⟨λ(c,d,o2,u2,e2)=>out.length-c,λ(c,d,o2,u2,e2)=>c<=out.length/\OwnS 85 34 u2 o2.length (ogsC o2) e2/\(∀y∈o2,IsOg y)/\o2.length<=c+d.toNat,λ(c,d,o2,u2,e2)=>[(46, .int .i64 c),(45, .int .i64 out.length),(44, .slice q4 out.length c4),(14, .bool d),(13,u2),(12, .pointer (some ⟨b12,0,none⟩)),(40, .int .i64 i),(39, .int .i64 l.length),(38, .slice (some ⟨b,o,none⟩) l.length cap),(10, .slice q4 out.length c4),(0, .int .u64 self),(1, .int .i64 now),(2, .slice (some ⟨b,o,none⟩) l.length cap),(6, .pointer (some ⟨b6,0,none⟩))],λ(c,d,o2,u2,e2)=>[e2,[(b12, .cells (ogC x).toArray 85 (0,0))],es,[(b6, .cells (rtC rt0 rx0).toArray 53 (0,0))]]⟩ (0,false,[],_,[]) ⟨by first|omega|(dsimp only;omega),OwnS.nilL _ _ _,λy hy=>(List.not_mem_nil hy).elim,by simp⟩ (λa F=>F.only [46,45,44,14,13,12,40,39,38,10,0,1,2,6] rfl) Qa ?_
   rintro⟨c,d,o2,u2,e2⟩ ⟨hc,hO2,hI2,hol2⟩
   dsimp only at hc hO2 hI2 hol2⊢
   by_cases hlc:c<out.length
   ·obtain⟨bq,jq,rfl,rfl⟩:=hq4 Q0
    obtain⟨y,hy0⟩:∃y,out[c]=y:=⟨_,rfl⟩
    have yI:IsOg y:=by rw[<-hy0];exact hI _ (List.getElem_mem _)
    have yd:IsDv (orgD self y):=yI
    have f4:seg (ogsC out++jq) (0+(c:Int).toNat*34) 34=some (ogC y):=by rw[<-hy0];exact Zeu (λz hz=>ZfH (hI z hz)) jq hlc Q0
    have hol3:o2.length<=c+1:=by cases d<;>simp at hol2<;>omega
    have hi100:c+1<=100:=by omega
    have hol4:(o2++[x]).length=o2.length+1:=by simp
    have hol0:d=false->o2.length<=c:=λh=>by rw[h] at hol2;simpa using hol2
    refine W3 [6,0,6,0,0] ?_
    refine Zac λb16=>?_
    refine W4 [0,3,1008,1,0,0,1,0,0,0,1,0,8] (T2 @Zhh @ZaR) ?_
    refine Zah 59 rfl (λh1=>?_) (λh1=>?_)
    ·replace h1:=dqU h1
     refine gQ 5 rfl (g_if rfl (λh2=>?_) (λh2=>?_))
     ·replace h2:=Zaa h2
      refine W3 [3,0] ?_
      refine g_bs rfl rfl rfl (Zd4 Qd) (λb65=>?_)
      refine ZaY 2 0 (enc:=ogC) rfl rfl Qd rfl rfl (ZfH Qd) Q4 (λ_=>rfl) (λv66 es66 hO66=>?_) (Zhk _)
      refine gQ 13 rfl (g_if rfl (λh3=>?_) (λh3=>?_))
      ·replace h3:=Zbx h3
       refine W3 [2,0] ?_
       refine g_bs rfl rfl rfl (Zd4 Qd) (λb71=>?_)
       refine ZaY 3 0 (enc:=ogC) rfl rfl Qd rfl rfl (ZfH Qd) Q4 (λ_=>rfl) (λv72 es72 hO72=>?_) (Zhk _)
       refine W3 [5,0,2] ?_
       exact yN (c+1,true,(o2++[x])++[y],_,_) ⟨by dsimp only;omega,by assumption,ZbW (ZbW hI2 hxi) yI,by first|(simp;omega)|(have:=hol0 Qd;simp;omega)⟩
      ·replace h3:=ZaJ h3
       refine W3 [4,0,2] ?_
       exact yN (c+1,true,o2++[x],_,_) ⟨by dsimp only;omega,by assumption,ZbW hI2 hxi,by first|(simp;omega)|(have:=hol0 Qd;simp;omega)⟩
     ·replace h2:=Zab h2
      refine gQ 8 rfl (g_if rfl (λh3=>?_) (λh3=>?_))
      ·replace h3:=Zbx h3
       refine W3 [2,0] ?_
       exact vAV
      ·replace h3:=ZaJ h3
       refine W3 [4,0,2] ?_
       exact yN (c+1,d,o2,_,_) ⟨by dsimp only;omega,by assumption,hI2,by first|(simp;omega)|(have:=hol0 Qd;simp;omega)⟩
    ·replace h1:=dqV h1
     refine W3 [14,0,2,0] ?_
     exact vAV
   ·have hlq:c=out.length:=by omega
    have hol0:d=false->o2.length<=c:=λh=>by rw[h] at hol2;simpa using hol2
    have hol3:o2.length<=c+1:=by cases d<;>simp at hol2<;>omega
    refine W3 [6,0,2,0,9] ?_
    refine g_if rfl (λh1=>?_) (λh1=>?_)
    ·replace h1:=Zaa h1
     refine W3 [2,0] ?_
     refine g_bs rfl rfl rfl (Zd4 Qd) (λb78=>?_)
     refine ZaY 1 0 (enc:=ogC) rfl rfl Qd rfl rfl (ZfH Qd) Q4 (λ_=>rfl) (λv79 es79 hO79=>?_) (Zhk _)
     refine W3 [10,0,2] ?_
     exact yN (i+1,o2++[x],_,_) ⟨by dsimp only;omega,by assumption,ZbW hI2 hxi,by first|(simp;omega)|(have:=hol0 Qd;simp;omega)⟩
    ·replace h1:=Zab h1
     refine W3 [9,0,2] ?_
     exact yN (i+1,o2,_,_) ⟨by dsimp only;omega,by assumption,hI2,by first|(simp;omega)|(have:=hol0 Qd;simp;omega)⟩
  ·obtain⟨hn0,hn1⟩:=Zbt h1
   obtain⟨q4,c4,rfl,hq4⟩:=Zbr hOs
   refine W3 [6,0,2,0,10] ?_
   refine g_if rfl (λh1=>?_) (λh1=>?_)
   ·replace h1:=dqU h1
    refine W3 [2,0,0,5] ?_
    exact Zcb 1 rfl rfl rfl rfl rfl rfl λw M=>PhSt.zero M.ext
   ·replace h1:=dqV h1
    refine W4 [7,0,3,0,0,0,4] @ZcS ?_
    refine Zcb 1 rfl rfl rfl rfl rfl rfl λw M=>?_
    exact⟨⟨self,0,now,_,0,now,now,out,[],[],[],[],[],[]⟩,_,_,es,rfl,hOs,hI,by first|omega|(dsimp only;omega),M.sub (List.sublist_append_left _ _)⟩
def Zcd(l:List SrcV)(now:Int)(t:DstV):Option DisV:=if ZaK l&&Zag now then Zds l now t else none
def Zko(x y:DisV):Int:=if Zbg x.seq y.seq||(decide (x.seq=y.seq)&&decide (x.met<y.met)) then-1 else if x=y then 0 else 1
theorem ZeV(x:Int):Zbg x x=false:=by
 unfold Zbg
 rw[Int.sub_self]
 rfl
theorem Ztw(x y:DisV):Zko x y=cmpQ x y:=by
 unfold Zko cmpQ Zeo
 by_cases h:x=y
 ·subst h
  simp[ZeV]
 ·simp[h]
theorem Zo7(d:Int):0<=IntKind.u16.wrap d/\IntKind.u16.wrap d<=65535:=by
 have h:IntKind.u16.wrap d=d % 65536:=rfl
 omega
theorem Zxb{d:Int}(h0:0<=d)(h1:d<=65535):ZbL .and .i64 d 65535=d:=by
 obtain⟨n,rfl⟩:=Int.eq_ofNat_of_zero_le h0
 have hn:n<65536:=by omega
 simp only[ZbL]
 rw[Zql _ Q0,Zql _ Q0,BitVec.toNat_and,BitVec.toNat_ofNat,BitVec.toNat_ofNat]
 have hb:IntKind.i64.bits=64:=rfl
 simp only[Int.toNat_natCast,hb]
 rw[Nat.mod_eq_of_lt Q0,show(65535:Int).toNat % 2^64=2^16-1 from rfl,Nat.and_two_pow_sub_one_eq_mod,Nat.mod_eq_of_lt Q0]
 exact ZlB Q0 Q0
theorem vAQ(h:p:=by
  refine Qq F ?_;(try dsimp only[Zce])
  exact⟨by simp[*],M.ext⟩):p:=h
theorem Zgi(x y:Int)(W:World):Cal prog 231 [.int .u16 x, .int .u16 y].toArray W λv w'=>v= .bool (Zbg x y)/\Ext [] W w':=by
 obtain⟨d,hd⟩:∃d,d=IntKind.u16.wrap (x-y):=⟨_,rfl⟩
 have hb:=Zo7 (x-y)
 have hn:Zbg x y=((decide (1<=d)&&decide (d<32768))||(decide (d=32768)&&decide (y<x))):=by rw[hd];rfl
 rw[hn]
 rw[<-hd] at hb
 have ha:=Zxb hb.1 hb.2
 refine Zar (n:=26) [] Tryz.func231 rfl rfl rfl ?_
 intro a w F M hwW
 refine W1 10 ?_;intro a F
 rw[<-hd] at F
 refine W1 2 ?_;intro a F
 rw[ha] at F
 clear hd hn ha
 refine W1 8 ?_;intro a F
 refine Zd8 F 13 rfl (λh1=>?_) (λh1=>?_)
 ·rw[h1] at F;replace h1:=dqU h1
  refine W1 4 ?_;intro a F
  refine Zd8 F 17 rfl (λh2=>?_) (λh2=>?_)
  ·rw[h2] at F;replace h2:=dqU h2
   refine W1 12 ?_;intro a F
   exact vAQ
  ·rw[h2] at F;replace h2:=dqV h2
   refine W1 3 ?_;intro a F
   refine Zd8 F 20 rfl (λh3=>?_) (λh3=>?_)
   ·rw[h3] at F;replace h3:=dqU h3
    refine W1 9 ?_;intro a F
    exact vAQ
   ·rw[h3] at F;replace h3:=dqV h3
    refine W1 9 ?_;intro a F
    exact vAQ
 ·rw[h1] at F;replace h1:=dqV h1
  refine W1 16 ?_;intro a F
  refine Qq F ?_;(try dsimp only[Zce])
  exact⟨by simp[*];omega,M.ext⟩
theorem Zna(x y:DisV)(W:World):Cal prog 169 [.agg (diC x).toArray, .agg (diC y).toArray].toArray W λv w'=>v= .int .i64 (Zko x y)/\Ext [] W w':=by
 unfold Zko
 refine yS (n:=27) Tryz.func169 rfl rfl (gQ 2 rfl (Zai rfl rfl λb2=>Zai rfl rfl λb3=>?_))
 refine W4 [7,0,1,0,0,1] @Zgi ?_
 refine Zah 10 rfl (λh1=>?_) (λh1=>?_)
 ·exact gQ 23 rfl (Zae rfl rfl rfl λw M=>⟨by simp[*],M.ext⟩)
 ·refine W3 [1,0,1,0,2] ?_
  refine Zah 16 rfl (λh2=>?_) (λh2=>?_)
  ·replace h2:=dqU h2
   refine W3 [1,0,1,0,5] ?_
   refine g_if rfl (λh3=>?_) (λh3=>?_)
   ·replace h3:=dqU h3
    exact gQ 7 rfl (Zae rfl rfl rfl λw M=>⟨by simp[*],M.ext⟩)
   ·replace h3:=dqV h3
    refine W3 [5,0,0] ?_
    refine Zli rfl rfl (Zg9 trivial) (Zg9 trivial) (Zki trivial trivial) (gQ 2 rfl (g_if rfl (λh4=>?_) (λh4=>?_)))
    ·replace h4:=dqU h4
     exact gQ 7 rfl (Zae rfl rfl rfl λw M=>⟨by simp[*,ZeV],M.ext⟩)
    ·replace h4:=dqV h4
     exact gQ 8 rfl (Zae rfl rfl rfl λw M=>⟨by simp[*,ZeV],M.ext⟩)
  ·replace h2:=dqV h2
   refine W3 [15,0,0] ?_
   refine Zli rfl rfl (Zg9 trivial) (Zg9 trivial) (Zki trivial trivial) (gQ 2 rfl (g_if rfl (λh3=>?_) (λh3=>?_)))
   ·replace h3:=dqU h3
    exact gQ 7 rfl (Zae rfl rfl rfl λw M=>⟨by simp[*,ZeV],M.ext⟩)
   ·replace h3:=dqV h3
    exact vCs
theorem ZpH(d b:DisV)(k:Bool)(W:World):Cal prog 76 [.agg (diC d).toArray, .agg (diC b).toArray, .bool k].toArray W λv w'=>v= .bool (finD d&&(!k||(ZaA b.met&&decide (Zko d b= -1))))/\Ext [] W w':=by
 unfold finD inf
 refine Zar (n:=25) [] Tryz.func76 rfl rfl rfl ?_
 intro a w F M hwW
 refine Zea (ZdV ?_)
 refine sD F (ZjX M (F.e rfl) rfl ?_);clear F M;intro b3 w M a F
 refine sD F (ZjX M (F.e rfl) rfl ?_);clear F M;intro b4 w M a F
 refine W1 6 ?_;intro a F
 refine sD F (Zbs M (F.e rfl) Q1 (ZbR Q8) ?_);clear F a;intro a F
 refine W5 3 @ZbI ?_;intro a w F M
 refine Zd8 F 10 rfl (λh1=>?_) (λh1=>?_)
 ·rw[h1] at F;replace h1:=Zaa h1;(try rw[h1] at F)
  refine W1 14 ?_;intro a F
  exact vAQ
 ·rw[h1] at F;replace h1:=Zab h1;(try rw[h1] at F)
  refine W1 1 ?_;intro a F
  refine sG F (ZgY M (F.e rfl) Q1 (ZgE Q8) ?_);clear F a;intro a F
  refine W1 4 ?_;intro a F
  refine c_if F rfl (λh2=>?_) (λh2=>?_)
  ·rw[h2] at F;replace h2:=dqU h2
   refine W1 7 ?_;intro a F
   exact vAQ
  ·rw[h2] at F;replace h2:=dqV h2
   refine W1 9 ?_;intro a F
   refine c_if F rfl (λh3=>?_) (λh3=>?_)
   ·rw[h3] at F;replace h3:=Zaa h3;(try rw[h3] at F)
    refine W1 7 ?_;intro a F
    exact vAQ
   ·rw[h3] at F;replace h3:=Zab h3;(try rw[h3] at F)
    refine W1 4 ?_;intro a F
    refine sD F (Zbs M (F.e rfl) Q1 (ZbR Q8) ?_);clear F a;intro a F
    refine W5 2 @ZbI ?_;intro a w F M
    refine Zd8 F 19 rfl (λh4=>?_) (λh4=>?_)
    ·rw[h4] at F
     refine sG F (Zbs M (F.e rfl) Q1 (ZbR Q8) ?_);clear F a;intro a F
     refine sG F (Zbs M (F.e rfl) Q1 (ZbR Q8) ?_);clear F a;intro a F
     refine W5 7 @Zna ?_;intro a w F M
     refine Qq F ?_;(try dsimp only[Zce])
     exact vCZ
    ·rw[h4] at F
     refine W1 9 ?_;intro a F
     exact vAQ
theorem Znc(x y:DisV)(W:World):Cal prog 229 [.agg (diC x).toArray, .agg (diC y).toArray].toArray W λv w'=>v= .agg (diC (if Zko x y= -1 then x else y)).toArray/\Ext [] W w':=by
 refine yS (n:=11) Tryz.func229 rfl rfl (gQ 2 rfl (Zai rfl rfl λb2=>Zai rfl rfl λb3=>Zac λb4=>?_))
 refine W4 [5,0,0,0,3] @Zna ?_
 refine g_if rfl (λh1=>?_) (λh1=>?_)
 ·replace h1:=dqU h1
  refine W3 [2,0,0,4] ?_
  exact Zbn 0 rfl rfl rfl rfl (ZbR trivial) λw M=>⟨by simp[*],M.ext⟩
 ·replace h1:=dqV h1
  refine W3 [4,0,0,3] ?_
  exact Zbn 0 rfl rfl rfl rfl (ZbR trivial) λw M=>⟨by simp[*],M.ext⟩
theorem vA3(h:p:=by
  obtain⟨q,cap,rfl,_⟩:=id hS
  have hm:=hS.memB [] Q5
  have c1:∀w,Zcd l now t=none->Ext [] W w->Value.tuple [.agg [.int .u16 0, .int .i64 0].toArray, .bool false].toArray= .tuple [diV ((Zcd l now t).getD di0), .bool (Zcd l now t).isSome].toArray/\Ext [] W w:=λw h E=>by
   rw[h]
   exact⟨rfl,E⟩
  have c2:∀w d,Zcd l now t=some d->Ext [] W w->Value.tuple [.agg (diC d).toArray, .bool true].toArray= .tuple [diV ((Zcd l now t).getD di0), .bool (Zcd l now t).isSome].toArray/\Ext [] W w:=λw d h E=>by
   rw[h]
   exact⟨rfl,E⟩
  refine yS (n:=39) Tryz.func75 rfl rfl (gQ 2 rfl (Zai rfl rfl λb5=>Zac λb6=>?_))
  refine W4 [7,0,2] @ZaO ?_
  refine Zah 13 rfl (λh1=>?_) (λh1=>?_)
  ·replace h1:=Zaa h1
   refine W3 [9,0,0,5] ?_
   exact Zcb 0 rfl rfl rfl rfl rfl rfl λw M=>c1 _ (by unfold Zcd;simp[*]) M.ext
  replace h1:=Zab h1
  refine W4 [1,0,4] @Zas ?_
  refine g_if rfl (λh2=>?_) (λh2=>?_)
  ·replace h2:=Zaa h2
   refine W3 [2,0,0,5] ?_
   exact Zcb 0 rfl rfl rfl rfl rfl rfl λw M=>c1 _ (by unfold Zcd;simp[*]) M.ext
  replace h2:=Zab h2
  refine gQ 11 rfl ?_
  obtain⟨hl256,_,_⟩:=Zbc.1 h1
  obtain⟨R,hR⟩:∃R,(l.drop 0).find? (hitS now t)=R:=⟨_,rfl⟩
  have hV:Zcd l now t=R.map (·.bst):=by rw[<-hR];unfold Zcd;rw[h1,h2];rfl
  refine Zau (ι:=Nat) ⟨λ(i:Nat)=>l.length-i,λ(i:Nat)=>i<=l.length/\((l.drop i).find? (hitS now t)=R),λ(i:Nat)=>[(21, .int .i64 i),(20, .int .i64 l.length),(19, .slice q l.length cap),(1, .int .i64 now),(5, .pointer (some ⟨b5,0,none⟩)),(6, .pointer (some ⟨b6,0,none⟩))],λ(i:Nat)=>[[(b6, .cells [Value.int .u16 0, .int .i64 0].toArray 72 (0,0))],[(b5, .cells (dvC t).toArray 67 (0,0))]]⟩ 0 ⟨Q0,hR⟩ (λa F=>F.only [21,20,19,1,5,6] rfl) Qa ?_
  rintro i ⟨hi_i,hf⟩
  by_cases hlt_i:i<l.length
  ·obtain⟨b,o,cs,t',fz,rfl,hb,hs⟩:=hm Q0
   obtain⟨y,hy0⟩:∃y,y=l[i]:=⟨_,rfl⟩
   have hym:y∈l:=by rw[hy0];exact List.getElem_mem hlt_i
   have hyi:IsSr y:=hx _ hym
   have f1:seg cs (o+(i:Int).toNat*38) 38=some (srC y):=by rw[hy0];exact Zal (ZbN hx) hs hlt_i Q0
   rw[<-List.getElem_cons_drop hlt_i,<-hy0] at hf
   clear hy0
   rw[List.find?_cons] at hf
   refine W3 [6,0,6,0,0] ?_
   refine Zac λb9=>?_
   refine W3 [0,5,0,0] ?_
   refine Zli rfl rfl (ZaG (And.left Qd)) (ZaG Qd) (Zc3 (And.left Qd) Qd) ?_
   refine gQ 1 rfl (Zah 29 rfl (λh1=>?_) (λh1=>?_))
   ·replace h1:=dqU h1
    refine W3 [1,0,5] ?_
    refine g_if rfl (λh2=>?_) (λh2=>?_)
    ·replace h2:=dqU h2
     refine W3 [3,0,0,6,0,2] ?_
     exact Zcb 1 rfl rfl rfl rfl (ZbR trivial) rfl λw M=>c2 _ _ (by rw[hV,<-hf];simp[hitS, *]) M.ext
    ·replace h2:=dqV h2
     refine W3 [4,0,2] ?_
     exact Zgz (i+1) ⟨Q0,by rw[<-hf];simp[hitS, *]⟩ Q6 (λa F=>F.only [21,20,19,1,5,6] rfl) Qc
   ·replace h1:=dqV h1
    refine W3 [12,0,2] ?_
    exact Zgz (i+1) ⟨Q0,by rw[<-hf];simp[hitS, *]⟩ Q6 (λa F=>F.only [21,20,19,1,5,6] rfl) Qc
  ·obtain rfl:i=l.length:=by omega
   rw[List.drop_length] at hf
   refine W3 [6,0,2,0,4,0,0,4] ?_
   exact Zcb 0 rfl rfl rfl rfl rfl rfl λw M=>c1 _ (by rw[hV,<-hf];rfl) M.ext):p:=h
theorem Zl0(l:List SrcV)(hx:∀x∈l,IsSr x)(v:Value)(now:Int)(t:DstV)(ht:IsDv t)(W:World)(hS:SlAt W 38 v l.length (srsC l)):
  Cal prog 75 [v, .int .i64 now, .agg (dvC t).toArray].toArray W λr w'=>r= .tuple [diV ((Zcd l now t).getD di0), .bool (Zcd l now t).isSome].toArray/\Ext [] W w':=vA3
end
section
section
variable {c:Cx} {Q:Exit->Act->World->Prop} {ks:List KF} {fr:FN} {l l':Row} {all:Array Oper} {rest:List Oper} {d:Nat} {ty:TypeId} {pos:String} {af:Array Edge} {g:Option (Nat×Bool)}
theorem ZcF(i:Nat){st xt e:TypeId}{x y:Operand}{sz by_ n m:Nat}{v xv:Value}{xs ys:List Value}{f:EN->Row} [hst:TU c.P st (.slice e)] [hel:TEl c.P e sz by_] [hxt:TNI c.P xt]
  (hx:Ev fr x=some v) (hy:Ev fr y=some xv) (hO:OwnS e sz v n xs ent) (hi:nthO l i=some ent) (hX:∀w,Mem c.S c.W w l.flatten->Zcc c.P w xv m sz ys) (hbd:(n+m)*by_<=140737488355328) (hln:n+m<=9223372036854775807)
  (hf:∀e',setO l i e'=some (f e')) (hk:∀v' ent',OwnS e sz v' (n+m) (xs++ys) ent'->G c Q ks (.ops all rest) ((d,v')::fr) (f ent')) (hd:Nat.blt d c.n=true:=by rfl) (hg:gOk all fr g=some true:=by rfl):
  G c Q ks (.ops all (⟨some d, .call ⟨.builtin .append, #[x,y], #[st,xt]⟩,ty,pos,af,g⟩::rest)) fr l:=by
 refine g_op rfl hd hg λa w F M=>?_
 obtain⟨r,p1,_⟩:=ZcL hi (hf ent)
 have hp:∀e',(f e').flatten.Perm (e'++r):=λe'=>by
  exact vCe
 refine Zck (f:=λe'=>r++e') hO (M.perm (p1.trans List.perm_append_comm)) ?_ (F.e hx) (F.e hy) (hX w M) hbd hln (λv' ent' w' hO' M'=>?_)
 ·exact .app .here
 ·exact λa' F'=>hk v' ent' hO' a' w' F' (M'.perm (List.perm_append_comm.trans (hp ent').symm))
end
attribute [local irreducible] OpTo wpListIn Code.wpIn MW Cal
theorem ZpM(t:DstV)(h:IsDv t)(a b c d e:Int):ZaD [(0,35),(35,1),(36,1),(37,1),(38,1),(39,1)] rqZ [(0,dvC t),(1,[.int .u16 a]),(2,[.int .i64 b]),(3,[.int .u64 c]),(4,[.int .i64 d]),(5,[.int .i64 e])]=some (rqC ⟨t,a,b,c,d,e⟩):=Znb (o:=⟨t,a,b,c,d,e⟩) h
end
section
attribute [local irreducible] OpTo wpListIn Code.wpIn MW Cal
theorem Zyi(x:DstV)(h:IsDv x):ZaD [(0,17),(17,17)] ogZ [(0,pfC x.dip x.dbits),(1,pfC x.sip x.sbits)]=some (ogC ⟨x.dip,x.dbits,x.sip,x.sbits⟩):=ZsD (o:=⟨x.dip,x.dbits,x.sip,x.sbits⟩) h
theorem Zrj{p:Option Addr}{len cap k:Nat}(W:World)(hT:Zbz W bt p len xs)(hb:W.heap[bt]? =some (tobj p len cap k)):Cal prog 25 [.pointer (some ⟨bt,0,none⟩)].toArray W λr w'=>∃x k',r= .int .u64 x/\Mem [bt] W w' [(bt,tobj p len cap k')]:=by
 have n5:=Zbb xs k (n:=5) Q0
 refine Zcm (n:=7) [bt] hb Q5 Zbj Zbi Tryz.func25 rfl rfl rfl ?_
 refine W4 [8,0,0] @Za1 ?_
 exact Zei rfl (Ze9 Q0 Q0) (gQ 4 rfl (Zae rfl rfl rfl λw M=>⟨_,_,rfl,M⟩))
theorem Zw6{p:Option Addr}{len cap k:Nat}(W:World)(hT:Zbz W bt p len xs)(hb:W.heap[bt]? =some (tobj p len cap k)):Cal prog 20 [.pointer (some ⟨bt,0,none⟩)].toArray W λr w'=>∃x k',r= .int .i64 x/\(0<=x/\x<=1099511627776)/\Mem [bt] W w' [(bt,tobj p len cap k')]:=by
 have n1:=Zbb xs k (n:=6) Q0
 have n2:=Zbb xs (nxK xs k) (n:=5) Q0
 have n3:=Zbb xs (nxK xs k) (n:=40) Q0
 have n4:=Zbb xs (nxK xs k) (n:=1000) Q0
 refine Zcm (n:=16) [bt] hb Q5 Zbj Zbi Tryz.func20 rfl rfl rfl ?_
 refine W4 [9,0,9] @Za1 ?_
 refine g_if rfl (λh1=>?_) (λh1=>?_)
 ·replace h1:=dqU h1
  refine W4 [3,0,6] @Za1 ?_
  exact vBp
 ·replace h1:=dqV h1
  refine gQ 6 rfl (g_if rfl (λh2=>?_) (λh2=>?_))
  ·replace h2:=dqU h2
   refine W4 [3,0,0,6] @Za1 ?_
   exact vBp
  ·replace h2:=dqV h2
   refine W4 [6,0,4] @Za1 ?_
   exact vBp
theorem Zoy{p:Option Addr}{len cap k:Nat}(self now:Int)(W:World)(hT:Zbz W bt p len xs)(hb:W.heap[bt]? =some (tobj p len cap k)):Cal prog 58 [.pointer (some ⟨bt,0,none⟩), .int .u64 self, .int .i64 now].toArray W λr w'=>∃(m:List OrgV)(k':Nat)(ent:EN),OwnS 85 34 r m.length (ogsC m) ent/\(∀y∈m,IsOg y)/\m.length<=8/\Mem [bt] W w' ((bt,tobj p len cap k')::ent):=by
 have n3:=Zbb xs k (n:=3) Q0
 refine Zcm (n:=37) [bt] hb Q5 Zbj Zbi Tryz.func58 rfl rfl rfl ?_
 refine W4 [14,0,4] @Za1 ?_
 refine Zba ?_
 refine Zau (ι:=Int×(List OrgV)×Value×EN×Nat) ⟨λ(d,out,u,es,k)=>d.toNat,λ(d,out,u,es,k)=>d<=3/\OwnS 85 34 u out.length (ogsC out) es/\(∀y∈out,IsOg y)/\(out.length:Int)+d<=3/\0<=d,λ(d,out,u,es,k)=>[(8, .int .i64 d),(7,u),(0, .pointer (some ⟨bt,0,none⟩)),(1, .int .u64 self),(2, .int .i64 now)],λ(d,out,u,es,k)=>[es,[(bt,tobj p len cap k)]]⟩ (_,[],_,[],_) ⟨by first|omega|(dsimp only;omega),OwnS.nilL _ _ _,λy hy=>(List.not_mem_nil hy).elim,by first|(simp;omega)|(dsimp only;simp;omega),by first|omega|(dsimp only;omega)⟩ (λa F=>F.only [8,7,0,1,2] rfl) Qa ?_
 clear n3
 rintro⟨d,out,u,es,k⟩ ⟨hd,hOs,hI,hol,hd0⟩
 dsimp only at hd hOs hI hol hd0⊢
 by_cases hlt:0<d
 ·refine W3 [7,0,7] ?_
  refine ZaX (ι:=DstV×Nat) 1 (λj=>dvV j.1) (λj=>IsDv j.1) (λj=>tobj p len cap j.2) (λ_=>[]) rfl rfl rfl (λw M=>Cal.mono (Zpi w (hT.later M.ext) (M.at_ _ (Zak (i:=1) rfl))) λr w' h=>by
    obtain⟨x,k',q,h1,_,N⟩:=h
    exact⟨(x,k'),q,h1,by simpa using N⟩) (λ_=>rfl) ?_
  rintro⟨x,k1⟩ xd
  dsimp only[List.nil_append] at xd⊢
  unfold dvV
  have hol3:out.length<=2:=by omega
  have xo:IsOg (⟨x.dip,x.dbits,x.sip,x.sbits⟩:OrgV):=xd
  refine Zac λb9=>?_
  refine W3 [0,5,0,1,0] ?_
  refine g_v (λa w F M R r=>Zaq F rfl (Zyi _ Qd) r) ?_
  refine g_bs rfl rfl rfl (Zd4 Qd) (λb26=>?_)
  refine ZaY 2 0 (enc:=ogC) rfl rfl Qd rfl rfl (ZfH Qd) Q4 (λ_=>rfl) (λv27 es27 hO27=>?_) (Zhk _)
  refine W3 [6,0,2] ?_
  exact yN (d-1,out++[⟨x.dip,x.dbits,x.sip,x.sbits⟩],_,_,_) ⟨by dsimp only;omega,by assumption,ZbW hI xo,by simp;omega,by dsimp only;omega⟩
 ·refine W3 [7,0,2,0,7] ?_
  refine ZaU (ι:=RtV×Value×Int×EN) (λj=> .tuple #[.agg (rtC j.1 (rxU j.2.1)).toArray, .int .i64 j.2.2.1]) (λj=>OwnS 85 34 j.2.1 j.1.og.length (ogsC j.1.og) j.2.2.2/\(∀y∈j.1.og,IsOg y)/\j.1.og.length<=8) (λj=>[j.2.2.2]) rfl rfl (λw M=>Cal.mono (Zov self now out hI Q0 u w (hOs.slAt M (λq hq=>List.mem_append_left _ hq))) λr w' h=>by
   obtain⟨s,u,c,ent,q,h1,h2,h3,N⟩:=h
   exact⟨(s,u,c,ent),q,⟨h1,h2,h3⟩,by simpa using N⟩) ?_
  rintro⟨s,u1,c1,e1⟩ ⟨hO1,hI1,hl1⟩
  dsimp only at hO1 hI1 hl1⊢
  obtain⟨q4,c4,rfl,hq4⟩:=Zbr hO1
  refine gQ 3 rfl (Zac λb10=>?_)
  refine W3 [0,6,0,4] ?_
  exact Zae rfl rfl rfl λw M=>⟨s.og,_,e1,hO1,hI1,hl1,(M.sub (.cons _ ((List.Sublist.refl e1).append (List.sublist_append_right es _)))).perm List.perm_append_comm⟩
theorem ZmD{a b x:List Int}(h:cmpL a b<0)(k:0<=cmpL a x):0<cmpL b x:=by
 have h1:=Zfo a x
 have h2:=Zfo b x
 rcases Int.lt_or_le 0 (cmpL a x) with h3|h3
 ·have:=Zde (show cmpL x a<0 by omega) h
  omega
 ·have h4:=Zix (show cmpL a x=0 by omega)
  subst h4
  omega
end
end Go.Proofs.YtfhkmgcalcfibaaGreat

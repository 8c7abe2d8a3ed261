/-
  Texts joined.
-/
import Derived.Test.YtfhkmgcalcfibaaGreatTaw6
set_option linter.unusedVariables false
set_option linter.unusedSimpArgs false
set_option maxHeartbeats 64000000
namespace Go.Proofs.YtfhkmgcalcfibaaGreat
open Go.RowKit
open Go.Proofs.Tryz (prog)
variable {S:List Nat}{W W0 w:World}{b cap i j m n sz vb:Nat}{c now:Int}{cs junk us vs xs:List Value}{ent r:EN}{fn:FuncId}{ft:Nat × Nat}{l:List ReqV}{o:Obj}{ol:List Oper}{p:Prop}{rst:Row}{t:TypeId}{ts:Array TypeId}{v:Value}{x y z:Operand}{ys:List Operand}
section
attribute [local irreducible] OpTo wpListIn Code.wpIn MW Cal
theorem own0{e:TypeId}:OwnS e sz (.slice (some ⟨b,0,none⟩) 0 0) 0 [] [(b, .cells ([]:List Value).toArray e (0,0))]:= .inr ⟨b,0,[],rfl,rfl,by simp,by simp,by simp⟩
theorem Zu4(h:SlAt W sz (.slice none n cap) n xs):n=0:=by
 obtain⟨q',cap',h2,_,_,_,h3⟩:=h
 cases h2
 rcases Nat.eq_zero_or_pos n with h|h
 ·exact h
 ·obtain⟨_,_,_,_,_,h4,_⟩:=h3 h
  cases h4
theorem vAa(h:p:=by
  obtain rfl:l=[]:=List.length_eq_zero_iff.1 (Zu4 hS)
  exact gQ 9 rfl (g_v (λa w F M R r=>Zda (F.e rfl) (F.e rfl) r) (gQ 10 rfl (Zae rfl rfl rfl λw M=>⟨[],OwnS.nil _ _,M⟩)))):p:=h
theorem vAp(h:p:=by
  rw[Nat.zero_add,List.nil_append] at hO
  exact gQ 4 rfl (Zae rfl rfl rfl λw M=>⟨ent,hO,by simpa using M⟩)):p:=h
theorem ZuC(l:List OrgV)(v:Value)(W:World)(hS:SlAt W 34 v l.length (ogsC l))(hl:l.length<=100000):Cal prog 30 [v].toArray W λr w'=>∃ent,OwnS 85 34 r l.length (ogsC l) ent/\Mem [] W w' ent:=by
 obtain⟨q,cap,rfl,_⟩:=id hS
 refine yS (n:=8) Tryz.func30 rfl rfl ?_
 cases q with
 |none=>
  exact vAa
 |some a0=>
  refine gQ 9 rfl (g_v (λa w F M R r=>Zda (F.e rfl) (F.e rfl) r) (gQ 7 rfl (g_bs rfl rfl rfl rfl (λb5=>?_))))
  refine gQ 1 rfl (ZcF 0 rfl rfl own0 rfl (λw M=>(hS.later M.ext).src Zqj) Q0 Q0 (λ_=>rfl) (λu ent hO=>?_))
  exact vAp
theorem Zzv(l:List AdjV)(v:Value)(W:World)(hS:SlAt W 8 v l.length (ajsC l))(hl:l.length<=100000):Cal prog 147 [v].toArray W λr w'=>∃ent,OwnS 124 8 r l.length (ajsC l) ent/\Mem [] W w' ent:=by
 obtain⟨q,cap,rfl,_⟩:=id hS
 refine yS (n:=8) Tryz.func147 rfl rfl ?_
 cases q with
 |none=>
  exact vAa
 |some a0=>
  refine gQ 9 rfl (g_v (λa w F M R r=>Zda (F.e rfl) (F.e rfl) r) (gQ 7 rfl (g_bs rfl rfl rfl rfl (λb5=>?_))))
  refine gQ 1 rfl (ZcF 0 rfl rfl own0 rfl (λw M=>(hS.later M.ext).src ZrM) Q0 Q0 (λ_=>rfl) (λu ent hO=>?_))
  exact vAp
theorem Zlu(l:List SrcV)(v:Value)(W:World)(hS:SlAt W 38 v l.length (srsC l))(hl:l.length<=100000):Cal prog 148 [v].toArray W λr w'=>∃ent,OwnS 166 38 r l.length (srsC l) ent/\Mem [] W w' ent:=by
 obtain⟨q,cap,rfl,_⟩:=id hS
 refine yS (n:=8) Tryz.func148 rfl rfl ?_
 cases q with
 |none=>
  exact vAa
 |some a0=>
  refine gQ 9 rfl (g_v (λa w F M R r=>Zda (F.e rfl) (F.e rfl) r) (gQ 7 rfl (g_bs rfl rfl rfl rfl (λb5=>?_))))
  refine gQ 1 rfl (ZcF 0 rfl rfl own0 rfl (λw M=>(hS.later M.ext).src ZlE) Q0 Q0 (λ_=>rfl) (λu ent hO=>?_))
  exact vAp
theorem Zzs(l:List RouV)(v:Value)(W:World)(hS:SlAt W 39 v l.length (rosC l))(hl:l.length<=100000):Cal prog 149 [v].toArray W λr w'=>∃ent,OwnS 76 39 r l.length (rosC l) ent/\Mem [] W w' ent:=by
 obtain⟨q,cap,rfl,_⟩:=id hS
 refine yS (n:=8) Tryz.func149 rfl rfl ?_
 cases q with
 |none=>
  exact vAa
 |some a0=>
  refine gQ 9 rfl (g_v (λa w F M R r=>Zda (F.e rfl) (F.e rfl) r) (gQ 7 rfl (g_bs rfl rfl rfl rfl (λb5=>?_))))
  refine gQ 1 rfl (ZcF 0 rfl rfl own0 rfl (λw M=>(hS.later M.ext).src ZlX) Q0 Q0 (λ_=>rfl) (λu ent hO=>?_))
  exact vAp
theorem Zzt(l:List InsV)(v:Value)(W:World)(hS:SlAt W 40 v l.length (insC l))(hl:l.length<=100000):Cal prog 150 [v].toArray W λr w'=>∃ent,OwnS 74 40 r l.length (insC l) ent/\Mem [] W w' ent:=by
 obtain⟨q,cap,rfl,_⟩:=id hS
 refine yS (n:=8) Tryz.func150 rfl rfl ?_
 cases q with
 |none=>
  exact vAa
 |some a0=>
  refine gQ 9 rfl (g_v (λa w F M R r=>Zda (F.e rfl) (F.e rfl) r) (gQ 7 rfl (g_bs rfl rfl rfl rfl (λb5=>?_))))
  refine gQ 1 rfl (ZcF 0 rfl rfl own0 rfl (λw M=>(hS.later M.ext).src ZqQ) Q0 Q0 (λ_=>rfl) (λu ent hO=>?_))
  exact vAp
theorem Zfq(l:List ReqV)(v:Value)(W:World)(hS:SlAt W 40 v l.length (rqsC l))(hl:l.length<=100000):Cal prog 151 [v].toArray W λr w'=>∃ent,OwnS 171 40 r l.length (rqsC l) ent/\Mem [] W w' ent:=by
 obtain⟨q,cap,rfl,_⟩:=id hS
 refine yS (n:=8) Tryz.func151 rfl rfl ?_
 cases q with
 |none=>
  exact vAa
 |some a0=>
  refine gQ 9 rfl (g_v (λa w F M R r=>Zda (F.e rfl) (F.e rfl) r) (gQ 7 rfl (g_bs rfl rfl rfl rfl (λb5=>?_))))
  refine gQ 1 rfl (ZcF 0 rfl rfl own0 rfl (λw M=>(hS.later M.ext).src Zfd) Q0 Q0 (λ_=>rfl) (λu ent hO=>?_))
  exact vAp
theorem Zzu(l:List AdvV)(v:Value)(W:World)(hS:SlAt W 37 v l.length (avsC l))(hl:l.length<=100000):Cal prog 152 [v].toArray W λr w'=>∃ent,OwnS 100 37 r l.length (avsC l) ent/\Mem [] W w' ent:=by
 obtain⟨q,cap,rfl,_⟩:=id hS
 refine yS (n:=8) Tryz.func152 rfl rfl ?_
 cases q with
 |none=>
  exact vAa
 |some a0=>
  refine gQ 9 rfl (g_v (λa w F M R r=>Zda (F.e rfl) (F.e rfl) r) (gQ 7 rfl (g_bs rfl rfl rfl rfl (λb5=>?_))))
  refine gQ 1 rfl (ZcF 0 rfl rfl own0 rfl (λw M=>(hS.later M.ext).src Zkw) Q0 Q0 (λ_=>rfl) (λu ent hO=>?_))
  exact vAp
def PhBg(s:RtV)(now frm:Int)(r:Value)(W w':World):Prop:=∃(b:Nat)(x:RtX)(e:RtE),r= .pointer (some ⟨b,0,none⟩)/\RtOw s x e/\Mem [] W w' ([(b, .cells (stC s x now frm (.slice none 0 0) (.slice none 0 0)).toArray 142 (0,0))]::e.row:Row).flatten
theorem ZrG(s:RtV)(x:RtX)(now frm:Int)(hsm:RtSm s)(W:World)(h:RtAt W s x):Cal prog 66 [.agg (rtC s x).toArray, .int .i64 now, .int .u64 frm].toArray W λr w'=>PhBg s now frm r W w':=by
 obtain⟨v6,v7,v8,v9,v10,v11,v12⟩:=x
 obtain⟨a6,a7,a8,a9,a10,a11,a12⟩:=h
 dsimp only at a6 a7 a8 a9 a10 a11 a12
 obtain⟨q6,c6,rfl,_⟩:=id a6
 obtain⟨q7,c7,rfl,_⟩:=id a7
 obtain⟨q8,c8,rfl,_⟩:=id a8
 obtain⟨q9,c9,rfl,_⟩:=id a9
 obtain⟨q10,c10,rfl,_⟩:=id a10
 obtain⟨q11,c11,rfl,_⟩:=id a11
 obtain⟨q12,c12,rfl,_⟩:=id a12
 obtain⟨l6,l7,l8,l9,l10,l11,l12⟩:=hsm
 refine yS (n:=42) Tryz.func66 rfl rfl (gQ 2 rfl (Zai rfl rfl λb3=>?_))
 refine W3 [6,0] ?_
 refine Zdr rfl rfl (λw M=>ZuC _ _ _ (Qw M.ext) Q0) (λv9 e9 hO9=>?_)
 refine W3 [1,0,5,0] ?_
 refine Zdr rfl rfl (λw M=>Zzv _ _ _ (Qw M.ext) Q0) (λv13 e13 hO13=>?_)
 refine W3 [1,0,5,0] ?_
 refine Zdr rfl rfl (λw M=>Zlu _ _ _ (Qw M.ext) Q0) (λv17 e17 hO17=>?_)
 refine W3 [1,0,5,0] ?_
 refine Zdr rfl rfl (λw M=>Zzs _ _ _ (Qw M.ext) Q0) (λv21 e21 hO21=>?_)
 refine W3 [1,0,5,0] ?_
 refine Zdr rfl rfl (λw M=>Zzt _ _ _ (Qw M.ext) Q0) (λv25 e25 hO25=>?_)
 refine W3 [1,0,5,0] ?_
 refine Zdr rfl rfl (λw M=>Zfq _ _ _ (Qw M.ext) Q0) (λv29 e29 hO29=>?_)
 refine W3 [1,0,6,0] ?_
 refine Zdr rfl rfl (λw M=>Zzu _ _ _ (Qw M.ext) Q0) (λv34 e34 hO34=>?_)
 refine W3 [2,0,4,0,2,0] ?_
 exact Zai rfl rfl λb41=>gQ 4 rfl (Zae rfl rfl rfl λw M=>⟨_,⟨v9,v13,v17,v21,v25,v29,v34⟩,⟨e9,e13,e17,e21,e25,e29,e34⟩,rfl,⟨hO9,hO13,hO17,hO21,hO25,hO29,hO34⟩,M.sub (subO (.cons_cons _ Qf))⟩)
structure PlD{α:Type}(key:α->DstV)(l:List α)(t:DstV)(i:Nat):Prop where
 le:i<=l.length
 lo:∀j(h:j<l.length),j<i->cmpD (key l[j]) t<0
 hi:∀j(h:j<l.length),i<=j->0<=cmpD (key l[j]) t
def fndD{α:Type}(key:α->DstV)(l:List α)(t:DstV)(i:Nat):Bool:=match l[i]? with|some y=>decide (key y=t)|none=>false
theorem Zue{a b:Nat}(h:a+b<=4000):IntKind.i64.wrap (Int.fdiv ((a:Int)+b) (2^min (Int.toNat 1) IntKind.u64.bits))=(((a+b)/2:Nat):Int):=by
 rw[show((2:Int)^min (Int.toNat 1) IntKind.u64.bits)=2 from rfl,Int.fdiv_eq_ediv_of_nonneg _ Q0]
 rw[ZlB Q0 Q0]
 omega
theorem ZzT{α:Type}{key:α->DstV}{l:List α}{t:DstV}(hA:l.Pairwise λa b=>cmpD (key a) (key b)<0)(hm:m<l.length)(h:cmpD (key l[m]) t<0)(hj:j<l.length)(h2:j<m+1):cmpD (key l[j]) t<0:=by
 rcases Nat.lt_or_ge j m with h3|h3
 ·exact Za6 (List.pairwise_iff_getElem.1 hA j m hj hm h3) h
 ·obtain rfl:j=m:=by omega
  exact h
theorem ZzU{α:Type}{key:α->DstV}{l:List α}{t:DstV}(hA:l.Pairwise λa b=>cmpD (key a) (key b)<0)(hm:m<l.length)(h:¬cmpD (key l[m]) t<0)(hj:j<l.length)(h2:m<=j):0<=cmpD (key l[j]) t:=by
 rcases Nat.lt_or_ge m j with h3|h3
 ·by_cases h4:cmpD (key l[j]) t<0
  ·exact absurd (Za6 (List.pairwise_iff_getElem.1 hA m j hm hj h3) h4) h
  ·omega
 ·obtain rfl:j=m:=by omega
  omega
theorem Zmu{α:Type}{key:α->DstV}{l:List α}{t:DstV}(h:i<l.length)(h1:IsDv (key l[i]))(h2:IsDv t):fndD key l t i=(cmpD (key l[i]) t==0):=by
 unfold fndD
 rw[List.getElem?_eq_getElem h]
 dsimp only
 rw[Bool.eq_iff_iff,decide_eq_true_eq,beq_iff_eq]
 exact(Zkp h1 h2).symm
theorem ZpA(x:ReqV)(hx:IsRq x)(t:DstV)(ht:IsDv t)(W:World):Cal prog 306 [.agg (rqC x).toArray, .agg (dvC t).toArray].toArray W λr w'=>r= .int .i64 (cmpD x.to t)/\Ext [] W w':=by
 have xd:IsDv x.to:=hx
 refine yS (n:=9) Tryz.func306 rfl rfl (gQ 2 rfl (Zai rfl rfl λb2=>Zai rfl rfl λb3=>?_))
 refine W4 [6,0,0,0,4] @Zb0 ?_
 exact vA5
theorem vAz(h:p:=by
  refine g_if rfl (λh1=>?_) (λh1=>?_)
  ·replace h1:=dqU h1
   refine W3 [2,0,3] ?_
   exact gN ((a+b)/2+1,b) ⟨Q0,hbl,λj h h2=>ZzT hA hmid (by have:=hx0;first|(rw[<-hx0];assumption)|(subst hx0;assumption)) h h2,hhi⟩
  ·replace h1:=dqV h1
   exact gQ 5 rfl (gN (a,(a+b)/2) ⟨Q0,Q0,hlo,λj h h2=>ZzU hA hmid (by have:=hx0;first|(rw[<-hx0];assumption)|(subst hx0;assumption)) h h2⟩)):p:=h
theorem vBL(h:p:=by
  have hf:fndD (·.to) l t a=false:=by unfold fndD;rw[List.getElem?_eq_none Q0]
  refine W3 [8,0,2,0,3,1016,5,0,11,0,3] ?_
  exact Zbo rfl rfl rfl rfl λw M=>⟨a,by rw[hf],hP,M.ext⟩):p:=h
theorem Zw1(l:List ReqV)(hx:∀x∈l,IsRq x)(hl:l.length<=1000)(hA:l.Pairwise λa b=>cmpD a.to b.to<0)(t:DstV)(ht:IsDv t)(v:Value)(W:World)(hS:SlAt W 40 v l.length (rqsC l)):Cal prog 305 [v, .agg (dvC t).toArray, .func (.func 306) #[] #[]].toArray W λr w'=>∃i:Nat,r= .tuple #[.int .i64 i, .bool (fndD (·.to) l t i)]/\PlD (·.to) l t i/\Ext [] W w':=by
 obtain⟨q,cap,rfl,_⟩:=id hS
 have hm:=hS.memB [] Q5
 refine yS (n:=49) Tryz.func305 rfl rfl (gQ 2 rfl (Zai rfl rfl λb4=>gQ 20 rfl (gL (ι:=Nat×Nat) ⟨λ(a,b)=>b-a,λ(a,b)=>a<=b/\b<=l.length/\(∀j(h:j<l.length),j<a->cmpD l[j].to t<0)/\(∀j(h:j<l.length),b<=j->0<=cmpD l[j].to t),λ(a,b)=>[(9, .int .i64 a),(10, .int .i64 b),(8, .int .i64 l.length),(0, .slice q l.length cap),(2, .func (.func 306) #[] #[]),(4, .pointer (some ⟨b4,0,none⟩))],λ_=>[[(b4, .cells (dvC t).toArray 67 (0,0))]]⟩ (0,l.length) ⟨Nat.zero_le _,Nat.le_refl _,λj h h2=>absurd h2 (Nat.not_lt_zero _),λj h h2=>absurd h Q0⟩ ?_)))
 rintro⟨a,b⟩ ⟨hab,hbl,hlo,hhi⟩
 dsimp only at hab hbl hlo hhi⊢
 have hm2:=Zue (a:=a) (b:=b) Q0
 by_cases hlt:a<b
 ·obtain⟨bb,o,cs,t',fz,rfl,hbb,hs⟩:=hm Q0
  have hmid:(a+b)/2<l.length:=by omega
  obtain⟨x,hx0⟩:∃x,x=l[(a+b)/2]:=⟨_,rfl⟩
  have hxi:IsRq x:=hx _ (hx0▸List.getElem_mem _)
  have f1:seg cs (o+(((a+b)/2:Nat):Int).toNat*40) 40=some (rqC x):=by rw[hx0];exact Zal (ZbB hx) hs hmid rfl
  refine W3 [8,0,7,0] ?_
  refine Zei rfl (Ze9 Q0 Q0) (g_v (λa w F M R r=>ZoA (F.e rfl) (F.e rfl) Q0 rfl r) ?_)
  refine W3 [0,3] ?_
  rw[hm2]
  refine W4 [1,1008,3,0,0,0,0,1,0,2] @ZpA ?_
  exact vAz
 ·obtain rfl:a=b:=by omega
  have hP:PlD (·.to) l t a:=⟨hbl,hlo,hhi⟩
  by_cases hla:a<l.length
  ·obtain⟨bb,o,cs,t',fz,rfl,hbb,hs⟩:=hm Q0
   obtain⟨x,hx0⟩:∃x,x=l[a]:=⟨_,rfl⟩
   have hxi:IsRq x:=hx _ (hx0▸List.getElem_mem _)
   have xd:IsDv x.to:=hxi
   have f1:seg cs (o+(a:Int).toNat*40) 40=some (rqC x):=by rw[hx0];exact Zal (ZbB hx) hs hla rfl
   have hf:fndD (·.to) l t a=(cmpD x.to t==0):=by rw[Zmu hla (hx0▸xd) ht,<-hx0]
   refine W4 [8,0,2,0,3,1016,5,0,3,0,0,0,0,4,0,3] @ZpA ?_
   exact Zbo rfl rfl rfl rfl λw M=>⟨a,by rw[hf],hP,M.ext⟩
  ·exact vBL
theorem Zpy(l:List ReqV)(hx:∀x∈l,IsRq x)(hl:l.length<=1000)(hA:l.Pairwise λa b=>cmpD a.to b.to<0)(t:DstV)(ht:IsDv t)(v:Value)(W:World)(hS:SlAt W 40 v l.length (rqsC l)):Cal prog 244 [v, .agg (dvC t).toArray].toArray W λr w'=>∃i:Nat,r= .tuple #[.int .i64 i, .bool (fndD (·.to) l t i)]/\PlD (·.to) l t i/\Ext [] W w':=by
 refine yS (n:=11) Tryz.func244 rfl rfl (gQ 2 rfl (Zai rfl rfl λb3=>?_))
 refine W3 [7,0] ?_
 refine ZaU (ι:=Nat) (λi=> .tuple #[.int .i64 i, .bool (fndD (·.to) l t i)]) (λi=>PlD (·.to) l t i) (λ_=>[]) rfl rfl (λw M=>Cal.mono (Zw1 l hx hl hA t ht v w (hS.later M.ext)) λr w' h=>h.elim λi h=>⟨i,h.1,h.2.1,Mem.nil h.2.2⟩) (λi hP=>?_)
 dsimp only[List.nil_append]
 exact gQ 7 rfl (Zbo rfl rfl rfl rfl λw M=>⟨i,rfl,hP,M.ext⟩)
theorem Zpz(x:SrcV)(hx:IsSr x)(t:DstV)(ht:IsDv t)(W:World):Cal prog 345 [.agg (srC x).toArray, .agg (dvC t).toArray].toArray W λr w'=>r= .int .i64 (cmpD x.to t)/\Ext [] W w':=by
 have xd:IsDv x.to:=hx.1
 refine yS (n:=9) Tryz.func345 rfl rfl (gQ 2 rfl (Zai rfl rfl λb2=>Zai rfl rfl λb3=>?_))
 refine W4 [6,0,0,0,4] @Zb0 ?_
 exact vA5
theorem Zw0(l:List SrcV)(hx:∀x∈l,IsSr x)(hl:l.length<=1000)(hA:l.Pairwise λa b=>cmpD a.to b.to<0)(t:DstV)(ht:IsDv t)(v:Value)(W:World)(hS:SlAt W 38 v l.length (srsC l)):Cal prog 344 [v, .agg (dvC t).toArray, .func (.func 345) #[] #[]].toArray W λr w'=>∃i:Nat,r= .tuple #[.int .i64 i, .bool (fndD (·.to) l t i)]/\PlD (·.to) l t i/\Ext [] W w':=by
 obtain⟨q,cap,rfl,_⟩:=id hS
 have hm:=hS.memB [] Q5
 refine yS (n:=49) Tryz.func344 rfl rfl (gQ 2 rfl (Zai rfl rfl λb4=>gQ 20 rfl (gL (ι:=Nat×Nat) ⟨λ(a,b)=>b-a,λ(a,b)=>a<=b/\b<=l.length/\(∀j(h:j<l.length),j<a->cmpD l[j].to t<0)/\(∀j(h:j<l.length),b<=j->0<=cmpD l[j].to t),λ(a,b)=>[(9, .int .i64 a),(10, .int .i64 b),(8, .int .i64 l.length),(0, .slice q l.length cap),(2, .func (.func 345) #[] #[]),(4, .pointer (some ⟨b4,0,none⟩))],λ_=>[[(b4, .cells (dvC t).toArray 67 (0,0))]]⟩ (0,l.length) ⟨Nat.zero_le _,Nat.le_refl _,λj h h2=>absurd h2 (Nat.not_lt_zero _),λj h h2=>absurd h Q0⟩ ?_)))
 rintro⟨a,b⟩ ⟨hab,hbl,hlo,hhi⟩
 dsimp only at hab hbl hlo hhi⊢
 have hm2:=Zue (a:=a) (b:=b) Q0
 by_cases hlt:a<b
 ·obtain⟨bb,o,cs,t',fz,rfl,hbb,hs⟩:=hm Q0
  have hmid:(a+b)/2<l.length:=by omega
  obtain⟨x,hx0⟩:∃x,x=l[(a+b)/2]:=⟨_,rfl⟩
  have hxi:IsSr x:=hx _ (hx0▸List.getElem_mem _)
  have f1:seg cs (o+(((a+b)/2:Nat):Int).toNat*38) 38=some (srC x):=by rw[hx0];exact Zal (ZbN hx) hs hmid rfl
  refine W3 [8,0,7,0] ?_
  refine Zei rfl (Ze9 Q0 Q0) (g_v (λa w F M R r=>ZoA (F.e rfl) (F.e rfl) Q0 rfl r) ?_)
  refine W3 [0,3] ?_
  rw[hm2]
  refine W4 [1,1008,3,0,0,0,0,1,0,2] @Zpz ?_
  exact vAz
 ·obtain rfl:a=b:=by omega
  have hP:PlD (·.to) l t a:=⟨hbl,hlo,hhi⟩
  by_cases hla:a<l.length
  ·obtain⟨bb,o,cs,t',fz,rfl,hbb,hs⟩:=hm Q0
   obtain⟨x,hx0⟩:∃x,x=l[a]:=⟨_,rfl⟩
   have hxi:IsSr x:=hx _ (hx0▸List.getElem_mem _)
   have xd:IsDv x.to:=hxi.1
   have f1:seg cs (o+(a:Int).toNat*38) 38=some (srC x):=by rw[hx0];exact Zal (ZbN hx) hs hla rfl
   have hf:fndD (·.to) l t a=(cmpD x.to t==0):=by rw[Zmu hla (hx0▸xd) ht,<-hx0]
   refine W4 [8,0,2,0,3,1016,5,0,3,0,0,0,0,4,0,3] @Zpz ?_
   exact Zbo rfl rfl rfl rfl λw M=>⟨a,by rw[hf],hP,M.ext⟩
  ·exact vBL
theorem Zvk(l:List SrcV)(hx:∀x∈l,IsSr x)(hl:l.length<=1000)(hA:l.Pairwise λa b=>cmpD a.to b.to<0)(t:DstV)(ht:IsDv t)(v:Value)(W:World)(hS:SlAt W 38 v l.length (srsC l)):Cal prog 310 [v, .agg (dvC t).toArray].toArray W λr w'=>∃i:Nat,r= .tuple #[.int .i64 i, .bool (fndD (·.to) l t i)]/\PlD (·.to) l t i/\Ext [] W w':=by
 refine yS (n:=11) Tryz.func310 rfl rfl (gQ 2 rfl (Zai rfl rfl λb3=>?_))
 refine W3 [7,0] ?_
 refine ZaU (ι:=Nat) (λi=> .tuple #[.int .i64 i, .bool (fndD (·.to) l t i)]) (λi=>PlD (·.to) l t i) (λ_=>[]) rfl rfl (λw M=>Cal.mono (Zw0 l hx hl hA t ht v w (hS.later M.ext)) λr w' h=>h.elim λi h=>⟨i,h.1,h.2.1,Mem.nil h.2.2⟩) (λi hP=>?_)
 dsimp only[List.nil_append]
 exact gQ 7 rfl (Zbo rfl rfl rfl rfl λw M=>⟨i,rfl,hP,M.ext⟩)
theorem Zv7{α:Type}{Is:α->Prop}{l:List α}{q:Nat}{x:α}(h:∀y∈l,Is y)(hx:Is x):∀y∈l.set q x,Is y:=λy hy=>by
 rcases List.mem_or_eq_of_mem_set hy with h1|rfl
 ·exact h y h1
 ·exact hx
def getV(l:List InsV)(t:DstV):Option InsV:=l.find? λx=>decide (x.to=t)
theorem ZlZ(l:List InsV)(hx:∀x∈l,IsIn x)(v:Value)(t:DstV)(ht:IsDv t)(W:World)(hS:SlAt W 40 v l.length (insC l))(hlen:l.length<=100000):
  Cal prog 55 [v, .agg (dvC t).toArray].toArray W λr w'=>r= .tuple [.agg (inC ((getV l t).getD in0)).toArray, .bool (getV l t).isSome].toArray/\Ext [] W w':=by
 obtain⟨q,cap,rfl,hcap,hsp,hll,hm⟩:=id hS
 have c1:∀w,getV l t=none->Ext [] W w->Value.tuple [.agg (inC in0).toArray, .bool false].toArray= .tuple [.agg (inC ((getV l t).getD in0)).toArray, .bool (getV l t).isSome].toArray/\Ext [] W w:=λw h E=>by
  rw[h]
  exact⟨rfl,E⟩
 have c2:∀w d,getV l t=some d->Ext [] W w->Value.tuple [.agg (inC d).toArray, .bool true].toArray= .tuple [.agg (inC ((getV l t).getD in0)).toArray, .bool (getV l t).isSome].toArray/\Ext [] W w:=λw d h E=>by
  rw[h]
  exact⟨rfl,E⟩
 have hz:ZaD [(0,35),(35,1),(36,2),(38,1),(39,1)] inZ []=some (inC in0):=rfl
 have hi0:=ZnH
 refine Zar (n:=21) [] Tryz.func55 rfl rfl rfl ?_
 intro a w F M hwW
 refine Zea (ZdV ?_)
 refine sD F (ZjX M (F.e rfl) rfl ?_);clear F M;intro b3 w M a F
 refine sD F (Zay M ?_);clear F M;intro b4 w M a F
 refine W1 12 ?_;intro a F
 obtain⟨R,hR⟩:∃R,(l.drop 0).find? (λx=>decide (x.to=t))=R:=⟨_,rfl⟩
 have hV:getV l t=R:=hR
 refine ZbK (λm a w=>∃(i:Nat),m=l.length-i/\i<=l.length/\((l.drop i).find? (λx=>decide (x.to=t))=R)/\Frm a 21 [] [(10, .int .i64 i),(9, .int .i64 l.length),(8, .slice q l.length cap),(3, .pointer (some ⟨b3,0,none⟩)),(4, .pointer (some ⟨b4,0,none⟩))]/\Mem [] W w [(b4, .cells inZ.toArray 74 (0,0)),(b3, .cells (dvC t).toArray 67 (0,0))]) l.length ⟨0,rfl,Q0,hR,F.only [10,9,8,3,4] rfl,M.sub Qa⟩ ?_
 clear F M a w
 rintro m a w ⟨i,hm',hi,hf,F,M⟩
 by_cases hlt:i<l.length
 ·obtain⟨b,o,cs,t',fz,rfl,hb,hs⟩:=hm Q0
  obtain⟨y,hy0⟩:∃y,y=l[i]:=⟨_,rfl⟩
  have hyi:IsIn y:=by rw[hy0];exact hx _ (List.getElem_mem hlt)
  have f1:seg cs (o+(i:Int).toNat*40) 40=some (inC y):=by rw[hy0];exact Zal (ZbU hx) hs hlt Q0
  rw[<-List.getElem_cons_drop hlt,<-hy0] at hf
  clear hy0
  rw[List.find?_cons] at hf
  refine W1 14 ?_;intro a F
  refine sD F (ZjU M (F.e rfl) Qd (Zbe Qd (Zfl Q9) Q0) ?_);clear F a;intro a F
  refine sD F (Zay M ?_);clear F M;intro b7 w M a F
  refine ZaW rfl F (Zap M (F.e rfl) (F.e rfl) (Zbu Q9) (ZcE _) Q1 (Zat (by rw[(Zbu Q9)];first|rfl|rw[(Zbu Q9)])) Q1 ?_);clear F M;intro w M a F
  refine W1 5 ?_;intro a F
  refine sD F (Zbs M (F.e rfl) Q1 (Zgu Q9) ?_);clear F a;intro a F
  refine sD F (Zbs M (F.e rfl) Q1 (Zcx Q9) ?_);clear F a;intro a F
  refine sD F (Zl7 (F.e rfl) (F.e rfl) (ZaG Q9) (ZaG Q9) (Zc3 Q9 Q9) ?_);clear F a;intro a F
  with_reducible refine ZdS (Zc6 ?_)
  refine c_if F rfl (λh1=>?_) (λh1=>?_)
  ·rw[h1] at F;replace h1:=dqU h1
   refine Zea (ZdV ?_)
   refine sD F (Zbs M (F.e rfl) Q1 (Zfl Q9) ?_);clear F a;intro a F
   refine ZaW rfl F (Zap M (F.e rfl) (F.e rfl) (Zbu Q9) (ZcE _) Q1 (Zat (by rw[(Zbu Q9)];first|rfl|rw[(Zbu Q9)])) Q1 ?_);clear F M;intro w M a F
   refine W1 9 ?_;intro a F
   refine ZdP F rfl (.cons (.cell (F.e rfl) (Zam TAgg.h (M.heap Q1) (Zfl Q9))) (.cons (.tmp (F.e rfl)) .nil)) ?_;(try dsimp only[Zce])
   exact c2 _ _ (by rw[hV,<-hf];simp[*]) M.ext
  ·rw[h1] at F;replace h1:=dqV h1
   refine W1 8 ?_;intro a F
   exact⟨_,Q0,i+1,rfl,Q0,by rw[<-hf];simp[*],F.only [10,9,8,3,4] rfl,M.sub Qc⟩
 ·obtain rfl:i=l.length:=by omega
  rw[List.drop_length] at hf
  refine W1 15 ?_;intro a F
  refine ZaW rfl F (Zap M (F.e rfl) (F.e rfl) (Zbu Q9) (ZcE _) Q1 (Zat (by rw[(Zbu Q9)];first|rfl|rw[(Zbu Q9)])) Q1 ?_);clear F M;intro w M a F
  refine W1 4 ?_;intro a F
  refine ZdP F rfl (.cons (.cell (F.e rfl) (Zam TAgg.h (M.heap Q1) (Zfl Q9))) (.cons (.tmp (F.e rfl)) .nil)) ?_;(try dsimp only[Zce])
  exact c1 _ (by rw[hV,<-hf];rfl) M.ext
theorem Ztl(l:List RouV)(hx:∀x∈l,IsRo x)(hlen:l.length<=100000)(u v:Value)(W:World)(hu:SlAt W 39 u l.length (rosC l))(hv:SlAt W 39 v l.length (rosC l)):
  Cal prog 97 [u,v].toArray W λr w'=>r= .bool true/\Ext [] W w':=by
 obtain⟨q1,cap1,rfl,hc1,hn1,hl1,hm1⟩:=hu
 obtain⟨q2,cap2,rfl,hc2,hn2,hl2,hm2⟩:=hv
 refine Zar (n:=26) [] Tryz.func97 rfl rfl rfl ?_
 intro a w F M hwW
 refine W1 27 ?_;intro a F
 refine ZbK (λm a w=>∃i:Nat,m=l.length-i/\i<=l.length/\Frm a 26 [] [(13, .int .i64 i),(12, .int .i64 l.length),(0, .slice q1 l.length cap1),(1, .slice q2 l.length cap2)]/\Mem [] W w []) l.length ⟨0,rfl,Q0,F.only [13,12,0,1] rfl,M⟩ ?_
 clear F M
 rintro m a w ⟨i,hm',hi,F,M⟩
 by_cases hlt:i<l.length
 ·obtain⟨b,o,cs,t,fz,rfl,hb,hs⟩:=hm1 Q0
  obtain⟨b',o',cs',t',fz',rfl,hb',hs'⟩:=hm2 Q0
  obtain⟨p,hp0⟩:∃p,p=l[i]:=⟨_,rfl⟩
  have hpi:IsRo p:=by rw[hp0];exact hx _ (List.getElem_mem hlt)
  have f1:seg cs (o+(i:Int).toNat*39) 39=some (roC p):=by rw[hp0];exact Zal (Zbw hx) hs hlt Q0
  have f2:seg cs' (o'+(i:Int).toNat*39) 39=some (roC p):=by rw[hp0];exact Zal (Zbw hx) hs' hlt Q0
  have f3:=Zvu hpi
  have f4:eqVs (roC p) (roC p)=true:=by rw[ZzR hpi hpi];simp
  exact vAr
 ·obtain rfl:i=l.length:=by omega
  exact vBR
theorem vAJ(h:p:=by
  cases hp:p ls[i]
  ·rw[hp] at F
   refine W1 11 ?_;intro a F
   exact⟨_,Q0,i+1,rfl,Q0,λj hj hj2=>by
    rcases Nat.lt_or_ge j i with h|h
    ·exact hno j h hj2
    ·obtain rfl:j=i:=by omega
     exact hp,F.only [8,7,0,1] rfl,M⟩
  ·rw[hp] at F
   refine W1 15 ?_;intro a F
   refine Qq F ?_
   exact⟨by rw[ZnU hlt hp λj hj=>hno j hj Q0];(try rfl),M.ext⟩):p:=h
theorem vCd(h:p:=by
  obtain rfl:i=ls.length:=by omega
  refine W1 18 ?_;intro a F
  refine Qq F ?_
  exact⟨by rw[Zjl λj hj=>hno j hj hj];(try rfl),M.ext⟩):p:=h
theorem ZnG{ls:List RouV}(W:World)(hS:SlAt W 39 v ls.length (rosC ls))(hls:∀l∈ls,IsRo l)(hlen:ls.length<=1000)(g:FuncId) [hg:Zad prog g](caps:List Value)(p:RouV->Bool)
  (hcl:∀w l,Ext [] W w->l∈ls->Cal prog g (.agg (roC l).toArray::caps).toArray w λv w'=>v= .bool (p l)/\Ext [] w w'):
  Cal prog 197 [v, .func (.func g) #[] caps.toArray].toArray W λx w'=>x= .int .i64 (Zfn p ls)/\Ext [] W w':=by
 obtain⟨q,cap,rfl,hcap,hsp,hl,hm⟩:=hS
 refine Zar (n:=19) [] Tryz.func197 rfl rfl rfl ?_
 intro a w F M hwW
 refine W1 14 ?_;intro a F
 refine ZbK (λk a w=>∃i:Nat,k=ls.length-i/\i<=ls.length/\(∀j(hj:j<i)(hj2:j<ls.length),p ls[j]=false)/\Frm a 19 [] [(8, .int .i64 i),(7, .int .i64 ls.length),(0, .slice q ls.length cap),(1, .func (.func g) #[] caps.toArray)]/\Mem [] W w []) ls.length ⟨0,rfl,Q0,Q0,F.only [8,7,0,1] rfl,M⟩ ?_
 clear F M
 rintro k a w ⟨i,hk,hi,hno,F,M⟩
 by_cases hlt:i<ls.length
 ·obtain⟨b,o,cs,t,fz,rfl,hb,hs⟩:=hm Q0
  have e1:seg cs (o+(i:Int).toNat*39) 39=some (roC ls[i]):=Zal (Zbw hls) hs hlt Q0
  refine W1 24 ?_;intro a F
  (refine sD F (ZfB (us:=(.agg (roC ls[i]).toArray::caps).toArray) (F.e rfl) (F.evs rfl) Q5 (Cal.mono (hcl _ ls[i] M.ext (List.getElem_mem hlt)) ?_));clear F;clear a;rintro _ w ⟨rfl,hE⟩ a F;replace M:=M.later hE;clear hE)
  exact vAJ
 ·exact vCd
theorem ZcV{α:Type}{p:α->Bool}{ls:List α}(h:j<ls.length):(ls.take (j+1)).filter p=(ls.take j).filter p++if p ls[j]=true then [ls[j]] else []:=by
 rw[List.take_add_one,List.getElem?_eq_getElem h,List.filter_append]
 simp only[Option.toList_some,List.filter_cons,List.filter_nil]
theorem vBc(h:p:=by
  refine W1 15 ?_;intro a F
  exact⟨_,Q0,i2+1,j+1,_,rfl,Q0,Q0,by rw[List.length_set];exact hcl2,Zv7 hcI (hI x hxm),by rw[Zf6 Q0,hct,hst],λq hq=>by rw[List.getElem?_set_ne Q0];exact hcp q Q0,F.only [5,6,0,1] rfl,M.sub (.cons _ (.refl _))⟩):p:=h
theorem vBq(h:p:=by
  rw[hp] at F
  rw[if_neg (by rw[hp];simp),List.append_nil] at hst
  refine W1 13 ?_;intro a F
  exact⟨_,Q0,i2,j+1,cur,rfl,Q0,Q0,hcl2,hcI,by rw[hct,hst],λq hq=>hcp q Q0,F.only [5,6,0,1] rfl,M.sub (.cons _ (.refl _))⟩):p:=h
theorem vBP(h:p:=by
  have hfl:(ls.filter λx=> !p x)=ls:=List.filter_eq_self.2 λx hx=>by rw[h2 x hx];rfl
  rw[h1] at F
  rw[hfl]
  refine W1 19 ?_;intro a F
  exact Qq F (⟨junk,rfl,hjl,hnc,M⟩)):p:=h
theorem vCH(h:p:=by
  obtain⟨j,hj,rfl⟩:=List.mem_iff_getElem.1 hx
  rw[List.length_take] at hj
  rw[List.getElem_take,h3 j Q0];rfl):p:=h
theorem vCN(h:p:=by
  exact Zkc hcs junk (show i2<cur.length by omega) (off:=0) (Zat (by rw[x1,hcs _ (List.getElem_mem _)])) Q0):p:=h
theorem vCY(h:p:=by
  have:=hcp j Q0
  rwa[List.getElem?_eq_getElem Q0,List.getElem?_eq_getElem hlt,Option.some.injEq] at this):p:=h
theorem Zkk{ls:List RouV}(hI:∀x∈ls,IsRo x)(hlen:ls.length<=1000)(W:World)(hb:W.heap[b]? =some (.cells (rosC ls++junk).toArray 76 (0,0)))(hjl:junk.length=(cap-ls.length)*39)(hnc:ls.length<=cap)(g:FuncId) [hg:Zad prog g](caps:List Value)(p:RouV->Bool)
  (hcl:∀w x,Ext [b] W w->x∈ls->Cal prog g (.agg (roC x).toArray::caps).toArray w λv w'=>v= .bool (p x)/\Ext [] w w'):
  Cal prog 298 [.slice (some ⟨b,0,none⟩) ls.length cap, .func (.func g) #[] caps.toArray].toArray W λr w'=>∃junk':List Value,r= .slice (some ⟨b,0,none⟩) (ls.filter λx=> !p x).length cap/\junk'.length=(cap-(ls.filter λx=> !p x).length)*39/\(ls.filter λx=> !p x).length<=cap/\Mem [b] W w' [(b, .cells (rosC (ls.filter λx=> !p x)++junk').toArray 76 (0,0))]:=by
 have hsz:∀x∈ls,(roC x).length=39:=Zbw hI
 refine Zar (n:=42) [b] Tryz.func298 rfl rfl rfl ?_
 intro a w F M hwW
 replace M:=M.came hwW hb Q5 Q5
 have hO:OwnS 76 39 (.slice (some ⟨b,0,none⟩) ls.length cap) ls.length (rosC ls) [(b, .cells (rosC ls++junk).toArray 76 (0,0))]:= .inr ⟨b,cap,junk,rfl,rfl,Za2 hsz,hjl,hnc⟩
 refine W1 9 ?_;intro a F
 (refine Qy F M rfl rfl (ZnG _ (hO.slAt M (λq hq=>hq)) hI hlen g caps p (λw' x E hm=>hcl w' x (M.ext.trans E.any) hm)) ?_;clear F M a;intro w a M F)
 rcases Ziq p ls with⟨h1,h2⟩|⟨i,hi,h1,h2,h3⟩
 ·exact vBP
 rw[h1] at F
 have hf0:(ls.take i).filter (λx=> !p x)=ls.take i:=List.filter_eq_self.2 λx hx=>by
  exact vCH
 have hf1:(ls.take (i+1)).filter (λx=> !p x)=ls.take i:=by
  rw[ZcV hi,hf0,h2];simp
 refine W1 22 ?_;intro a F
 refine ZbK (λm a w=>∃(i2 j:Nat)(cur:List RouV),m=ls.length-j/\i2<j/\j<=ls.length/\cur.length=ls.length/\(∀x∈cur,IsRo x)/\cur.take i2=(ls.take j).filter (λx=> !p x)/\(∀q,j<=q->cur[q]? =ls[q]?)/\Frm a 42 [] [(5, .int .i64 i2),(6, .int .i64 j),(0, .slice (some ⟨b,0,none⟩) ls.length cap),(1, .func (.func g) #[] caps.toArray)]/\Mem [b] W w [(b, .cells (rosC cur++junk).toArray 76 (0,0))]) (ls.length-(i+1)) ⟨i,i+1,ls,rfl,Q0,Q0,rfl,hI,hf1.symm,λ_ _=>rfl,F.only [5,6,0,1] rfl,M⟩ ?_
 clear F M
 rintro m a w ⟨i2,j,cur,hm,hi2,hj,hcl2,hcI,hct,hcp,F,M⟩
 have hcs:=Zbw hcI
 by_cases hlt:j<ls.length
 ·have e1:cur[j]=ls[j]:=by
   exact vCY
  have hst:=ZcV (p:=λx=> !p x) hlt
  have hxm:ls[j]∈ls:=List.getElem_mem hlt
  have f1:seg (rosC cur++junk) (0+(j:Int).toNat*39) 39=some (roC ls[j]):=by rw[<-e1];exact Zeu hcs junk Q0 Q0
  clear e1
  generalize ls[j]=x at*
  have x1:=Zdy (hI x hxm)
  have x2:=ZtZ (hI x hxm)
  refine W1 20 ?_;intro a F
  (refine sD F (Zay M ?_);clear F M;intro b7 w M a F)
  (refine ZaW rfl F (Zap M (F.e rfl) (F.e rfl) (x1) (Zd1 x)  Q1  (Zat (by rw[x1];rfl)) Q1 ?_);clear F M;intro w M a F)
  refine W1 6 ?_;intro a F
  (refine sD F (ZfB (us:=(.agg (roC x).toArray::caps).toArray) (F.e rfl) (F.evs rfl) Q5 (Cal.mono (hcl _ x M.ext hxm) ?_));clear F;clear a;rintro _ w ⟨rfl,hE⟩ a F;replace M:=M.later hE;clear hE)
  cases hp:p x
  ·rw[hp] at F
   rw[if_pos (by rw[hp];rfl)] at hst
   have hpt:put (rosC cur++junk) (0+(i2:Int).toNat*39) (roC x)=some (rosC (cur.set i2 x)++junk):=
    vCN
   refine W1 10 ?_;intro a F
   (refine ZaW rfl F (Zap M (F.e rfl) (F.e rfl) x1 (Zd1 _)  Q1  hpt Q1 ?_);clear F M;intro w M a F)
   exact vBc
  ·exact vBq
 ·have hjl2:j=ls.length:=by omega
  rw[hjl2,List.take_length] at hct
  have hfl:(ls.filter λx=> !p x).length=i2:=by rw[<-hct,List.length_take];omega
  refine W1 19 ?_;intro a F
  (refine sD F (Zew (F.e rfl) (F.e rfl) Q0 Q0 Q0 ?_);clear F a;intro a F)
  simp only[Int.toNat_natCast] at F
  have hcl3:(rosC cur++junk).length=cap*39:=by rw[List.length_append,Za2 hcs,hjl,hcl2,<-Nat.add_mul];congr 1;omega
  (refine ZaW rfl F (ZjW (sz:=39) M (F.e rfl) Q0 rfl rfl .here (by rw[hcl3];omega) (λvs=> .here) ?_);clear F M;intro vs w hvs M a F)
  refine W1 6 ?_;intro a F
  (refine sD F (ZjT (F.e rfl) (F.e rfl) Q5 Q0 Q0 ?_);clear F a;intro a F)
  simp only[Int.toNat_natCast] at F
  refine W1 4 ?_;intro a F
  refine Qq F ?_
  refine⟨vs++(rosC cur++junk).drop (0+i2*39+vs.length),by rw[hfl];(try rfl),by rw[List.length_append,List.length_drop,hcl3,hvs,hfl];omega,Q0,?_⟩
  have hsp:ZbD (rosC cur++junk) (0+i2*39) vs=rosC (ls.filter λx=> !p x)++(vs++(rosC cur++junk).drop (0+i2*39+vs.length)):=by
   exact vBx
  rw[<-hsp]
  exact M
theorem Zkl(W:World)(g:FuncId) [hg:Zad prog g](caps:List Value):Cal prog 298 [.slice none 0 0, .func (.func g) #[] caps.toArray].toArray W λr w'=>r= .slice none 0 0/\Ext [] W w':=by
 refine Zar (n:=42) [] Tryz.func298 rfl rfl rfl ?_
 intro a w F M hwW
 refine W1 9 ?_;intro a F
 (refine Qy F M rfl rfl (ZnG (ls:=[]) _ (SlAt.nil _ _) Q5 Q5 g caps (λ_=>true) (λw' x E hm=>by cases hm)) ?_;clear F M a;intro w a M F)
 rw[show Zfn (λ_:RouV=>true) []= -1 from rfl] at F
 refine W1 19 ?_;intro a F
 exact Qq F (⟨rfl,M.ext⟩)
def ZcR(l:List RouV)(p:RouV->Bool):List RouV:=if Za7 l then l.filter (λx=> !p x) else []
def ZeZ(l:List RouV)(nb:Int):List RouV:=ZcR l λx=>x.nb==nb
def ZaF(l:List RouV)(now:Int):List RouV:=if Zag now then ZcR l (λx=>decide (x.til<=now)) else []
theorem ZkD(l:List RouV)(hx:∀x∈l,IsRo x)(v:Value)(W:World)(hS:SlAt W 39 v l.length (rosC l))(g:FuncId) [hg:Zad prog g](caps:List Value)(p:RouV->Bool)
  (hcl:∀w x,Ext [] W w->x∈l->Cal prog g (.agg (roC x).toArray::caps).toArray w λv w'=>v= .bool (p x)/\Ext [] w w'):
  Cal prog 235 [v, .func (.func g) #[] caps.toArray].toArray W λr w'=>∃ent,OwnS 76 39 r (ZcR l p).length (rosC (ZcR l p)) ent/\Mem [] W w' ent:=by
 obtain⟨q,cap,rfl,_⟩:=id hS
 refine Zar (n:=12) [] Tryz.func235 rfl rfl rfl ?_
 intro a w F M hwW
 refine W5 10 @Zdx ?_;intro a w F M
 unfold ZcR
 cases hv:Za7 l
 ·rw[hv] at F
  rw[if_neg Q5]
  refine W1 11 ?_;intro a F
  exact Qq F (⟨[],OwnS.nil _ _,M⟩)
 rw[hv] at F
 rw[if_pos rfl]
 have hl:=(Zbd.1 hv).1
 refine W1 9 ?_;intro a F
 (refine sD F (Zav (F.e rfl) (F.evs rfl) (Cal.mono (Zty l Q0 _ _ (hS.later M.ext)) ?_));clear F;clear a;rintro _ w ⟨es,hO,_,N⟩ a F;replace M:=M.joins N;clear N)
 rcases hO with⟨rfl,h0,_,rfl⟩|⟨b,cp,junk,rfl,rfl,hxl,hjl,hnc⟩
 ·obtain rfl:l=[]:=List.length_eq_zero_iff.1 h0
  refine W5 6 @Zkl ?_;intro a w F M
  exact Qq F (⟨[],OwnS.nil _ _,M.sub (List.nil_sublist _)⟩)
 have hbW:W.heap.size<=b:=(M.own (b,Obj.cells (rosC l++junk).toArray 76 (0,0)) Q5).resolve_left Q5
 have hEb:∀w':World,Ext [b] w w'->Ext [] W w':=λw' E=>(M.ext.any.trans E).fresh λk hk=> .inr (by simp only[List.mem_singleton] at hk;rw[hk];exact hbW)
 refine W1 1 ?_;intro a F
 (refine sD F (Zav (F.e rfl) (F.evs rfl) (Cal.mono (Zkk hx Q0 _ (M.heap .here) hjl hnc g caps p (λw' x E hm=>hcl w' x (hEb w' E) hm)) ?_));clear F;clear a;rintro _ w ⟨junk',rfl,hj1,hj2,N⟩ a F;replace M:=M.turn1 N .here;clear N)
 refine W1 4 ?_;intro a F
 exact Qq F (⟨[(b,_)], .inr ⟨b,cp,junk',rfl,rfl,Za2 (Zbw λx hx'=>hx x (List.mem_filter.1 hx').1),hj1,hj2⟩,M.sub (.cons_cons _ (List.nil_sublist _))⟩)
theorem vAX(h:p:=by
  refine Zae rfl rfl rfl λw M=>?_
  with_reducible exact⟨rfl,M.ext⟩):p:=h
theorem Zrb(x:RouV)(hx:IsRo x)(nb:Int)(W:World)(hb:W.heap[b]? =some (.cells [Value.int .u64 nb].toArray t ft)):Cal prog 297 [.agg (roC x).toArray, .pointer (some ⟨b,0,none⟩)].toArray W λv w'=>v= .bool (x.nb==nb)/\Ext [] W w':=by
 have hb':∀w',Ext [] W w'->w'.heap[b]? =some (.cells [Value.int .u64 nb].toArray t ft):=λw' E=>by rw[E.block b (Array.getElem?_eq_some_iff.1 hb).1 Q5];exact hb
 refine yS (n:=8) Tryz.func297 rfl rfl ?_
 have h1:nth [Value.int .u64 nb] 0=some (.int .u64 nb):=rfl
 refine gQ 2 rfl (Zai rfl rfl λb2=>?_)
 refine W3 [6,0,0,5] ?_
 exact vAX
theorem Zri(x:RouV)(hx:IsRo x)(now:Int)(W:World)(hb:W.heap[b]? =some (.cells [Value.int .i64 now].toArray t ft)):Cal prog 236 [.agg (roC x).toArray, .pointer (some ⟨b,0,none⟩)].toArray W λv w'=>v= .bool (decide (x.til<=now))/\Ext [] W w':=by
 have hb':∀w',Ext [] W w'->w'.heap[b]? =some (.cells [Value.int .i64 now].toArray t ft):=λw' E=>by rw[E.block b (Array.getElem?_eq_some_iff.1 hb).1 Q5];exact hb
 refine yS (n:=8) Tryz.func236 rfl rfl ?_
 have h1:nth [Value.int .i64 now] 0=some (.int .i64 now):=rfl
 refine gQ 2 rfl (Zai rfl rfl λb2=>?_)
 refine W3 [6,0,0,5] ?_
 exact vAX
theorem Zte(l:List RouV)(hx:∀x∈l,IsRo x)(v:Value)(nb:Int)(W:World)(hS:SlAt W 39 v l.length (rosC l)):
  Cal prog 234 [v, .int .u64 nb].toArray W λr w'=>∃ent,OwnS 76 39 r (ZeZ l nb).length (rosC (ZeZ l nb)) ent/\Mem [] W w' ent:=by
 obtain⟨q,cap,rfl,_⟩:=id hS
 refine Zar (n:=8) [] Tryz.func234 rfl rfl rfl ?_
 intro a w F M hwW
 refine W1 2 ?_;intro a F
 refine Qs F M ?_;clear F M;intro b3 w M a F
 refine W1 6 ?_;intro a F
 (refine sD F (ZgX (F.evs (xs:=[]) rfl) (F.evs (xs:=[.tmp 3]) rfl) ?_);clear F a;intro a F)
 (refine sD F (Zav (F.e rfl) (F.evs rfl) (Cal.mono (ZkD l hx _ _ (hS.later M.ext) 297 [.pointer (some ⟨b3,0,none⟩)] (λx=>x.nb==nb) (λw' x E hm=>Zrb x (hx x hm) nb w' ((M.later E).heap .here))) ?_));clear F;clear a;rintro u w ⟨ent,hO,N⟩ a F;replace M:=M.joins N)
 refine W1 4 ?_;intro a F
 exact Qq F (⟨ent,hO,M.sub (List.sublist_append_left _ _)⟩)
theorem Zti(l:List RouV)(hx:∀x∈l,IsRo x)(v:Value)(now:Int)(W:World)(hS:SlAt W 39 v l.length (rosC l)):
  Cal prog 154 [v, .int .i64 now].toArray W λr w'=>∃ent,OwnS 76 39 r (ZaF l now).length (rosC (ZaF l now)) ent/\Mem [] W w' ent:=by
 obtain⟨q,cap,rfl,_⟩:=id hS
 unfold ZaF
 refine Zar (n:=11) [] Tryz.func154 rfl rfl rfl ?_
 intro a w F M hwW
 refine W1 2 ?_;intro a F
 refine Qs F M ?_;clear F M;intro b3 w M a F
 refine W5 8 @ZeN ?_;intro a w F M
 cases ht:Zag now
 ·rw[ht] at F
  rw[if_neg Q5]
  refine W1 11 ?_;intro a F
  exact Qq F (⟨[],OwnS.nil _ _,M.sub (List.nil_sublist _)⟩)
 rw[ht] at F
 rw[if_pos rfl]
 refine W1 9 ?_;intro a F
 (refine sD F (ZgX (F.evs (xs:=[]) rfl) (F.evs (xs:=[.tmp 3]) rfl) ?_);clear F a;intro a F)
 (refine sD F (Zav (F.e rfl) (F.evs rfl) (Cal.mono (ZkD l hx _ _ (hS.later M.ext) 236 [.pointer (some ⟨b3,0,none⟩)] (λx=>decide (x.til<=now)) (λw' x E hm=>Zri x (hx x hm) now w' ((M.later E).heap .here))) ?_));clear F;clear a;rintro u w ⟨ent,hO,N⟩ a F;replace M:=M.joins N)
 refine W1 4 ?_;intro a F
 exact Qq F (⟨ent,hO,M.sub (List.sublist_append_left _ _)⟩)
section
variable {P:Program} {ρ:Operand->Value} {w W0:World} {S:List Nat} {l:EN} {R:Value->World->Prop} {d:Option Tmp} {ty:TypeId} {pos:String} {af:Array Edge} {g:Option (Nat×Bool)}
theorem ZoD{st xt e:TypeId}{sz by_ n m b cap:Nat}{xv:Value}{xs junk ys:List Value} [hst:TU P st (.slice e)] [hel:TEl P e sz by_] [hxt:TNI P xt](M:Mem S W0 w ((b, .cells (xs++junk).toArray e (0,0))::l))(hxl:xs.length=n*sz)(hjl:junk.length=(cap-n)*sz)(hroom:n+m<=cap)
  (hx:ρ x= .slice (some ⟨b,0,none⟩) n cap) (hy:ρ y=xv) (hX:Zcc P w xv m sz ys) (h:∀w',Mem S W0 w' ((b, .cells (xs++ys++junk.drop (m*sz)).toArray e (0,0))::l)->R (.slice (some ⟨b,0,none⟩) (n+m) cap) w'):OpTo P ⟨d, .call ⟨.builtin .append, #[x,y], #[st,xt]⟩,ty,pos,af,g⟩ ρ w R:=by
 obtain⟨i,z,hi,rfl,rfl,hz,hzs⟩:=ZhI hel.h
 have hdx:=ZfU hxt.h
 have hlen:n*i.size+0+ys.length<=(xs++junk).length:=by
  exact vCo
 obtain⟨w',hr,he,hh⟩:=Zb5 (P:=P) (off:=n*i.size) ys 0 (xs++junk) w (M.heap .here) hlen hX.one
 have hrun:=ZdE (tyy:=ty) hst.h hi hdx hX.len hroom (hX.cells w.drawn) hr
 have hsp:ZbD (xs++junk) (n*i.size+0) ys=xs++ys++junk.drop (m*i.size):=by
  simp only[ZbD,Nat.add_zero,<-hxl,List.take_left',List.drop_append,hX.size]
  simp
 rw[hsp] at hh
 refine OpTo.val (v:= .slice (some ⟨b,0,none⟩) (n+m) cap) (w':=w') ?_ (h w' (M.turned .here he hh))
 simp[execOp,resolve,invoke,builtin,hx,hy,hrun]
theorem ZzZ{t e:TypeId}{x i j c:Operand}{k k' k2:IntKind}{b o len cap:Nat}{m n q:Int}(hx:ρ x= .slice (some ⟨b,o,none⟩) len cap)(hi:ρ i= .int k m)(hj:ρ j= .int k' n)(hc:ρ c= .int k2 q) [ht:TU P t (.slice e)] [hs:TSz P e sz](h0:0<=m)(h1:m<=n)(h2:n<=q)(h3:m<q)(h4:q<=cap)(h:∀v,R v w):OpTo P ⟨d, .slice t x (some i) (some j) (some c),ty,pos,af,g⟩ ρ w R:=by
 have h5:0<=n:=by omega
 have h6:0<=q:=by omega
 have h7:m<=max n 0:=by omega
 have h8:n<=max q 0:=by omega
 have h9:¬q.toNat=m.toNat:=by omega
 exact OpTo.val (v:= .slice (some ⟨b,o+m.toNat*sz,none⟩) (n.toNat-m.toNat) (q.toNat-m.toNat)) (w':=w) (by simp[execOp,Instr.sliceAt,Instr.slice,Instr.sliceBounds,Instr.sliceBound,asIntOf,hx,hi,hj,hc,run_underlying ht.h,run_sizeOf hs.h,h0,h2,h4,h5,h6,h7,h8,h9,ZbX]) (h _)
end
theorem ZxC(P:Program)(b o:Nat){len cap sz:Nat}{m:Int}(h0:0<=m)(h1:m<=len)(hlc:len<=cap):∃q,(m<len->q=some ⟨b,o+m.toNat*sz,none⟩)/\∀{t e:TypeId}{x i:Operand}{k:IntKind}{d:Option Tmp}{ty:TypeId}{pos:String}{af:Array Edge}{g:Option (Nat×Bool)}{ρ:Operand->Value}{w:World}{R:Value->World->Prop} [_ht:TU P t (.slice e)] [_hs:TSz P e sz],
  ρ x= .slice (some ⟨b,o,none⟩) len cap->ρ i= .int k m->R (.slice q (len-m.toNat) (cap-m.toNat)) w->OpTo P ⟨d, .slice t x (some i) none none,ty,pos,af,g⟩ ρ w R:=by
 by_cases hc:m<cap
 ·exact⟨_,λ_=>rfl,λhx hi hR=>Zew hx hi h0 h1 hc hR⟩
 ·have e1:cap=m.toNat:=by omega
  have e2:len=m.toNat:=by omega
  refine⟨some ⟨b,o,none⟩,λh=>by omega,λ{t e x i k d ty pos af g ρ w R}ht hs hx hi hR=>?_⟩
  have h5:¬(len:Int)<m:=by omega
  exact OpTo.val (v:= .slice (some ⟨b,o,none⟩) (len-m.toNat) (cap-m.toNat)) (w':=w) (by simp[execOp,Instr.sliceAt,Instr.slice,Instr.sliceBounds,Instr.sliceBound,asIntOf,hx,hi,run_underlying ht.h,run_sizeOf hs.h,h0,h1,h5,ZbX];omega) hR
theorem Ztk{α:Type}(l:List α)(i:Nat):l.eraseIdx i=l.take i++l.drop (i+1):=List.eraseIdx_eq_take_drop_succ l i
theorem vA9(h:p:=by
  refine W1 5 ?_;intro a F
  refine Za4 8 F Q7 ?_
  intro w1 hE hok
  have M1:=M.later hE
  refine W2 4 hok ?_
  (refine mK hok rfl rfl (λa' w' F' E'=>Zew (F'.e rfl) (F'.e rfl) Q0 Q0 Q0 ⟨Ext.refl _ _,rfl⟩) ?_)
  refine W2 2 hok ?_
  (refine mK hok rfl rfl (λa' w' F' E'=>Zew (F'.e rfl) (F'.e rfl) Q0 Q0 Q0 ⟨Ext.refl _ _,rfl⟩) ?_)
  skip
  (refine Qx M1 ?_;clear F M M1 hok hE;intro a w F M;(try dsimp only at F))
  (refine sD F (Zi6 (n:=n-i) M (F.e rfl) (F.e rfl) (by show _=min _ _;omega) u1.has g1 (by simp only[List.all_append,Bool.and_eq_true] at h1x⊢;exact h1x.2) u1.has p1 u1 ?_);clear F M;intro w M a F)
  refine W1 6 ?_;intro a F
  (refine sD F (Zew (F.e rfl) (F.e rfl) Q0 Q0 Q0 ?_);clear F a;intro a F)
  refine W1 1 ?_;intro a F
  (refine sD F (Zi6 (n:=1) M (F.e rfl) (F.e rfl) (by show _=min _ _;omega) hv2 (ZbH Q0) h1y u2.has p2 u2 ?_);clear F M;intro w M a F)
  refine W1 10 ?_;intro a F
  refine Qq F (⟨_, .inr ⟨b,cap,J2,?_,rfl,?_,?_,?_⟩,?_⟩)
  ·show Value.slice _ _ _=_
   congr 1
  ·simp;omega
  ·omega
  ·omega
  ·rw[hf]
   have e3:A++(ys++(B1++B2))++J2=A++(ys++((B1++B2)++J2)):=by simp
   rw[e3];exact M):p:=h
theorem vB8(h:p:=by
  intro a F
  refine W1 9 ?_;intro a F
  (refine sD F (Znu (F.e rfl) (F.e rfl) Q0 Q0 ?_);clear F;clear a;intro _ a F)
  refine W1 39 ?_;intro a F
  (refine sD F (Zck hO M hl (F.e rfl) (F.e rfl) hsy Q0 Q0 ?_);clear F M;intro v2 ent2 w hO2 M a F)
  refine W1 5 ?_;intro a F
  exact Qq F (⟨ent2,hO2,M⟩)):p:=h
theorem Zmn(i:Nat)(hi:i<=n)(ys:List Value)(hys:ys.length=40)(h1x:xs.all (·.oneCell')=true)(h1y:ys.all (·.oneCell')=true)(W:World){l:EN}{f:EN->EN}
  (M:Mem S W0 W l) (hO:OwnS 171 40 v n xs ent) (hl:ZcQ ent l f) (hv:Has l vb (.cells ys.toArray 171 (0,0))) (hne:∀p∈ent,p.1≠vb) (hn:n<=100000):
  Cal prog 247 [v, .int .i64 i, .slice (some ⟨vb,0,none⟩) 1 1].toArray W λx w'=>∃ent',OwnS 171 40 x (n+1) (xs.take (i*40)++(ys++xs.drop (i*40))) ent'/\Mem S W0 w' (f ent'):=by
 have hxl:=hO.len
 have hsy:Zcc prog W (.slice (some ⟨vb,0,none⟩) 1 1) 1 40 ys:=Zcc.cells' (M.heap hv) (ZbH Q0) h1y
 by_cases hin:i=n
 ·subst hin
  rw[List.take_of_length_le Q0,List.drop_of_length_le Q0,List.append_nil]
  obtain⟨q,cap,rfl⟩:=hO.slice
  refine Zmv (n:=95) Tryz.func247 rfl rfl rfl ?_
  exact vB8
 ·rcases hO with⟨_,rfl,_,_⟩|⟨b,cap,junk,rfl,rfl,_,hjl,hnc⟩
  ·omega
  obtain⟨lr,rfl,hf⟩:=hl.spec
  have hvb:vb≠b:=λh=>hne _ List.mem_cons_self h.symm
  obtain⟨A,B,rfl,hA⟩:=Zen xs (i*40) Q0
  simp only[List.length_append] at hxl
  rw[<-hA,List.take_left' rfl,List.drop_left' rfl]
  simp only[List.all_append,Bool.and_eq_true] at h1x
  have hB:B.length=(n-i)*40:=by omega
  by_cases hroom:n+1<=cap
  ·obtain⟨J1,J2,rfl,hJ⟩:=Zen junk 40 Q0
   simp only[List.length_append] at hjl
   obtain⟨B1,B2,rfl,hB1⟩:=Zen B 40 Q0
   simp only[List.length_append] at hB hxl
   have e1:(A++(B1++B2)++(J1++J2))=A++((B1++B2)++(J1++J2)):=by simp
   have e2:(A++(B1++B2)++(J1++J2))=(A++B1)++((B2++J1)++J2):=by simp
   have p1:put (A++(B1++B2)++(J1++J2)) (0+(((i:Int)+1).toNat*40)) (B1++B2)=some ((A++B1)++((B1++B2)++J2)):=by
    rw[e2];exact Zff (by simp;omega) (by simp;omega)
   have p2:put ((A++B1)++((B1++B2)++J2)) (0+(i:Int).toNat*40) ys=some (A++(ys++((B1++B2)++J2))):=by
    rw[List.append_assoc];exact Zff Q0 Q0
   have g1:seg (A++(B1++B2)++(J1++J2)) (0+(i:Int).toNat*40) ((n-i)*40)=some (B1++B2):=by
    rw[e1];exact ZgQ Q0 (by simp;omega)
   have u1:Upd (lr++[(b,Obj.cells (A++(B1++B2)++(J1++J2)).toArray 171 (0,0))]) b (.cells (A++(B1++B2)++(J1++J2)).toArray 171 (0,0)) (.cells ((A++B1)++((B1++B2)++J2)).toArray 171 (0,0)) (lr++[(b, .cells ((A++B1)++((B1++B2)++J2)).toArray 171 (0,0))]):=(Upd.here).append lr
   have u2:Upd (lr++[(b,Obj.cells ((A++B1)++((B1++B2)++J2)).toArray 171 (0,0))]) b (.cells ((A++B1)++((B1++B2)++J2)).toArray 171 (0,0)) (.cells (A++(ys++((B1++B2)++J2))).toArray 171 (0,0)) (lr++[(b, .cells (A++(ys++((B1++B2)++J2))).toArray 171 (0,0))]):=(Upd.here).append lr
   have hv2:Has (lr++[(b,Obj.cells ((A++B1)++((B1++B2)++J2)).toArray 171 (0,0))]) vb (.cells ys.toArray 171 (0,0)):=Zk8 hv hvb
   refine Zmv (n:=95) Tryz.func247 rfl rfl rfl ?_
   intro a F
   refine W1 9 ?_;intro a F
   (refine sD F (Zew (F.e rfl) (F.e rfl) Q0 Q0 Q0 ?_);clear F a;intro a F)
   refine W1 57 ?_;intro a F
   (refine sD F (ZjT (F.e rfl) (F.e rfl) Q5 Q0 Q0 ?_);clear F a;intro a F)
   refine W1 11 ?_;intro a F
   (refine sD F (Zew (F.e rfl) (F.e rfl) Q0 Q0 Q0 ?_);clear F a;intro a F)
   (refine sD F (Zl8 (F.e rfl) Tryz.func307 Q7 Q7 Q7 (e:=Extern.SlicesOverlaps.overlaps #[48,48] #[4]) Q7 (F.evs rfl) (ZtU (TU.h (P:=prog) (t:=48)) (TSz.h (P:=prog) (t:=171)) hvb (M.heap hv) (M.heap u1.has) (by simp only[List.length_append];omega)) ?_);clear F a;intro a F)
   exact vA9
  ·have hcn:n=cap:=by omega
   subst hcn
   have hj0:junk=[]:=List.length_eq_zero_iff.1 Q0
   subst hj0
   have hbh:Has (lr++[(b,Obj.cells (A++B++[]).toArray 171 (0,0))]) b (.cells (A++B++[]).toArray 171 (0,0)):=Has.app .here lr
   have g0:seg (A++B++[]) 0 (i*40)=some A:=by
    rw[List.append_nil]
    have:=ZgQ (A:=[]) (B:=A) (C:=B) (off:=0) (n:=i*40) rfl Q0
    simpa using this
   have g1:seg (A++B++[]) (0+(i:Int).toNat*40) ((n-i)*40)=some B:=by
    rw[List.append_assoc];exact ZgQ Q0 Q0
   have hsA:Zcc prog W (.slice (some ⟨b,0,none⟩) i n) i 40 A:=Zcc.cells' (M.heap hbh) g0 h1x.1
   refine Zmv (n:=95) Tryz.func247 rfl rfl rfl ?_
   intro a F
   refine W1 9 ?_;intro a F
   (refine sD F (Zew (F.e rfl) (F.e rfl) Q0 Q0 Q0 ?_);clear F a;intro a F)
   refine W1 53 ?_;intro a F
   (refine sD F (ZjT (F.e rfl) (F.e rfl) Q5 Q0 Q0 ?_);clear F a;intro a F)
   refine W1 5 ?_;intro a F
   rw[show((n:Int)+((1:Nat):Int)-i)=((n+1-i:Nat):Int) by omega,Int.toNat_natCast] at F
   (refine sD F (Zk3 (xs:=A) (k:=n+1-i) M hsA (F.e rfl) (F.e rfl) Q0 Q0 Q0 Q0 Q0 ?_);clear F M;intro b2 cap2 zs w hzl hc2 M a F)
   rw[show i+(n+1-i)=n+1 by omega] at F hc2
   obtain⟨Z1,Z',rfl,hZ1⟩:=Zen zs 40 Q0
   simp only[List.length_append] at hzl
   obtain⟨Z2,Z3,rfl,hZ2⟩:=Zen Z' ((n-i)*40) Q0
   simp only[List.length_append] at hzl
   have p1:put (A++(Z1++(Z2++Z3))) (0+(i:Int).toNat*40) ys=some (A++(ys++(Z2++Z3))):=Zff Q0 Q0
   have p2:put (A++(ys++(Z2++Z3))) (0+((i:Int)+1).toNat*40) B=some ((A++ys)++(B++Z3)):=by
    rw[<-List.append_assoc];exact Zff (by simp;omega) Q0
   refine W1 7 ?_;intro a F
   (refine sD F (Zew (F.e rfl) (F.e rfl) Q0 Q0 Q0 ?_);clear F a;intro a F)
   refine W1 1 ?_;intro a F
   (refine sD F (Zi6 (n:=1) M (F.e rfl) (F.e rfl) (by show _=min _ _;omega) (.there hv) (ZbH Q0) h1y .here p1 .here ?_);clear F M;intro w M a F)
   with_reducible refine ZdS (Zc6 (Zea ?_))
   refine Za4 8 F Q7 ?_
   intro w1 hE hok
   have M1:=M.later hE
   refine W2 4 hok ?_
   (refine mK hok rfl rfl (λa' w' F' E'=>Zew (F'.e rfl) (F'.e rfl) Q0 Q0 Q0 ⟨Ext.refl _ _,rfl⟩) ?_)
   refine W2 2 hok ?_
   (refine mK hok rfl rfl (λa' w' F' E'=>Zew (F'.e rfl) (F'.e rfl) Q0 Q0 Q0 ⟨Ext.refl _ _,rfl⟩) ?_)
   skip
   (refine Qx M1 ?_;clear F M M1 hok hE;intro a w F M;(try dsimp only at F))
   (refine sD F (Zi6 (n:=n-i) M (F.e rfl) (F.e rfl) (by show _=min _ _;omega) (.there hbh) g1 h1x.2 .here p2 .here ?_);clear F M;intro w M a F)
   refine W1 10 ?_;intro a F
   refine Qq F (⟨[(b2, .cells ((A++ys)++(B++Z3)).toArray 171 (0,0))], .inr ⟨b2,cap2,Z3,rfl,?_,?_,?_,?_⟩,?_⟩)
   ·rw[show A++(ys++B)++Z3=(A++ys)++(B++Z3) by simp]
   ·simp;omega
   ·omega
   ·omega
   ·rw[hf]
    exact(M.sub (l':=(b2, .cells ((A++ys)++(B++Z3)).toArray 171 (0,0))::lr) ((List.sublist_append_left lr _).cons_cons _)).perm (List.perm_append_comm (l₁:=[_]) (l₂:=lr))
theorem Zmm(i:Nat)(hi:i<=n)(ys:List Value)(hys:ys.length=38)(h1x:xs.all (·.oneCell')=true)(h1y:ys.all (·.oneCell')=true)(W:World){l:EN}{f:EN->EN}
  (M:Mem S W0 W l) (hO:OwnS 166 38 v n xs ent) (hl:ZcQ ent l f) (hv:Has l vb (.cells ys.toArray 166 (0,0))) (hne:∀p∈ent,p.1≠vb) (hn:n<=100000):
  Cal prog 311 [v, .int .i64 i, .slice (some ⟨vb,0,none⟩) 1 1].toArray W λx w'=>∃ent',OwnS 166 38 x (n+1) (xs.take (i*38)++(ys++xs.drop (i*38))) ent'/\Mem S W0 w' (f ent'):=by
 have hxl:=hO.len
 have hsy:Zcc prog W (.slice (some ⟨vb,0,none⟩) 1 1) 1 38 ys:=Zcc.cells' (M.heap hv) (ZbH Q0) h1y
 by_cases hin:i=n
 ·subst hin
  rw[List.take_of_length_le Q0,List.drop_of_length_le Q0,List.append_nil]
  obtain⟨q,cap,rfl⟩:=hO.slice
  refine Zmv (n:=95) Tryz.func311 rfl rfl rfl ?_
  exact vB8
 ·rcases hO with⟨_,rfl,_,_⟩|⟨b,cap,junk,rfl,rfl,_,hjl,hnc⟩
  ·omega
  obtain⟨lr,rfl,hf⟩:=hl.spec
  have hvb:vb≠b:=λh=>hne _ List.mem_cons_self h.symm
  obtain⟨A,B,rfl,hA⟩:=Zen xs (i*38) Q0
  simp only[List.length_append] at hxl
  rw[<-hA,List.take_left' rfl,List.drop_left' rfl]
  simp only[List.all_append,Bool.and_eq_true] at h1x
  have hB:B.length=(n-i)*38:=by omega
  by_cases hroom:n+1<=cap
  ·obtain⟨J1,J2,rfl,hJ⟩:=Zen junk 38 Q0
   simp only[List.length_append] at hjl
   obtain⟨B1,B2,rfl,hB1⟩:=Zen B 38 Q0
   simp only[List.length_append] at hB hxl
   have e1:(A++(B1++B2)++(J1++J2))=A++((B1++B2)++(J1++J2)):=by simp
   have e2:(A++(B1++B2)++(J1++J2))=(A++B1)++((B2++J1)++J2):=by simp
   have p1:put (A++(B1++B2)++(J1++J2)) (0+(((i:Int)+1).toNat*38)) (B1++B2)=some ((A++B1)++((B1++B2)++J2)):=by
    rw[e2];exact Zff (by simp;omega) (by simp;omega)
   have p2:put ((A++B1)++((B1++B2)++J2)) (0+(i:Int).toNat*38) ys=some (A++(ys++((B1++B2)++J2))):=by
    rw[List.append_assoc];exact Zff Q0 Q0
   have g1:seg (A++(B1++B2)++(J1++J2)) (0+(i:Int).toNat*38) ((n-i)*38)=some (B1++B2):=by
    rw[e1];exact ZgQ Q0 (by simp;omega)
   have u1:Upd (lr++[(b,Obj.cells (A++(B1++B2)++(J1++J2)).toArray 166 (0,0))]) b (.cells (A++(B1++B2)++(J1++J2)).toArray 166 (0,0)) (.cells ((A++B1)++((B1++B2)++J2)).toArray 166 (0,0)) (lr++[(b, .cells ((A++B1)++((B1++B2)++J2)).toArray 166 (0,0))]):=(Upd.here).append lr
   have u2:Upd (lr++[(b,Obj.cells ((A++B1)++((B1++B2)++J2)).toArray 166 (0,0))]) b (.cells ((A++B1)++((B1++B2)++J2)).toArray 166 (0,0)) (.cells (A++(ys++((B1++B2)++J2))).toArray 166 (0,0)) (lr++[(b, .cells (A++(ys++((B1++B2)++J2))).toArray 166 (0,0))]):=(Upd.here).append lr
   have hv2:Has (lr++[(b,Obj.cells ((A++B1)++((B1++B2)++J2)).toArray 166 (0,0))]) vb (.cells ys.toArray 166 (0,0)):=Zk8 hv hvb
   refine Zmv (n:=95) Tryz.func311 rfl rfl rfl ?_
   intro a F
   refine W1 9 ?_;intro a F
   (refine sD F (Zew (F.e rfl) (F.e rfl) Q0 Q0 Q0 ?_);clear F a;intro a F)
   refine W1 57 ?_;intro a F
   (refine sD F (ZjT (F.e rfl) (F.e rfl) Q5 Q0 Q0 ?_);clear F a;intro a F)
   refine W1 11 ?_;intro a F
   (refine sD F (Zew (F.e rfl) (F.e rfl) Q0 Q0 Q0 ?_);clear F a;intro a F)
   (refine sD F (Zl8 (F.e rfl) Tryz.func346 Q7 Q7 Q7 (e:=Extern.SlicesOverlaps.overlaps #[45,45] #[4]) Q7 (F.evs rfl) (ZtU (TU.h (P:=prog) (t:=45)) (TSz.h (P:=prog) (t:=166)) hvb (M.heap hv) (M.heap u1.has) (by simp only[List.length_append];omega)) ?_);clear F a;intro a F)
   exact vA9
  ·have hcn:n=cap:=by omega
   subst hcn
   have hj0:junk=[]:=List.length_eq_zero_iff.1 Q0
   subst hj0
   have hbh:Has (lr++[(b,Obj.cells (A++B++[]).toArray 166 (0,0))]) b (.cells (A++B++[]).toArray 166 (0,0)):=Has.app .here lr
   have g0:seg (A++B++[]) 0 (i*38)=some A:=by
    rw[List.append_nil]
    have:=ZgQ (A:=[]) (B:=A) (C:=B) (off:=0) (n:=i*38) rfl Q0
    simpa using this
   have g1:seg (A++B++[]) (0+(i:Int).toNat*38) ((n-i)*38)=some B:=by
    rw[List.append_assoc];exact ZgQ Q0 Q0
   have hsA:Zcc prog W (.slice (some ⟨b,0,none⟩) i n) i 38 A:=Zcc.cells' (M.heap hbh) g0 h1x.1
   refine Zmv (n:=95) Tryz.func311 rfl rfl rfl ?_
   intro a F
   refine W1 9 ?_;intro a F
   (refine sD F (Zew (F.e rfl) (F.e rfl) Q0 Q0 Q0 ?_);clear F a;intro a F)
   refine W1 53 ?_;intro a F
   (refine sD F (ZjT (F.e rfl) (F.e rfl) Q5 Q0 Q0 ?_);clear F a;intro a F)
   refine W1 5 ?_;intro a F
   rw[show((n:Int)+((1:Nat):Int)-i)=((n+1-i:Nat):Int) by omega,Int.toNat_natCast] at F
   (refine sD F (Zk3 (xs:=A) (k:=n+1-i) M hsA (F.e rfl) (F.e rfl) Q0 Q0 Q0 Q0 Q0 ?_);clear F M;intro b2 cap2 zs w hzl hc2 M a F)
   rw[show i+(n+1-i)=n+1 by omega] at F hc2
   obtain⟨Z1,Z',rfl,hZ1⟩:=Zen zs 38 Q0
   simp only[List.length_append] at hzl
   obtain⟨Z2,Z3,rfl,hZ2⟩:=Zen Z' ((n-i)*38) Q0
   simp only[List.length_append] at hzl
   have p1:put (A++(Z1++(Z2++Z3))) (0+(i:Int).toNat*38) ys=some (A++(ys++(Z2++Z3))):=Zff Q0 Q0
   have p2:put (A++(ys++(Z2++Z3))) (0+((i:Int)+1).toNat*38) B=some ((A++ys)++(B++Z3)):=by
    rw[<-List.append_assoc];exact Zff (by simp;omega) Q0
   refine W1 7 ?_;intro a F
   (refine sD F (Zew (F.e rfl) (F.e rfl) Q0 Q0 Q0 ?_);clear F a;intro a F)
   refine W1 1 ?_;intro a F
   (refine sD F (Zi6 (n:=1) M (F.e rfl) (F.e rfl) (by show _=min _ _;omega) (.there hv) (ZbH Q0) h1y .here p1 .here ?_);clear F M;intro w M a F)
   with_reducible refine ZdS (Zc6 (Zea ?_))
   refine Za4 8 F Q7 ?_
   intro w1 hE hok
   have M1:=M.later hE
   refine W2 4 hok ?_
   (refine mK hok rfl rfl (λa' w' F' E'=>Zew (F'.e rfl) (F'.e rfl) Q0 Q0 Q0 ⟨Ext.refl _ _,rfl⟩) ?_)
   refine W2 2 hok ?_
   (refine mK hok rfl rfl (λa' w' F' E'=>Zew (F'.e rfl) (F'.e rfl) Q0 Q0 Q0 ⟨Ext.refl _ _,rfl⟩) ?_)
   skip
   (refine Qx M1 ?_;clear F M M1 hok hE;intro a w F M;(try dsimp only at F))
   (refine sD F (Zi6 (n:=n-i) M (F.e rfl) (F.e rfl) (by show _=min _ _;omega) (.there hbh) g1 h1x.2 .here p2 .here ?_);clear F M;intro w M a F)
   refine W1 10 ?_;intro a F
   refine Qq F (⟨[(b2, .cells ((A++ys)++(B++Z3)).toArray 166 (0,0))], .inr ⟨b2,cap2,Z3,rfl,?_,?_,?_,?_⟩,?_⟩)
   ·rw[show A++(ys++B)++Z3=(A++ys)++(B++Z3) by simp]
   ·simp;omega
   ·omega
   ·omega
   ·rw[hf]
    exact(M.sub (l':=(b2, .cells ((A++ys)++(B++Z3)).toArray 166 (0,0))::lr) ((List.sublist_append_left lr _).cons_cons _)).perm (List.perm_append_comm (l₁:=[_]) (l₂:=lr))
theorem ZmA{ls:List ReqV}(hI:∀x∈ls,IsRq x)(hlen:ls.length<=1000)(W:World)(hb:W.heap[b]? =some (.cells (rqsC ls++junk).toArray 171 (0,0)))(hjl:junk.length=(cap-ls.length)*40)(hnc:ls.length<=cap)(i:Nat)(hi:i<ls.length):
  Cal prog 246 [.slice (some ⟨b,0,none⟩) ls.length cap, .int .i64 i, .int .i64 (i+1)].toArray W λr w'=>∃junk':List Value,r= .slice (some ⟨b,0,none⟩) (ls.eraseIdx i).length cap/\junk'.length=(cap-(ls.eraseIdx i).length)*40/\(ls.eraseIdx i).length<=cap/\Mem [b] W w' [(b, .cells (rqsC (ls.eraseIdx i)++junk').toArray 171 (0,0))]:=by
 have hsz:∀x∈ls,(rqC x).length=40:=ZbB hI
 have hel:(ls.eraseIdx i).length=ls.length-1:=by rw[List.length_eraseIdx,if_pos hi]
 have hsp:∀k,rqsC ls++junk=rqsC (ls.take k)++(rqsC (ls.drop k)++junk):=λk=>by
  show encL rqC ls++junk=encL rqC _++(encL rqC _++junk)
  rw[<-List.append_assoc,<-ZbC,List.take_append_drop]
 have hti:(rqsC (ls.take i)).length=i*40:=by rw[Za2 λx hx=>hsz x (List.mem_of_mem_take hx),List.length_take];congr 1;omega
 have htj:(rqsC (ls.take (i+1))).length=(i+1)*40:=by rw[Za2 λx hx=>hsz x (List.mem_of_mem_take hx),List.length_take];congr 1;omega
 have hdi:(rqsC (ls.drop i)).length=(ls.length-i)*40:=by rw[Za2 λx hx=>hsz x (List.mem_of_mem_drop hx),List.length_drop]
 have hdj:(rqsC (ls.drop (i+1))).length=(ls.length-(i+1))*40:=by rw[Za2 λx hx=>hsz x (List.mem_of_mem_drop hx),List.length_drop]
 refine Zar (n:=33) [b] Tryz.func246 rfl rfl rfl ?_
 intro a w F M hwW
 replace M:=M.came hwW hb Q5 Q5
 refine W1 12 ?_;intro a F
 (refine sD F (ZzZ (F.e rfl) (F.e rfl) (F.e rfl) (F.e rfl) Q0 Q0 Q0 Q0 Q0 ?_);clear F;intro v13 a F)
 refine W1 21 ?_;intro a F
 replace F:=F.only [0,1,2,7] rfl
 obtain⟨q,hq,hqs⟩:=ZxC prog b 0 (len:=ls.length) (cap:=cap) (sz:=40) (m:=(i:Int)+1) Q0 Q0 hnc
 refine Za4 6 F Q7 ?_
 intro w1 hE hok
 have M1:=M.later hE
 refine W2 2 hok ?_
 refine mK hok rfl rfl (λa' w' F' E'=>ZjT (F'.e rfl) (F'.e rfl) Q5 Q0 Q0 ⟨Ext.refl _ _,rfl⟩) ?_
 refine W2 2 hok ?_
 refine mK hok rfl rfl (λa' w' F' E'=>hqs (F'.e rfl) (F'.e rfl) ⟨Ext.refl _ _,rfl⟩) ?_
 (refine Qx M1 ?_;clear F M M1 hok hE;intro a w F M;(try dsimp only at F))
 simp only[Int.toNat_natCast] at F
 have hSl:SlAt w 40 (.slice q (ls.length-((i:Int)+1).toNat) (cap-((i:Int)+1).toNat)) (ls.length-(i+1)) (rqsC (ls.drop (i+1))):=by
  refine⟨q,_,by congr 1<;>omega,Q0,λ_ _=>trivial,hdj,λhpos=>⟨b,(i+1)*40,rqsC ls++junk,_,_,by rw[hq Q0];congr 2;omega,M.heap .here,?_⟩⟩
  rw[hsp (i+1),<-htj,<-hdj]
  exact ZfG _ _ _
 have hX:=hSl.src (P:=prog) (Zfd)
 rw[hsp i] at M
 (refine sD F (ZoD M hti (n:=i) (cap:=cap) (sz:=40) (by rw[List.length_append,hdi,hjl,<-Nat.add_mul];congr 1;omega) Q0 (F.e rfl) (F.e rfl) hX ?_);clear F M;intro w M a F)
 have hn1:i+(ls.length-(i+1))=ls.length-1:=by omega
 rw[hn1] at F
 refine W1 9 ?_;intro a F
 (refine sD F (Zym (F.e rfl) (F.e rfl) (F.e rfl) Q0 Q0 Q0 Q0 ?_);clear F a;intro a F)
 simp only[Int.toNat_natCast] at F
 have hck:rqsC (ls.take i)++rqsC (ls.drop (i+1))=rqsC (ls.eraseIdx i):=by rw[Ztk];exact(ZbC _ _ _).symm
 rw[hck] at M
 have hke:(rqsC (ls.eraseIdx i)).length=(ls.length-1)*40:=by rw[<-hck,List.length_append,hti,hdj,<-Nat.add_mul];congr 1
 obtain⟨X,hX0⟩:∃X,X=(rqsC (ls.drop i)++junk).drop ((ls.length-(i+1))*40):=⟨_,rfl⟩
 have hXl:X.length=(cap-(ls.length-1))*40:=by rw[hX0,List.length_drop,List.length_append,hdi,hjl,<-Nat.add_mul,<-Nat.sub_mul];congr 1;omega
 rw[<-hX0] at M
 (refine ZaW rfl F (ZjW (sz:=40) M (F.e rfl) Q0 rfl rfl .here (by rw[List.length_append,hke,hXl,<-Nat.add_mul];omega) (λvs=> .here) ?_);clear F M;intro vs w hvs M a F)
 refine W1 9 ?_;intro a F
 refine Qq F ?_
 have hs2:ZbD (rqsC (ls.eraseIdx i)++X) (0+(ls.length-1)*40) vs=rqsC (ls.eraseIdx i)++(vs++X.drop vs.length):=by
  unfold ZbD
  rw[Nat.zero_add,<-hke,List.take_left',List.drop_append]
  ·simp
  ·rfl
 refine⟨vs++X.drop vs.length,by rw[hel];(try rfl),by rw[List.length_append,List.length_drop,hXl,hvs,hel];omega,Q0,?_⟩
 rw[<-hs2]
 exact M
theorem Zje{ls:List SrcV}(W:World)(hS:SlAt W 38 v ls.length (srsC ls))(hls:∀l∈ls,IsSr l)(hlen:ls.length<=1000)(g:FuncId) [hg:Zad prog g](caps:List Value)(p:SrcV->Bool)
  (hcl:∀w l,Ext [] W w->l∈ls->Cal prog g (.agg (srC l).toArray::caps).toArray w λv w'=>v= .bool (p l)/\Ext [] w w'):
  Cal prog 299 [v, .func (.func g) #[] caps.toArray].toArray W λx w'=>x= .int .i64 (Zfn p ls)/\Ext [] W w':=by
 obtain⟨q,cap,rfl,hcap,hsp,hl,hm⟩:=hS
 refine Zar (n:=19) [] Tryz.func299 rfl rfl rfl ?_
 intro a w F M hwW
 refine W1 14 ?_;intro a F
 refine ZbK (λk a w=>∃i:Nat,k=ls.length-i/\i<=ls.length/\(∀j(hj:j<i)(hj2:j<ls.length),p ls[j]=false)/\Frm a 19 [] [(8, .int .i64 i),(7, .int .i64 ls.length),(0, .slice q ls.length cap),(1, .func (.func g) #[] caps.toArray)]/\Mem [] W w []) ls.length ⟨0,rfl,Q0,Q0,F.only [8,7,0,1] rfl,M⟩ ?_
 clear F M
 rintro k a w ⟨i,hk,hi,hno,F,M⟩
 by_cases hlt:i<ls.length
 ·obtain⟨b,o,cs,t,fz,rfl,hb,hs⟩:=hm Q0
  have e1:seg cs (o+(i:Int).toNat*38) 38=some (srC ls[i]):=Zal (ZbN hls) hs hlt Q0
  refine W1 24 ?_;intro a F
  (refine sD F (ZfB (us:=(.agg (srC ls[i]).toArray::caps).toArray) (F.e rfl) (F.evs rfl) Q5 (Cal.mono (hcl _ ls[i] M.ext (List.getElem_mem hlt)) ?_));clear F;clear a;rintro _ w ⟨rfl,hE⟩ a F;replace M:=M.later hE;clear hE)
  exact vAJ
 ·exact vCd
theorem ZoO{ls:List SrcV}(hI:∀x∈ls,IsSr x)(hlen:ls.length<=1000)(W:World)(hb:W.heap[b]? =some (.cells (srsC ls++junk).toArray 166 (0,0)))(hjl:junk.length=(cap-ls.length)*38)(hnc:ls.length<=cap)(g:FuncId) [hg:Zad prog g](caps:List Value)(p:SrcV->Bool)
  (hcl:∀w x,Ext [b] W w->x∈ls->Cal prog g (.agg (srC x).toArray::caps).toArray w λv w'=>v= .bool (p x)/\Ext [] w w'):
  Cal prog 237 [.slice (some ⟨b,0,none⟩) ls.length cap, .func (.func g) #[] caps.toArray].toArray W λr w'=>∃junk':List Value,r= .slice (some ⟨b,0,none⟩) (ls.filter λx=> !p x).length cap/\junk'.length=(cap-(ls.filter λx=> !p x).length)*38/\(ls.filter λx=> !p x).length<=cap/\Mem [b] W w' [(b, .cells (srsC (ls.filter λx=> !p x)++junk').toArray 166 (0,0))]:=by
 have hsz:∀x∈ls,(srC x).length=38:=ZbN hI
 refine Zar (n:=42) [b] Tryz.func237 rfl rfl rfl ?_
 intro a w F M hwW
 replace M:=M.came hwW hb Q5 Q5
 have hO:OwnS 166 38 (.slice (some ⟨b,0,none⟩) ls.length cap) ls.length (srsC ls) [(b, .cells (srsC ls++junk).toArray 166 (0,0))]:= .inr ⟨b,cap,junk,rfl,rfl,Za2 hsz,hjl,hnc⟩
 refine W1 9 ?_;intro a F
 (refine Qy F M rfl rfl (Zje _ (hO.slAt M (λq hq=>hq)) hI hlen g caps p (λw' x E hm=>hcl w' x (M.ext.trans E.any) hm)) ?_;clear F M a;intro w a M F)
 rcases Ziq p ls with⟨h1,h2⟩|⟨i,hi,h1,h2,h3⟩
 ·exact vBP
 rw[h1] at F
 have hf0:(ls.take i).filter (λx=> !p x)=ls.take i:=List.filter_eq_self.2 λx hx=>by
  exact vCH
 have hf1:(ls.take (i+1)).filter (λx=> !p x)=ls.take i:=by
  rw[ZcV hi,hf0,h2];simp
 refine W1 22 ?_;intro a F
 refine ZbK (λm a w=>∃(i2 j:Nat)(cur:List SrcV),m=ls.length-j/\i2<j/\j<=ls.length/\cur.length=ls.length/\(∀x∈cur,IsSr x)/\cur.take i2=(ls.take j).filter (λx=> !p x)/\(∀q,j<=q->cur[q]? =ls[q]?)/\Frm a 42 [] [(5, .int .i64 i2),(6, .int .i64 j),(0, .slice (some ⟨b,0,none⟩) ls.length cap),(1, .func (.func g) #[] caps.toArray)]/\Mem [b] W w [(b, .cells (srsC cur++junk).toArray 166 (0,0))]) (ls.length-(i+1)) ⟨i,i+1,ls,rfl,Q0,Q0,rfl,hI,hf1.symm,λ_ _=>rfl,F.only [5,6,0,1] rfl,M⟩ ?_
 clear F M
 rintro m a w ⟨i2,j,cur,hm,hi2,hj,hcl2,hcI,hct,hcp,F,M⟩
 have hcs:=ZbN hcI
 by_cases hlt:j<ls.length
 ·have e1:cur[j]=ls[j]:=by
   exact vCY
  have hst:=ZcV (p:=λx=> !p x) hlt
  have hxm:ls[j]∈ls:=List.getElem_mem hlt
  have f1:seg (srsC cur++junk) (0+(j:Int).toNat*38) 38=some (srC ls[j]):=by rw[<-e1];exact Zeu hcs junk Q0 Q0
  clear e1
  generalize ls[j]=x at*
  have x1:=Zcj (hI x hxm)
  have x2:=ZiR (hI x hxm)
  refine W1 20 ?_;intro a F
  (refine sD F (Zay M ?_);clear F M;intro b7 w M a F)
  (refine ZaW rfl F (Zap M (F.e rfl) (F.e rfl) (x1) (ZcX x)  Q1  (Zat (by rw[x1];rfl)) Q1 ?_);clear F M;intro w M a F)
  refine W1 6 ?_;intro a F
  (refine sD F (ZfB (us:=(.agg (srC x).toArray::caps).toArray) (F.e rfl) (F.evs rfl) Q5 (Cal.mono (hcl _ x M.ext hxm) ?_));clear F;clear a;rintro _ w ⟨rfl,hE⟩ a F;replace M:=M.later hE;clear hE)
  cases hp:p x
  ·rw[hp] at F
   rw[if_pos (by rw[hp];rfl)] at hst
   have hpt:put (srsC cur++junk) (0+(i2:Int).toNat*38) (srC x)=some (srsC (cur.set i2 x)++junk):=
    vCN
   refine W1 10 ?_;intro a F
   (refine ZaW rfl F (Zap M (F.e rfl) (F.e rfl) x1 (ZcX _)  Q1  hpt Q1 ?_);clear F M;intro w M a F)
   exact vBc
  ·exact vBq
 ·have hjl2:j=ls.length:=by omega
  rw[hjl2,List.take_length] at hct
  have hfl:(ls.filter λx=> !p x).length=i2:=by rw[<-hct,List.length_take];omega
  refine W1 19 ?_;intro a F
  (refine sD F (Zew (F.e rfl) (F.e rfl) Q0 Q0 Q0 ?_);clear F a;intro a F)
  simp only[Int.toNat_natCast] at F
  have hcl3:(srsC cur++junk).length=cap*38:=by rw[List.length_append,Za2 hcs,hjl,hcl2,<-Nat.add_mul];congr 1;omega
  (refine ZaW rfl F (ZjW (sz:=38) M (F.e rfl) Q0 rfl rfl .here (by rw[hcl3];omega) (λvs=> .here) ?_);clear F M;intro vs w hvs M a F)
  refine W1 6 ?_;intro a F
  (refine sD F (ZjT (F.e rfl) (F.e rfl) Q5 Q0 Q0 ?_);clear F a;intro a F)
  simp only[Int.toNat_natCast] at F
  refine W1 4 ?_;intro a F
  refine Qq F ?_
  refine⟨vs++(srsC cur++junk).drop (0+i2*38+vs.length),by rw[hfl];(try rfl),by rw[List.length_append,List.length_drop,hcl3,hvs,hfl];omega,Q0,?_⟩
  have hsp:ZbD (srsC cur++junk) (0+i2*38) vs=srsC (ls.filter λx=> !p x)++(vs++(srsC cur++junk).drop (0+i2*38+vs.length)):=by
   exact vBx
  rw[<-hsp]
  exact M
theorem Zmz(W:World)(g:FuncId) [hg:Zad prog g](caps:List Value):Cal prog 237 [.slice none 0 0, .func (.func g) #[] caps.toArray].toArray W λr w'=>r= .slice none 0 0/\Ext [] W w':=by
 refine Zar (n:=42) [] Tryz.func237 rfl rfl rfl ?_
 intro a w F M hwW
 refine W1 9 ?_;intro a F
 (refine Qy F M rfl rfl (Zje (ls:=[]) _ (SlAt.nil _ _) Q5 Q5 g caps (λ_=>true) (λw' x E hm=>by cases hm)) ?_;clear F M a;intro w a M F)
 rw[show Zfn (λ_:SrcV=>true) []= -1 from rfl] at F
 refine W1 19 ?_;intro a F
 exact Qq F (⟨rfl,M.ext⟩)
theorem Zt6{α:Type}{key:α->DstV}{l:List α}{t:DstV}(h:PlD key l t i):l.filter (λy=>decide (cmpD (key y) t<0))=l.take i:=by
 conv=>lhs;rw[<-List.take_append_drop i l]
 rw[List.filter_append,List.filter_eq_self.2,List.filter_eq_nil_iff.2,List.append_nil]
 ·intro y hy
  obtain⟨j,hj,rfl⟩:=List.getElem_of_mem hy
  rw[List.length_drop] at hj
  rw[List.getElem_drop]
  have:=h.hi (i+j) Q0 Q0
  simp
  omega
 ·intro y hy
  obtain⟨j,hj,rfl⟩:=List.getElem_of_mem hy
  rw[List.length_take] at hj
  rw[List.getElem_take]
  have:=h.lo j Q0 Q0
  simpa using this
theorem Zp4{α:Type}{key:α->DstV}{l:List α}{t:DstV}(hA:l.Pairwise λa b=>cmpD (key a) (key b)<0)(hd:∀y∈l,IsDv (key y))(ht:IsDv t)(h:PlD key l t i):l.filter (λy=>decide (0<cmpD (key y) t))=if fndD key l t i then l.drop (i+1) else l.drop i:=by
 conv=>lhs;rw[<-List.take_append_drop i l]
 rw[List.filter_append,List.filter_eq_nil_iff.2,List.nil_append]
 ·rcases Nat.lt_or_ge i l.length with hi|hi
  ·have hf:=Zmu (key:=key) (t:=t) hi (hd _ (List.getElem_mem hi)) ht
   rw[List.drop_eq_getElem_cons hi,List.filter_cons]
   have h0:=h.hi i hi (Nat.le_refl _)
   have hr:(l.drop (i+1)).filter (λy=>decide (0<cmpD (key y) t))=l.drop (i+1):=by
    rw[List.filter_eq_self]
    intro y hy
    obtain⟨j,hj,rfl⟩:=List.getElem_of_mem hy
    rw[List.length_drop] at hj
    rw[List.getElem_drop]
    have h1:=List.pairwise_iff_getElem.1 hA i (i+1+j) hi Q0 Q0
    have h2:=h.hi (i+1+j) Q0 Q0
    rcases Int.lt_or_eq_of_le h2 with h3|h3
    ·simpa using h3
    ·have e:=(Zkp (hd _ (List.getElem_mem Q0)) ht).1 h3.symm
     rw[e] at h1
     exact absurd h1 Q0
   rw[hr,hf]
   by_cases h4:cmpD (key l[i]) t=0
   ·rw[if_neg (by simp;omega),if_pos (by simpa using h4)]
   ·rw[if_pos (by simp;omega),if_neg (by simpa using h4)]
  ·rw[List.drop_eq_nil_of_le hi,List.drop_eq_nil_of_le Q0]
   simp
 ·intro y hy
  obtain⟨j,hj,rfl⟩:=List.getElem_of_mem hy
  rw[List.length_take] at hj
  rw[List.getElem_take]
  have:=h.lo j Q0 Q0
  simp
  omega
def plcD{α:Type}(key:α->DstV)(l:List α)(x:α):List α:=l.filter (λy=>decide (cmpD (key y) (key x)<0))++([x]++l.filter (λy=>decide (0<cmpD (key y) (key x))))
theorem Zi1{α:Type}{key:α->DstV}{l:List α}{x:α}(h:l.Pairwise λa b=>cmpD (key a) (key b)<0):Zbv (λy=>cmpD (key y) (key x)) x false l=plcD key l x:=by
 rw[Zid]
 ·rfl
 ·exact h.imp λ{a b}h k=>ZmD h k
section
variable {α:Type} {key:α->DstV} {l:List α} {x z:α} {i:Nat} (hA:l.Pairwise λa b=>cmpD (key a) (key b)<0) (hd:∀y∈l,IsDv (key y)) (hx:IsDv (key x)) (h:PlD key l (key x) i)
include hA hd hx h
theorem Znm(hf:fndD key l (key x) i=true):l.set i x=plcD key l x:=by
 have hi:i<l.length:=by
  rcases Nat.lt_or_ge i l.length with h1|h1
  ·exact h1
  ·unfold fndD at hf
   rw[List.getElem?_eq_none h1] at hf
   cases hf
 unfold plcD
 rw[Zt6 h,Zp4 hA hd hx h,if_pos hf,List.set_eq_take_append_cons_drop,if_pos hi]
 rfl
theorem Zno(hf:fndD key l (key x) i=false):(l.take i++(z::l.drop i)).set i x=plcD key l x:=by
 unfold plcD
 rw[Zt6 h,Zp4 hA hd hx h,hf,List.set_append_right _ _ (by rw[List.length_take];omega)]
 rw[List.length_take,show i-min i l.length=0 by have:=h.le;omega]
 rfl
end
def expS(l:List SrcV)(now:Int):List SrcV:=if ZaK l&&Zag now then l.filter (λx=>decide (now<x.til)) else []
def metV(l:List ReqV)(t:DstV)(d:DisV):List ReqV:=if ZaB l&&Za8 t&&ZaA d.met then l.filter (λx=> !decide (x.to=t)||decide (d.met=65535)||Zbg x.seq d.seq) else l
def dueX(now:Int)(x:ReqV):ReqV:=if x.next<=now then{x with left:=x.left-1,next:=Zaz now 3} else x
def dueD(now:Int)(l:List ReqV):List ReqV:=l.filter λx=>decide (x.next<=now)
def dueA(now:Int)(l:List ReqV):List ReqV:=(l.map (dueX now)).filter λx=>decide (0<x.left)
structure DueQ where
 due:List ReqV
 aft:List ReqV
 err:Int
def dueR(l:List ReqV)(now:Int):DueQ:=if !ZaB l then⟨[],[],1⟩ else if !Zag now then⟨[],[],2⟩ else⟨dueD now l,dueA now l,0⟩
def newQ(now:Int)(t:DstV)(seq hops frm:Int):ReqV:=⟨t,seq,hops,frm,Zaz now 3,3⟩
structure AddQ where
 l:List ReqV
 fresh:Bool
 err:Int
def oldQ(l:List ReqV)(t:DstV)(seq:Int):Bool:=l.any λx=>decide (x.to=t)&& !Zbg seq x.seq
def addV(l:List ReqV)(now:Int)(t:DstV)(seq hops frm:Int):AddQ:=
 if !ZaB l|| !Za8 t then⟨[],false,1⟩ else if !Zag now||decide (hops<1)||decide (32<hops) then⟨[],false,2⟩
 else if oldQ l t seq then⟨l,false,0⟩ else if 64<(plcD ReqV.to l (newQ now t seq hops frm)).length then⟨[],false,10⟩ else⟨plcD ReqV.to l (newQ now t seq hops frm),true,0⟩
theorem ZhW{α:Type}{p:α->Bool}{l:List α}{y:α}(hi:i<l.length)(hy:y=l[i]):(l.take (i+1)).filter p=(l.take i).filter p++(if p y then [y] else []):=by
 rw[List.take_succ_eq_append_getElem hi,List.filter_append,<-hy]
 congr 1
 cases h:p y<;>simp[h]
theorem ZgL{α:Type}{p:α->Bool}{l:List α}{y:α}(hi:i<l.length)(hy:y=l[i])(h:p y=true):(l.take (i+1)).filter p=(l.take i).filter p++[y]:=by rw[ZhW hi hy,if_pos h]
theorem ZjF{α:Type}{p:α->Bool}{l:List α}{y:α}(hi:i<l.length)(hy:y=l[i])(h:p y=false):(l.take (i+1)).filter p=(l.take i).filter p:=by rw[ZhW hi hy,h];simp
theorem Zf8{α:Type}{p:α->Bool}{l:List α}:((l.take i).filter p).length<=l.length:=Nat.le_trans (List.length_filter_le _ _) (by rw[List.length_take];omega)
theorem ZjE{α β:Type}{p:β->Bool}{g:α->β}{l:List α}{y:α}{z:β}(hi:i<l.length)(hy:y=l[i])(hz:g y=z)(h:p z=true):((l.take (i+1)).map g).filter p=((l.take i).map g).filter p++[z]:=by
 rw[List.take_succ_eq_append_getElem hi,List.map_append,List.filter_append,<-hy]
 simp[hz,h]
theorem Zpk{α β:Type}{p:β->Bool}{g:α->β}{l:List α}{y:α}{z:β}(hi:i<l.length)(hy:y=l[i])(hz:g y=z)(h:p z=false):((l.take (i+1)).map g).filter p=((l.take i).map g).filter p:=by
 rw[List.take_succ_eq_append_getElem hi,List.map_append,List.filter_append,<-hy]
 simp[hz,h]
theorem ZbA:ZaB l=true↔l.length<=64/\(∀a∈l,req1 a=true)/\AscC Zha l:=Zdt (λ_ _ _ h k=>Za6 h k)
theorem ZtY(h:ZaB l=true){y:ReqV}(hy:y∈l):1<=y.left/\y.left<=3:=by
 have:=(ZbA.1 h).2.1 y hy
 unfold req1 at this
 simp only[Bool.and_eq_true,decide_eq_true_eq] at this
 exact⟨this.1.2,this.2⟩
theorem vCI(h:p:=by
  refine Zae rfl rfl rfl λw M=>?_
  exact⟨[],by unfold expS;rw[hv,ht];exact OwnS.nil _ _,Mem.nil M.ext⟩):p:=h
theorem vCQ(h:p:=by
  refine Zae rfl rfl rfl λw M=>?_
  exact⟨[],by unfold expS;rw[hv];exact OwnS.nil _ _,Mem.nil M.ext⟩):p:=h
theorem Zvw(l:List SrcV)(hx:∀x∈l,IsSr x)(v:Value)(now:Int)(W:World)(hS:SlAt W 38 v l.length (srsC l)):Cal prog 287 [v, .int .i64 now].toArray W λr w'=>∃ent,OwnS 166 38 r ((expS l now)).length (srsC ((expS l now))) ent/\Mem [] W w' ent:=by
 obtain⟨q,cap,rfl,_⟩:=id hS
 have hm:=hS.memB [] Q5
 refine yS (n:=32) Tryz.func287 rfl rfl ?_
 cases hv:ZaK l
 ·refine W4 [9,0,2,0,14] @ZaO ?_
  exact vCQ
 cases ht:Zag now
 ·refine W4 [9,0,2,0,1,0,4,0,7] (T2 @ZaO @Zas) ?_
  exact vCI
 have hl:l.length<=256:=(Zbc.1 hv).1
 have hE:expS l now=l.filter (λx=>decide (now<x.til)):=by unfold expS;rw[hv,ht];rfl
 refine W4 [9,0,2,0,1,0,4,0,16] (T2 @ZaO @Zas) ?_
 refine Zba (ZfW 18 17 16 (ZbN hx) hm (λi(j:Value×EN)=>OwnS 166 38 j.1 (((l.take i).filter (λx=>decide (now<x.til)))).length (srsC (((l.take i).filter (λx=>decide (now<x.til))))) j.2) (λj=>[(5,j.1),(1, .int .i64 now)]) (λj=>[j.2]) (_,[]) (OwnS.nilL _ _ _) ?_ ?_)
 ·rintro i ⟨u,es⟩ y hi hy hym b o cs t fz rfl hb f1 hO
  dsimp only at hO⊢
  have yI:=hx y hym
  have hf:((l.take i).filter (λx=>decide (now<x.til))).length<=l.length:=Zf8
  by_cases c1:now<y.til
  ·refine W3 [6,0,6,0,0] ?_
   refine Zac λb7=>?_
   refine W3 [0,5,0,4,0,2,0] ?_
   refine g_bs rfl rfl rfl (ZcJ Qd) (λb28=>?_)
   refine ZaY 2 0 (enc:=srC) rfl rfl Qd rfl rfl (Zcj Qd) Q4 (λ_=>rfl) (λv29 es29 hO29=>?_) (ZcX _)
   refine W3 [5,0,2] ?_
   exact gR (_,_) (by show OwnS _ _ _ _ _ _;rw[ZgL hi hy (dqT c1)];assumption)
  ·refine W3 [6,0,6,0,0] ?_
   refine Zac λb7=>?_
   refine W3 [0,5,0,4,0,4,0,2] ?_
   exact gR (_,_) (by show OwnS _ _ _ _ _ _;rw[ZjF hi hy (dqF c1)];assumption)
 ·rintro⟨u,es⟩ i hi hO
  subst hi
  dsimp only at hO⊢
  rw[List.take_length,<-hE] at hO
  refine W3 [6,0,2,0,9] ?_
  exact Zae rfl rfl rfl λw M=>⟨_,hO,M.sub Q5⟩
theorem vAv(h:p:=by
  refine g_bs rfl rfl rfl (ZbO Qd) (λb49=>?_)
  refine ZaY 2 0 (enc:=rqC) rfl rfl Qd rfl rfl (Zb1 Qd) Q4 (λ_=>rfl) (λv50 es50 hO50=>?_) (ZcY _)
  refine W3 [5,0,2] ?_
  exact gR (_,_) (by show OwnS _ _ _ _ _ _;rw[hp];assumption)):p:=h
theorem vBs(h:p:=by
  refine gQ 5 rfl (Zae rfl rfl rfl λw M=>?_)
  exact⟨ent,by rw[hE];exact hO,M.sub (List.sublist_append_left _ _)⟩):p:=h
theorem Zvv(l:List ReqV)(hx:∀x∈l,IsRq x)(v:Value)(hl:l.length<=100000)(t:DstV)(td:IsDv t)(d:DisV)(W:World)(hS:SlAt W 40 v l.length (rqsC l)):Cal prog 289 [v, .agg (dvC t).toArray, .agg (diC d).toArray].toArray W λr w'=>∃ent,OwnS 171 40 r ((metV l t d)).length (rqsC ((metV l t d))) ent/\Mem [] W w' ent:=by
 obtain⟨q,cap,rfl,_⟩:=id hS
 have hm:=hS.memB [] Q5
 refine yS (n:=53) Tryz.func289 rfl rfl ?_
 cases hv:ZaB l
 ·refine gQ 2 rfl ?_
  refine Zai rfl rfl λb4=>Zai rfl rfl λb5=>?_
  refine W4 [7,0,2,0,15] @Zbf ?_
  refine Zba (ZcF 0 rfl rfl (OwnS.nil _ _) rfl (λw M=>(hS.later M.ext).src Zfd) Q0 Q0 (λ_=>rfl) (λu ent hO=>?_))
  rw[Nat.zero_add,List.nil_append] at hO
  have hE:metV l t d=l:=by unfold metV;rw[hv];simp
  exact vBs
 cases ht:Za8 t
 ·refine gQ 2 rfl ?_
  refine Zai rfl rfl λb4=>Zai rfl rfl λb5=>?_
  refine W4 [7,0,2,0,0,0,3,0,10] (T2 @Zbf @ZaM) ?_
  refine Zba (ZcF 0 rfl rfl (OwnS.nil _ _) rfl (λw M=>(hS.later M.ext).src Zfd) Q0 Q0 (λ_=>rfl) (λu ent hO=>?_))
  rw[Nat.zero_add,List.nil_append] at hO
  have hE:metV l t d=l:=by unfold metV;rw[hv,ht];simp
  exact vBs
 cases hm0:ZaA d.met
 ·refine gQ 2 rfl ?_
  refine Zai rfl rfl λb4=>Zai rfl rfl λb5=>?_
  refine W4 [7,0,2,0,0,0,3,0,0,0,4,0,3] (T3 @Zbf @ZaM @ZbI) ?_
  refine Zba (ZcF 0 rfl rfl (OwnS.nil _ _) rfl (λw M=>(hS.later M.ext).src Zfd) Q0 Q0 (λ_=>rfl) (λu ent hO=>?_))
  rw[Nat.zero_add,List.nil_append] at hO
  have hE:metV l t d=l:=by unfold metV;rw[hv,ht,hm0];simp
  exact vBs
 have hE:metV l t d=l.filter (λx=> !decide (x.to=t)||decide (d.met=65535)||Zbg x.seq d.seq):=by unfold metV;rw[hv,ht,hm0];rfl
 refine gQ 2 rfl (Zai rfl rfl λb4=>Zai rfl rfl λb5=>?_)
 refine W4 [7,0,2,0,0,0,3,0,0,0,4,0,16] (T3 @Zbf @ZaM @ZbI) ?_
 refine Zba (ZfW 27 26 25 (ZbB hx) hm (λi(j:Value×EN)=>OwnS 171 40 j.1 (((l.take i).filter (λx=> !decide (x.to=t)||decide (d.met=65535)||Zbg x.seq d.seq))).length (rqsC (((l.take i).filter (λx=> !decide (x.to=t)||decide (d.met=65535)||Zbg x.seq d.seq)))) j.2) (λj=>[(7,j.1),(4, .pointer (some ⟨b4,0,none⟩)),(5, .pointer (some ⟨b5,0,none⟩))]) (λj=>[j.2,[(b5, .cells (diC d).toArray 72 (0,0))],[(b4, .cells (dvC t).toArray 67 (0,0))]]) (_,[]) (OwnS.nilL _ _ _) ?_ ?_)
 ·rintro i ⟨u,es⟩ y hi hy hym b o cs t2 fz rfl hb f1 hO
  dsimp only at hO⊢
  have yI:=hx y hym
  have yd:IsDv y.to:=yI
  have hf:((l.take i).filter (λx=> !decide (x.to=t)||decide (d.met=65535)||Zbg x.seq d.seq)).length<=l.length:=Zf8
  by_cases c1:y.to=t
  ·have c1t:(!decide (y.to=t))=false:=by simp[c1]
   by_cases c2:d.met=65535
   ·have hp:=ZgL (p:=(λx=> !decide (x.to=t)||decide (d.met=65535)||Zbg x.seq d.seq)) hi hy (by simp[c2])
    refine W3 [6,0,6,0,0] ?_
    refine Zac λb9=>?_
    refine W3 [0,5,0,0] ?_
    refine Zlh rfl rfl (ZaG Qd) (ZaG Qd) (Zc3 Qd Qd) ?_
    refine W3 [1,0,1,0,3,0,11,0] ?_
    exact vAv
   ·cases c3:Zbg y.seq d.seq
    ·have hp:=ZjF (p:=(λx=> !decide (x.to=t)||decide (d.met=65535)||Zbg x.seq d.seq)) hi hy (by simp[c1,c2,c3])
     refine W3 [6,0,6,0,0] ?_
     refine Zac λb9=>?_
     refine W3 [0,5,0,0] ?_
     refine Zlh rfl rfl (ZaG Qd) (ZaG Qd) (Zc3 Qd Qd) ?_
     refine W4 [1,0,1,0,3,0,1,0,1,0,0,3,0,4,0,2] @Zgi ?_
     exact gR (_,_) (by show OwnS _ _ _ _ _ _;rw[hp];assumption)
    ·have hp:=ZgL (p:=(λx=> !decide (x.to=t)||decide (d.met=65535)||Zbg x.seq d.seq)) hi hy (by simp[c3])
     refine W3 [6,0,6,0,0] ?_
     refine Zac λb9=>?_
     refine W3 [0,5,0,0] ?_
     refine Zlh rfl rfl (ZaG Qd) (ZaG Qd) (Zc3 Qd Qd) ?_
     refine W4 [1,0,1,0,3,0,1,0,1,0,0,3,0,2,0] @Zgi ?_
     exact vAv
  ·have c1t:(!decide (y.to=t))=true:=by simp[c1]
   have hp:=ZgL (p:=(λx=> !decide (x.to=t)||decide (d.met=65535)||Zbg x.seq d.seq)) hi hy (by simp[c1])
   refine W3 [6,0,6,0,0] ?_
   refine Zac λb9=>?_
   refine W3 [0,5,0,0] ?_
   refine Zlh rfl rfl (ZaG Qd) (ZaG Qd) (Zc3 Qd Qd) ?_
   refine W3 [1,0,16,0] ?_
   exact vAv
 ·rintro⟨u,es⟩ i hi hO
  subst hi
  dsimp only at hO⊢
  rw[List.take_length,<-hE] at hO
  refine W3 [6,0,2,0,9] ?_
  exact Zae rfl rfl rfl λw M=>⟨_,hO,M.sub (List.sublist_append_left _ _)⟩
def Zo2(l:List ReqV)(now:Int)(r:Value)(W w':World):Prop:=∃u1 u2 e1 e2,r= .tuple #[u1,u2, .int .i64 (dueR l now).err]/\OwnS 171 40 u1 ((dueR l now).due).length (rqsC ((dueR l now).due)) e1/\OwnS 171 40 u2 ((dueR l now).aft).length (rqsC ((dueR l now).aft)) e2/\Mem [] W w' ([e1,e2]:Row).flatten
theorem Zo2.err(h:dueR l now=⟨[],[],c⟩)(E:Ext [] W w):Zo2 l now (.tuple #[.slice none 0 0, .slice none 0 0, .int .i64 c]) W w:=⟨_,_,[],[],by rw[h],by rw[h];exact OwnS.nil _ _,by rw[h];exact OwnS.nil _ _,Mem.nil E⟩
theorem vB2(h:p:=by
  exact gR (_,_,_,_) ⟨by show OwnS _ _ _ _ _ _;rw[e1];assumption,by show OwnS _ _ _ _ _ _;rw[e2];assumption⟩):p:=h
theorem vBy(h:p:=by
  refine ZdT rfl rfl (λa w F M=>(.cons (.tmp (F.e rfl)) (.cons (.tmp (F.e rfl)) (.cons (.tmp (F.e rfl)) .nil)))) ?_;intro w M;(try dsimp only[Zce])
  exact Zo2.err (by unfold dueR;rw[hv,ht];rfl) M.ext):p:=h
theorem vBE(h:p:=by
  refine ZdT rfl rfl (λa w F M=>(.cons (.tmp (F.e rfl)) (.cons (.tmp (F.e rfl)) (.cons (.tmp (F.e rfl)) .nil)))) ?_;intro w M;(try dsimp only[Zce])
  exact Zo2.err (by unfold dueR;rw[hv];rfl) M.ext):p:=h
theorem ZvB(l:List ReqV)(hx:∀x∈l,IsRq x)(v:Value)(now:Int)(W:World)(hS:SlAt W 40 v l.length (rqsC l)):Cal prog 208 [v, .int .i64 now].toArray W λr w'=>Zo2 l now r W w':=by
 obtain⟨q,cap,rfl,_⟩:=id hS
 have hm:=hS.memB [] Q5
 refine yS (n:=48) Tryz.func208 rfl rfl ?_
 cases hv:ZaB l
 ·refine W4 [11,0,3,0,9] @Zbf ?_
  exact vBE
 cases ht:Zag now
 ·refine W4 [11,0,3,0,6,0,3,0,9] (T2 @Zbf @Zas) ?_
  exact vBy
 obtain⟨hn0,hn1⟩:=Zbt ht
 have hl:l.length<=64:=(ZbA.1 hv).1
 have hE:dueR l now=⟨dueD now l,dueA now l,0⟩:=by unfold dueR;rw[hv,ht];rfl
 refine W4 [11,0,3,0,6,0,3,0,17] (T2 @Zbf @Zas) ?_
 refine Zba (Zba (ZfW 19 18 17 (ZbB hx) hm (λi(j:Value×EN×Value×EN)=>OwnS 171 40 j.1 (((l.take i).filter λx=>decide (x.next<=now))).length (rqsC (((l.take i).filter λx=>decide (x.next<=now)))) j.2.1/\OwnS 171 40 j.2.2.1 ((((l.take i).map (dueX now)).filter λx=>decide (0<x.left))).length (rqsC ((((l.take i).map (dueX now)).filter λx=>decide (0<x.left)))) j.2.2.2) (λj=>[(7,j.1),(8,j.2.2.1),(1, .int .i64 now)]) (λj=>[j.2.1,j.2.2.2]) (_,[],_,[]) ⟨OwnS.nilL _ _ _,OwnS.nilL _ _ _⟩ ?_ ?_))
 ·rintro i ⟨u,es,u2,es2⟩ y hi hy hym b o cs t2 fz rfl hb f1 ⟨hO,hO2⟩
  dsimp only at hO hO2⊢
  have yI:=hx y hym
  have hf:((l.take i).filter λx=>decide (x.next<=now)).length<=l.length:=Zf8
  have hf2:(((l.take i).map (dueX now)).filter λx=>decide (0<x.left)).length<=l.length:=Nat.le_trans (List.length_filter_le _ _) (by rw[List.length_map,List.length_take];omega)
  have hlf:=ZtY hv hym
  by_cases c1:y.next<=now
  ·have e1:=ZgL (p:=λx:ReqV=>decide (x.next<=now)) hi hy (dqT c1)
   have hz:dueX now y=⟨y.to,y.seq,y.hops,y.frm,Zaz now 3,y.left-1⟩:=by unfold dueX;rw[if_pos c1]
   have zI:IsRq ⟨y.to,y.seq,y.hops,y.frm,Zaz now 3,y.left-1⟩:=yI
   by_cases c2:0<y.left-1
   ·have e2:=ZjE (p:=λx:ReqV=>decide (0<x.left)) hi hy hz (dqT c2)
    refine W3 [6,0,6,0,0] ?_
    refine Zac λb10=>?_
    refine W3 [0,6,0,4,0,3,0] ?_
    refine g_bs rfl rfl rfl (ZbO Qd) (λb29=>?_)
    refine ZaY 2 0 (enc:=rqC) rfl rfl Qd rfl rfl (Zb1 Qd) Q4 (λ_=>rfl) (λv30 es30 hO30=>?_) (ZcY _)
    refine W3 [6,0,0,1] ?_
    refine Zgy 1 rfl rfl rfl rfl (ZeO Qd _) rfl ?_
    refine W4 [4,0,1] @ZcS ?_
    refine Zgy 1 rfl rfl rfl rfl (ZfQ Qd _) rfl ?_
    refine W3 [5,0,3,0,2,0] ?_
    refine g_bs rfl rfl rfl (ZbO Qd) (λb43=>?_)
    refine ZaY 4 0 (enc:=rqC) rfl rfl Qd rfl rfl (Zb1 Qd) Q4 (λ_=>rfl) (λv44 es44 hO44=>?_) (ZcY _)
    refine W3 [5,0,2] ?_
    exact vB2
   ·have e2:=Zpk (p:=λx:ReqV=>decide (0<x.left)) hi hy hz (dqF c2)
    refine W3 [6,0,6,0,0] ?_
    refine Zac λb10=>?_
    refine W3 [0,6,0,4,0,3,0] ?_
    refine g_bs rfl rfl rfl (ZbO Qd) (λb29=>?_)
    refine ZaY 2 0 (enc:=rqC) rfl rfl Qd rfl rfl (Zb1 Qd) Q4 (λ_=>rfl) (λv30 es30 hO30=>?_) (ZcY _)
    refine W3 [6,0,0,1] ?_
    refine Zgy 1 rfl rfl rfl rfl (ZeO Qd _) rfl ?_
    refine W4 [4,0,1] @ZcS ?_
    refine Zgy 1 rfl rfl rfl rfl (ZfQ Qd _) rfl ?_
    refine W3 [5,0,3,0,4,0,2] ?_
    exact vB2
  ·have e1:=ZjF (p:=λx:ReqV=>decide (x.next<=now)) hi hy (dqF c1)
   have hz:dueX now y=y:=by unfold dueX;rw[if_neg c1]
   have e2:=ZjE (p:=λx:ReqV=>decide (0<x.left)) hi hy hz Qt
   refine W3 [6,0,6,0,0] ?_
   refine Zac λb10=>?_
   refine W3 [0,6,0,4,0,5,0,3,0,2,0] ?_
   refine g_bs rfl rfl rfl (ZbO Qd) (λb43=>?_)
   refine ZaY 3 0 (enc:=rqC) rfl rfl Qd rfl rfl (Zb1 Qd) Q4 (λ_=>rfl) (λv44 es44 hO44=>?_) (ZcY _)
   refine W3 [5,0,2] ?_
   exact vB2
 ·rintro⟨u,es,u2,es2⟩ i hi ⟨hO,hO2⟩
  subst hi
  dsimp only at hO hO2⊢
  rw[List.take_length] at hO hO2
  refine W3 [6,0,2,0,12] ?_
  refine ZdT rfl rfl (λa w F M=>(.cons (.tmp (F.e rfl)) (.cons (.tmp (F.e rfl)) (.cons (.tmp (F.e rfl)) .nil)))) ?_;intro w M;(try dsimp only[Zce])
  exact⟨_,_,es,es2,by rw[hE],by rw[hE];exact hO,by rw[hE];exact hO2,by simpa using M⟩
def Ze4(a:AddQ)(r:Value)(W w':World):Prop:=∃u ent,r= .tuple #[u, .bool a.fresh, .int .i64 a.err]/\OwnS 171 40 u a.l.length (rqsC a.l) ent/\Mem [] W w' ent
theorem Ze4.nul{a:AddQ}(h:a=⟨[],false,c⟩)(E:Ext [] W w):Ze4 a (.tuple #[.slice none 0 0, .bool false, .int .i64 c]) W w:=⟨_,[],by rw[h],by rw[h];exact OwnS.nil _ _,Mem.nil E⟩
theorem Ze4.is{a:AddQ}{u:Value}{f:Bool}(h:a=⟨l,f,c⟩)(hO:OwnS 171 40 u l.length (rqsC l) ent)(M:Mem [] W w ent):Ze4 a (.tuple #[u, .bool f, .int .i64 c]) W w:=⟨_,ent,by rw[h],by rw[h];exact hO,M⟩
section
variable {l:List ReqV} {now seq hops frm:Int} {t:DstV}
theorem ZuK(h:ZaB l=false∨Za8 t=false):addV l now t seq hops frm=⟨[],false,1⟩:=by
 unfold addV
 rcases h with h|h<;>rw[h]<;>simp
theorem ZrQ(hv:ZaB l=true)(ht:Za8 t=true)(h:Zag now=false∨hops<1∨32<hops):addV l now t seq hops frm=⟨[],false,2⟩:=by
 unfold addV
 rw[hv,ht,if_neg Q5,if_pos]
 rcases h with h|h|h<;>simp[h]
theorem ZuJ(hv:ZaB l=true)(ht:Za8 t=true)(hn:Zag now=true)(h1:¬hops<1)(h2:¬32<hops):addV l now t seq hops frm=if oldQ l t seq then⟨l,false,0⟩ else if 64<(plcD ReqV.to l (newQ now t seq hops frm)).length then⟨[],false,10⟩ else⟨plcD ReqV.to l (newQ now t seq hops frm),true,0⟩:=by
 conv=>lhs;unfold addV
 rw[hv,ht,hn,if_neg Q5,if_neg (by simp;omega)]
theorem Zt8{y:ReqV}(hy:y∈l)(h1:y.to=t)(h2:Zbg seq y.seq=false):oldQ l t seq=true:=by
 unfold oldQ
 rw[List.any_eq_true]
 exact⟨y,hy,by simp[h1,h2]⟩
theorem Zqi(h:∀j(hj:j<l.length),¬(l[j].to=t/\Zbg seq l[j].seq=false)):oldQ l t seq=false:=by
 unfold oldQ
 rw[List.any_eq_false]
 intro x hx
 obtain⟨j,hj,rfl⟩:=List.getElem_of_mem hx
 have:=h j hj
 simp only[Bool.and_eq_true,decide_eq_true_eq,Bool.not_eq_true']
 exact this
end
theorem vAK(h:p:=by
  refine g_bs rfl rfl rfl (ZbO Qd) (λb82=>?_)
  refine ZaY 2 0 (enc:=rqC) rfl rfl Qd rfl rfl (Zb1 Qd) Q4 (λ_=>rfl) (λv83 es83 hO83=>?_) (ZcY _)
  refine W3 [5,0,2] ?_
  exact gR (d,out++[x],_,_) ⟨by assumption,mg3 hmg hi hx0.symm (by first|exact .inl Qd|exact .inr (by show cmpD x.to t<0;omega)) (by show ¬cmpD x.to t=0;omega),hno3⟩):p:=h
theorem vBz(h:p:=by
  refine ZdT rfl rfl (λa w F M=>(.cons (.tmp (F.e rfl)) (.cons (.tmp (F.e rfl)) (.cons (.tmp (F.e rfl)) .nil)))) ?_;intro w M;(try dsimp only[Zce])
  exact Ze4.nul (ZrQ hv ht (.inr (.inl h1))) M.ext):p:=h
theorem vBA(h:p:=by
  refine ZdT rfl rfl (λa w F M=>(.cons (.tmp (F.e rfl)) (.cons (.tmp (F.e rfl)) (.cons (.tmp (F.e rfl)) .nil)))) ?_;intro w M;(try dsimp only[Zce])
  exact Ze4.nul (ZrQ hv ht (.inr (.inr h2))) M.ext):p:=h
theorem vBG(h:p:=by
  refine ZdT rfl rfl (λa w F M=>(.cons (.tmp (F.e rfl)) (.cons (.tmp (F.e rfl)) (.cons (.tmp (F.e rfl)) .nil)))) ?_;intro w M;(try dsimp only[Zce])
  exact Ze4.nul (ZrQ hv ht (.inl hn)) M.ext):p:=h
theorem vBM(h:p:=by
  refine ZdT rfl rfl (λa w F M=>(.cons (.tmp (F.e rfl)) (.cons (.tmp (F.e rfl)) (.cons (.tmp (F.e rfl)) .nil)))) ?_;intro w M;(try dsimp only[Zce])
  exact Ze4.nul (ZuK (.inl hv)) M.ext):p:=h
theorem vBN(h:p:=by
  refine ZdT rfl rfl (λa w F M=>(.cons (.tmp (F.e rfl)) (.cons (.tmp (F.e rfl)) (.cons (.tmp (F.e rfl)) .nil)))) ?_;intro w M;(try dsimp only[Zce])
  exact Ze4.nul (ZuK (.inr ht)) M.ext):p:=h
theorem vBV(h:p:=by
  refine ZdT rfl rfl (λa w F M=>(.cons (.tmp (F.e rfl)) (.cons (.tmp (F.e rfl)) (.cons (.tmp (F.e rfl)) .nil)))) ?_;intro w M;(try dsimp only[Zce])
  exact Ze4.nul hE M.ext):p:=h
theorem ZpX(l:List ReqV)(hx:∀x∈l,IsRq x)(v:Value)(now:Int)(t:DstV)(td:IsDv t)(seq hops frm:Int)(W:World)(hS:SlAt W 40 v l.length (rqsC l)):Cal prog 146 [v, .int .i64 now, .agg (dvC t).toArray, .int .u16 seq, .int .i64 hops, .int .u64 frm].toArray W λr w'=>Ze4 (addV l now t seq hops frm) r W w':=by
 obtain⟨q,cap,rfl,_⟩:=id hS
 have hm:=hS.memB [] Q5
 have nwI:IsRq (newQ now t seq hops frm):=td
 refine yS (n:=95) Tryz.func146 rfl rfl ?_
 cases hv:ZaB l
 ·refine gQ 2 rfl ?_
  refine Zai rfl rfl λb8=>?_
  refine W4 [9,0,2,0,16] @Zbf ?_
  exact vBM
 cases ht:Za8 t
 ·refine gQ 2 rfl ?_
  refine Zai rfl rfl λb8=>?_
  refine W4 [9,0,2,0,0,0,4,0,9] (T2 @Zbf @ZaM) ?_
  exact vBN
 cases hn:Zag now
 ·refine gQ 2 rfl ?_
  refine Zai rfl rfl λb8=>?_
  refine W4 [9,0,2,0,0,0,4,0,6,0,2,0,19] (T3 @Zbf @ZaM @Zas) ?_
  exact vBG
 by_cases h1:hops<1
 ·refine gQ 2 rfl ?_
  refine Zai rfl rfl λb8=>?_
  refine W4 [9,0,2,0,0,0,4,0,6,0,2,0,4,0,15] (T3 @Zbf @ZaM @Zas) ?_
  exact vBz
 by_cases h2:32<hops
 ·refine gQ 2 rfl ?_
  refine Zai rfl rfl λb8=>?_
  refine W4 [9,0,2,0,0,0,4,0,6,0,2,0,4,0,5,0,9] (T3 @Zbf @ZaM @Zas) ?_
  exact vBA
 have hE:=ZuJ (seq:=seq) (frm:=frm) hv ht hn h1 h2
 obtain⟨hn0,hn1⟩:=Zbt hn
 have hl:l.length<=64:=(ZbA.1 hv).1
 have hA:=(ZbA.1 hv).2.2
 have nwB:=Znb nwI
 refine gQ 2 rfl (Zai rfl rfl λb8=>?_)
 refine W4 [9,0,2,0,0,0,4,0,6,0,2,0,4,0,5,0,3,1008,0,4,0,0] (T4 @Zbf @ZaM @Zas @ZcS) ?_
 refine ZwF λb15=>?_
 refine W3 [0,21] ?_
 refine Zba (ZfW 49 48 47 (ZbB hx) hm (ι:=Bool×List ReqV×Value×EN) (λi(d,out,u,es)=>OwnS 171 40 u out.length (rqsC out) es/\out++Zbv (λy:ReqV=>cmpD y.to (newQ now t seq hops frm).to) (newQ now t seq hops frm) d (l.drop i)=Zbv (λy:ReqV=>cmpD y.to (newQ now t seq hops frm).to) (newQ now t seq hops frm) false l/\∀j(hj:j<l.length),j<i->¬(l[j].to=t/\Zbg seq l[j].seq=false)) (λ(d,out,u,es)=>[(16,u),(17, .bool d),(8, .pointer (some ⟨b8,0,none⟩)),(3, .int .u16 seq),(0, .slice q l.length cap),(15, .pointer (some ⟨b15,0,none⟩))]) (λ(d,out,u,es)=>[es,[(b15, .cells (rqC (newQ now t seq hops frm)).toArray 171 (0,0))],[(b8, .cells (dvC t).toArray 67 (0,0))]]) (false,[],_,[]) ⟨OwnS.nilL _ _ _,rfl,λj hj h=>absurd h (Nat.not_lt_zero _)⟩ ?_ ?_)
 ·rintro i ⟨d,out,u,es⟩ x hi hx0 hxm b o cs t2 fz rfl hb f1 ⟨hO,hmg,hno⟩
  dsimp only at hO hmg hno⊢
  have xI:=hx x hxm
  have xd:IsDv x.to:=xI
  have hol2:out.length<=100:=Zuf hmg Q0
  have hol4:(out++[(newQ now t seq hops frm)]).length=out.length+1:=by simp
  have hno2:¬(x.to=t/\Zbg seq x.seq=false)->∀j(hj:j<l.length),j<i+1->¬(l[j].to=t/\Zbg seq l[j].seq=false):=λh j hj hji=>by
   rcases Nat.lt_or_ge j i with h3|h3
   ·exact hno j hj h3
   ·obtain rfl:j=i:=by omega
    rw[<-hx0];exact h
  by_cases c0:x.to=t/\Zbg seq x.seq=false
  ·have hk0:cmpD x.to t=0:=(Zkp xd td).2 c0.1
   have hnw:=c0.2
   refine W3 [6,0,6,0,0] ?_
   refine Zac λb19=>?_
   refine W4 [0,5,0,0,0,9,0,2,0,0,4,0,3] (T2 @ZaR @Zgi) ?_
   refine Zba (ZcF 0 rfl rfl (OwnS.nil _ _) rfl (λw M=>(hS.later M.ext).src Zfd) Q0 Q0 (λ_=>rfl) (λu ent hO=>?_))
   rw[Nat.zero_add,List.nil_append] at hO
   refine W3 [9,0,2] ?_
   refine ZdT rfl rfl (λa w F M=>(.cons (.tmp (F.e rfl)) (.cons (.tmp (F.e rfl)) (.cons (.tmp (F.e rfl)) .nil)))) ?_;intro w M;(try dsimp only[Zce])
   exact Ze4.is (by rw[hE,if_pos (Zt8 hxm c0.1 c0.2)]) hO (M.sub (List.sublist_append_left _ _))
  ·have hno3:=hno2 c0
   have hn0:cmpD x.to t=0->Zbg seq x.seq=true:=λh=>by
    have e:=(Zkp xd td).1 h
    cases hw:Zbg seq x.seq
    ·exact absurd ⟨e,hw⟩ c0
    ·rfl
   refine W3 [6,0,6,0,0] ?_
   refine Zac λb19=>?_
   refine W4 [0,5,0,0,0,9] @ZaR ?_
   refine Zah 59 rfl (λh1=>?_) (λh1=>?_)
   ·replace h1:=dqU h1
    refine W4 [2,0,0,4] @Zgi ?_
    refine g_if rfl (λh2=>?_) (λh2=>?_)
    ·replace h2:=Zaa h2
     exact gQ 3 rfl (Bool.noConfusion ((hn0 Qd).symm.trans (by assumption:Zbg seq x.seq=false)))
    ·replace h2:=Zab h2
     refine W3 [8,0,5] ?_
     refine g_if rfl (λh3=>?_) (λh3=>?_)
     ·replace h3:=Zaa h3
      refine W3 [3,0] ?_
      refine g_bs rfl rfl rfl (ZbO Qd) (λb76=>?_)
      refine ZaY 2 0 (enc:=rqC) rfl rfl Qd rfl rfl (Zb1 Qd) Q4 (λ_=>rfl) (λv77 es77 hO77=>?_) (ZcY _)
      refine W3 [13,0,4,0,2] ?_
      exact gR (true,out++[(newQ now t seq hops frm)],_,_) ⟨by assumption,mg2 hmg hi hx0.symm Qd (by show cmpD x.to t=0;omega),hno3⟩
     ·replace h3:=Zab h3
      refine W3 [8,0,4,0,2] ?_
      exact gR (d,out,_,_) ⟨by assumption,mg4 hmg hi hx0.symm Qd (by show cmpD x.to t=0;omega),hno3⟩
   ·replace h1:=dqV h1
    refine gQ 17 rfl (Zah 70 rfl (λh2=>?_) (λh2=>?_))
    ·replace h2:=dqU h2
     refine gQ 5 rfl (g_if rfl (λh3=>?_) (λh3=>?_))
     ·replace h3:=Zaa h3
      refine W3 [3,0] ?_
      refine g_bs rfl rfl rfl (ZbO Qd) (λb76=>?_)
      refine ZaY 2 0 (enc:=rqC) rfl rfl Qd rfl rfl (Zb1 Qd) Q4 (λ_=>rfl) (λv77 es77 hO77=>?_) (ZcY _)
      refine W3 [13,0,2,0] ?_
      refine g_bs rfl rfl rfl (ZbO Qd) (λb82=>?_)
      refine ZaY 3 0 (enc:=rqC) rfl rfl Qd rfl rfl (Zb1 Qd) Q4 (λ_=>rfl) (λv83 es83 hO83=>?_) (ZcY _)
      refine W3 [5,0,2] ?_
      exact gR (true,(out++[(newQ now t seq hops frm)])++[x],_,_) ⟨by assumption,mg1 hmg hi hx0.symm Qd (by show 0<=cmpD x.to t;omega) (by show ¬cmpD x.to t=0;omega),hno3⟩
     ·replace h3:=Zab h3
      refine W3 [8,0,2,0] ?_
      exact vAK
    ·replace h2:=dqV h2
     refine W3 [14,0,2,0] ?_
     exact vAK
 ·rintro⟨d,out,u,es⟩ i hi ⟨hO,hmg,hno⟩
  dsimp only at hO hmg hno⊢
  have hol2:out.length<=100:=Zuf hmg Q0
  have hold:oldQ l t seq=false:=Zqi λj hj=>hno j hj Q0
  rw[hold,if_neg Q5] at hE
  rw[Zi1 hA] at hmg
  cases d
  ·have hr:=mgE0 hmg hi rfl
   rw[<-hr] at hE
   have hol4:(out++[(newQ now t seq hops frm)]).length=out.length+1:=by simp
   by_cases h6:64<(out++[(newQ now t seq hops frm)]).length
   ·rw[if_pos h6] at hE
    refine W3 [6,0,2,0,12,0] ?_
    refine g_bs rfl rfl rfl (ZbO Qd) (λb89=>?_)
    refine ZaY 1 0 (enc:=rqC) rfl rfl Qd rfl rfl (Zb1 Qd) Q4 (λ_=>rfl) (λv90 es90 hO90=>?_) (ZcY _)
    refine W3 [7,0,3,0,9] ?_
    exact vBV
   ·rw[if_neg h6] at hE
    refine W3 [6,0,2,0,12,0] ?_
    refine g_bs rfl rfl rfl (ZbO Qd) (λb89=>?_)
    refine ZaY 1 0 (enc:=rqC) rfl rfl Qd rfl rfl (Zb1 Qd) Q4 (λ_=>rfl) (λv90 es90 hO90=>?_) (ZcY _)
    refine W3 [7,0,3,0,11] ?_
    refine ZdT rfl rfl (λa w F M=>(.cons (.tmp (F.e rfl)) (.cons (.tmp (F.e rfl)) (.cons (.tmp (F.e rfl)) .nil)))) ?_;intro w M;(try dsimp only[Zce])
    exact Ze4.is hE hO90 (M.sub (List.sublist_flatten_of_mem Q5))
  ·have hr:=mgE1 hmg hi rfl
   rw[<-hr] at hE
   by_cases h6:64<out.length
   ·rw[if_pos h6] at hE
    refine W3 [6,0,2,0,16,0,3,0,9] ?_
    exact vBV
   ·rw[if_neg h6] at hE
    refine W3 [6,0,2,0,16,0,3,0,11] ?_
    refine ZdT rfl rfl (λa w F M=>(.cons (.tmp (F.e rfl)) (.cons (.tmp (F.e rfl)) (.cons (.tmp (F.e rfl)) .nil)))) ?_;intro w M;(try dsimp only[Zce])
    exact Ze4.is hE hO (M.sub (List.sublist_append_left _ _))
inductive Pk:Row->EN->Row->Prop
 |z {e:EN} {r:Row}:Pk (e::r) e r
 |s {x e:EN} {r r2:Row} (h:Pk r e r2):Pk (x::r) e (x::r2)
theorem Pk.perm{row:Row}{e:EN}{r:Row}(h:Pk row e r):row.flatten.Perm (e++r.flatten):=by
 induction h with
 |z=>exact .refl _
 | @s x e r r2 h ih=>
  simp only[List.flatten_cons]
  refine(List.Perm.append_left x ih).trans ?_
  rw[<-List.append_assoc,<-List.append_assoc]
  exact List.Perm.append_right _ List.perm_append_comm
section
variable {c:Cx} {Q:Exit->Act->World->Prop} {ks:List KF} {fr:FN} {row:Row} {d:Nat} {ty:TypeId} {pos:String} {af:Array Edge} {g:Option (Nat×Bool)} {rest:List Oper} {aa:Array Oper}
theorem ZnQ{e:TypeId} [hb:Zad c.P fn](hsel:Pk row ent rst)(hx:Ev fr y=some (.func (.func fn) #[] #[]))(ha:evL fr ys=some vs)
  (hc:∀w,Mem c.S c.W w row.flatten->InW w ent->Cal c.P fn vs.toArray w λv w'=>∃e',OwnS e sz v n us e'/\Mem (ent.map (·.1)) w w' e')
  (hk:∀v e',OwnS e sz v n us e'->G c Q ks (.ops aa rest) ((d,v)::fr) (e'::rst)) (hd:Nat.blt d c.n=true:=by rfl) (hg:gOk aa fr g=some true:=by rfl):G c Q ks (.ops aa (⟨some d, .call ⟨.value y,ys.toArray,ts⟩,ty,pos,af,g⟩::rest)) fr row:=
 g_op rfl hd hg λa w F M=>by
  have hp:=M.perm hsel.perm
  refine Zav (F.e hx) (F.evs ha) (Cal.mono (hc w M (hp.inW (List.sublist_append_left _ _))) λu w' h a' F'=>?_)
  obtain⟨e',h1,h2⟩:=h
  exact hk u e' h1 a' w' F' (hp.joinB h2)
theorem Zq7(k:Nat){α:Type}{enc:α->List Value}{l:List α}{x:α}{i cap b n:Nat}{jk:List Value}{e t:TypeId}{xo yo:Operand}{row':Row} [hs:TAgg c.P t sz](hx:Ev fr xo=some (.pointer (some ⟨b,0+(i:Int).toNat*sz,none⟩)))(hy:Ev fr yo=some (.agg (enc x).toArray))
  (hO:OwnS e sz (.slice (some ⟨b,0,none⟩) n cap) n (encL enc l) [(b, .cells (encL enc l++jk).toArray e (0,0))]) (hn:n=l.length) (hi:i<l.length) (hz:∀y∈l,(enc y).length=sz) (hzx:(enc x).length=sz) (h1:(enc x).all (·.oneCell')=true) (hl:nthO row k=some [(b, .cells (encL enc l++jk).toArray e (0,0))]) (hl':setO row k [(b, .cells (encL enc (l.set i x)++jk).toArray e (0,0))]=some row')
  (hk:OwnS e sz (.slice (some ⟨b,0,none⟩) n cap) (l.set i x).length (encL enc (l.set i x)) [(b, .cells (encL enc (l.set i x)++jk).toArray e (0,0))]->G c Q ks (.ops aa rest) fr row'):G c Q ks (.ops aa (⟨none, .store t xo yo,ty,pos,af,none⟩::rest)) fr row:=by
 subst hn
 have hp:put (encL enc l++jk) (0+(i:Int).toNat*sz) (enc x)=some (encL enc (l.set i x)++jk):=Zkc hz jk hi (off:=0) (Zat ((hz _ (List.getElem_mem hi)).trans hzx.symm)) (by show 0+i*sz=i*sz+0;omega)
 refine Zdf k hx hy hzx h1 hl hp hl' (hk ?_)
 have h:=Znq (l:=l) (l':=l.set i x) hO rfl rfl Q5 ?_
 ·simpa only[List.length_set] using h
 rw[Za2 (sz:=sz) (λy hy=>?_),Za2 hz,List.length_set]
 rcases List.mem_or_eq_of_mem_set hy with h|rfl
 ·exact hz _ h
 ·exact hzx
end
theorem ZwP{l:List SrcV}(hx:∀x∈l,IsSr x)(hl:l.length<=1000)(W:World)(g:FuncId) [hg:Zad prog g](caps:List Value)(p:SrcV->Bool)(hcl:∀w x,Ext (ent.map (·.1)) W w->x∈l->Cal prog g (.agg (srC x).toArray::caps).toArray w λv w'=>v= .bool (p x)/\Ext [] w w')(hO:OwnS 166 38 v l.length (srsC l) ent)(hH:InW W ent):Cal prog 237 [v, .func (.func g) #[] caps.toArray].toArray W λr w'=>∃e',OwnS 166 38 r ((l.filter λx=> !p x)).length (srsC ((l.filter λx=> !p x))) e'/\Mem (ent.map (·.1)) W w' e':=by
 rcases hO with⟨rfl,h0,_,rfl⟩|⟨b,cp,junk,rfl,rfl,hxl,hjl,hnc⟩
 ·obtain rfl:l=[]:=List.length_eq_zero_iff.1 h0
  exact Cal.mono (Zmz W g caps) λr w' h=>⟨[],h.1▸OwnS.nil _ _,Mem.nil h.2⟩
 ·refine Cal.mono (ZoO hx hl W (hH.at_ _ List.mem_cons_self) hjl hnc g caps p hcl) λr w' h=>?_
  obtain⟨junk',rfl,h1,h2,N⟩:=h
  exact⟨_, .inr ⟨b,cp,junk',rfl,rfl,Za2 (ZbN λx hx'=>hx x (List.mem_filter.1 hx').1),h1,h2⟩,N⟩
theorem Mem.drop1{l:EN}{vb:Nat}(M:Mem (vb::S) W w ((vb,o)::l))(h:W.heap[vb]? =some o):Mem S W w l:=by
 have hn:=M.nd
 rw[List.map_cons,List.nodup_cons] at hn
 refine⟨⟨M.ext.os,M.ext.tape,M.ext.output,M.ext.size,M.ext.dr,λk hk hS=>?_⟩,λp hp=>M.at_ p (List.mem_cons_of_mem _ hp),hn.2,λp hp=>?_⟩
 ·by_cases e:k=vb
  ·subst e
   exact(M.at_ _ List.mem_cons_self).trans h.symm
  ·exact M.ext.block k hk (by simp[e,hS])
 ·rcases M.own p (List.mem_cons_of_mem _ hp) with h1|h1
  ·rcases List.mem_cons.1 h1 with h2|h2
   ·exact absurd (List.mem_map.2 ⟨p,hp,h2⟩) hn.1
   ·exact .inl h2
  ·exact .inr h1
theorem Mem.inMk(hH:InW W ent)(hv:W.heap[vb]? =some o)(hne:∀p∈ent,p.1≠vb):Mem (vb::ent.map (·.1)) W W ((vb,o)::ent):=by
 refine⟨Ext.refl _ _,λp hp=>?_,List.nodup_cons.2 ⟨λh=>?_,hH.nd⟩,λp hp=> .inl (List.mem_map_of_mem (f:=λp:Nat×Obj=>p.1) hp)⟩
 ·rcases List.mem_cons.1 hp with rfl|h
  ·exact hv
  ·exact hH.at_ p h
 ·obtain⟨p,h1,h2⟩:=List.mem_map.1 h
  exact hne p h1 h2
theorem Zwf(hx:∀x∈l,IsRq x)(hl:l.length<=1000)(hi:i<=l.length){x0:ReqV}(hx0:(rqC x0).length=40)(h10:(rqC x0).all (·.oneCell')=true)(W:World)(hO:OwnS 171 40 v l.length (rqsC l) ent)(hH:InW W ent)(hv:W.heap[vb]? =some (.cells (rqC x0).toArray 171 (0,0)))(hne:∀p∈ent,p.1≠vb):Cal prog 247 [v, .int .i64 i, .slice (some ⟨vb,0,none⟩) 1 1].toArray W λr w'=>∃e',OwnS 171 40 r ((l.take i++x0::l.drop i)).length (rqsC ((l.take i++x0::l.drop i))) e'/\Mem (ent.map (·.1)) W w' e':=by
 have hz:=ZbB hx
 have M:Mem (vb::ent.map (·.1)) W W ((vb, .cells (rqC x0).toArray 171 (0,0))::ent):=Mem.inMk hH hv hne
 refine Cal.mono (Zmn i hi (rqC x0) hx0 Zfd h10 W M hO (.cons .here) .here hne Q0) λr w' h=>?_
 obtain⟨e',h1,h2⟩:=h
 refine⟨e',?_,h2.drop1 hv⟩
 have e1:(encL rqC l).take (i*40)=encL rqC (l.take i):=ZgD hz i
 have e2:(encL rqC l).drop (i*40)=encL rqC (l.drop i):=Ziv hz i
 have e3:(l.take i++x0::l.drop i).length=l.length+1:=by rw[List.length_append,List.length_cons,List.length_take,List.length_drop];omega
 have e4:rqsC (l.take i++x0::l.drop i)=(encL rqC l).take (i*40)++(rqC x0++(encL rqC l).drop (i*40)):=by rw[e1,e2];show encL _ _=_;rw[ZbC,Zcf]
 rw[e3,e4]
 exact h1
theorem Zwe{l:List SrcV}(hx:∀x∈l,IsSr x)(hl:l.length<=1000)(hi:i<=l.length){x0:SrcV}(hx0:(srC x0).length=38)(h10:(srC x0).all (·.oneCell')=true)(W:World)(hO:OwnS 166 38 v l.length (srsC l) ent)(hH:InW W ent)(hv:W.heap[vb]? =some (.cells (srC x0).toArray 166 (0,0)))(hne:∀p∈ent,p.1≠vb):Cal prog 311 [v, .int .i64 i, .slice (some ⟨vb,0,none⟩) 1 1].toArray W λr w'=>∃e',OwnS 166 38 r ((l.take i++x0::l.drop i)).length (srsC ((l.take i++x0::l.drop i))) e'/\Mem (ent.map (·.1)) W w' e':=by
 have hz:=ZbN hx
 have M:Mem (vb::ent.map (·.1)) W W ((vb, .cells (srC x0).toArray 166 (0,0))::ent):=Mem.inMk hH hv hne
 refine Cal.mono (Zmm i hi (srC x0) hx0 ZlE h10 W M hO (.cons .here) .here hne Q0) λr w' h=>?_
 obtain⟨e',h1,h2⟩:=h
 refine⟨e',?_,h2.drop1 hv⟩
 have e1:(encL srC l).take (i*38)=encL srC (l.take i):=ZgD hz i
 have e2:(encL srC l).drop (i*38)=encL srC (l.drop i):=Ziv hz i
 have e3:(l.take i++x0::l.drop i).length=l.length+1:=by rw[List.length_append,List.length_cons,List.length_take,List.length_drop];omega
 have e4:srsC (l.take i++x0::l.drop i)=(encL srC l).take (i*38)++(srC x0++(encL srC l).drop (i*38)):=by rw[e1,e2];show encL _ _=_;rw[ZbC,Zcf]
 rw[e3,e4]
 exact h1
theorem ZwQ(hx:∀x∈l,IsRq x)(hl:l.length<=1000)(hi:i<l.length)(W:World)(hO:OwnS 171 40 v l.length (rqsC l) ent)(hH:InW W ent):Cal prog 246 [v, .int .i64 i, .int .i64 (i+1)].toArray W λr w'=>∃e',OwnS 171 40 r ((l.eraseIdx i)).length (rqsC ((l.eraseIdx i))) e'/\Mem (ent.map (·.1)) W w' e':=by
 rcases hO with⟨rfl,h0,_,rfl⟩|⟨b,cp,junk,rfl,rfl,hxl,hjl,hnc⟩
 ·omega
 ·refine Cal.mono (ZmA hx hl W (hH.at_ _ List.mem_cons_self) hjl hnc i hi) λr w' h=>?_
  obtain⟨junk',rfl,h1,h2,N⟩:=h
  exact⟨_, .inr ⟨b,cp,junk',rfl,rfl,Za2 (ZbB λx hx'=>hx x (List.mem_of_mem_eraseIdx hx')),h1,h2⟩,N⟩
section
variable {α:Type} {key:α->DstV} {l:List α} {t:DstV} {i:Nat}
theorem Zlj(h:fndD key l t i=true):∃hi:i<l.length,key l[i]=t:=by
 unfold fndD at h
 rcases Nat.lt_or_ge i l.length with hi|hi
 ·rw[List.getElem?_eq_getElem hi] at h
  exact⟨hi,dqU h⟩
 ·rw[List.getElem?_eq_none hi] at h
  cases h
theorem Ze0(hA:l.Pairwise λa b=>cmpD (key a) (key b)<0)(h:PlD key l t i)(ht:IsDv t)(hj:j<l.length)(e:key l[j]=t):j=i/\fndD key l t i=true:=by
 have h0:=Za0 t
 have h1:j=i:=by
  rcases Nat.lt_trichotomy j i with h2|h2|h2
  ·have:=h.lo j hj h2
   rw[e] at this;omega
  ·exact h2
  ·have h3:=h.hi i Q0 (Nat.le_refl _)
   have h4:=List.pairwise_iff_getElem.1 hA i j Q0 hj h2
   rw[e] at h4;omega
 subst h1
 exact⟨rfl,by unfold fndD;rw[List.getElem?_eq_getElem hj];exact dqT e⟩
end
section
variable {l:List SrcV} {now:Int} {t:DstV} {i:Nat} {d:DisV}
theorem Zzy(hA:l.Pairwise λa b=>cmpD a.to b.to<0)(h:PlD SrcV.to l t i)(ht:IsDv t)(hf:fndD SrcV.to l t i=true){x:SrcV}(hx:l[i]? =some x):Zds l now t=if now<x.til then some x.bst else none:=by
 obtain⟨hi,e⟩:=Zlj hf
 rw[List.getElem?_eq_getElem hi] at hx
 cases hx
 rw[ZhL]
 by_cases h1:now<l[i].til
 ·rw[if_pos h1,Zmw (i:=i) hi (by simp[hitS,e,h1]) (λj hj hji=>?_)]
  ·rfl
  ·cases h2:hitS now t l[j]
   ·rfl
   ·have h3:l[j].to=t:=by simp only[hitS,Bool.and_eq_true,decide_eq_true_eq] at h2;exact h2.1
    have:=(Ze0 hA h ht hj h3).1
    omega
 ·rw[if_neg h1,Zj8 (λj hj=>?_)]
  ·rfl
  ·cases h2:hitS now t l[j]
   ·rfl
   ·simp only[hitS,Bool.and_eq_true,decide_eq_true_eq] at h2
    have h3:=(Ze0 hA h ht hj h2.1).1
    subst h3
    exact absurd h2.2 h1
theorem Zzz(hA:l.Pairwise λa b=>cmpD a.to b.to<0)(h:PlD SrcV.to l t i)(ht:IsDv t)(hf:fndD SrcV.to l t i=false):Zds l now t=none:=by
 rw[ZhL,Zj8 (λj hj=>?_)]
 ·rfl
 ·cases h2:hitS now t l[j]
  ·rfl
  ·simp only[hitS,Bool.and_eq_true,decide_eq_true_eq] at h2
   rw[(Ze0 hA h ht hj h2.1).2] at hf
   cases hf
theorem Znd(h:ZaK l=false∨Za8 t=false∨ZaA d.met=false∨d.met=65535):ZaQ l now t d=([],1):=by
 unfold ZaQ
 rcases h with h|h|h|h<;>simp[h]
theorem ZxZ(hv:ZaK l=true)(ht:Za8 t=true)(hm:ZaA d.met=true)(h5:¬d.met=65535)(hn:Zag now=false):ZaQ l now t d=([],2):=by
 unfold ZaQ
 rw[hv,ht,hm,hn]
 simp[h5]
theorem ZxY(hv:ZaK l=true)(ht:Za8 t=true)(hm:ZaA d.met=true)(h5:¬d.met=65535)(hn:Zag now=true){z:SrcV}(hz:z=newS l now t d):ZaQ l now t d=if 256<(plcD SrcV.to l z).length then([],10) else(plcD SrcV.to l z,0):=by
 subst hz
 unfold ZaQ
 rw[hv,ht,hm,hn,if_neg (by simp[h5]),if_neg Q5]
 rfl
end
theorem lowM(x y:DisV):(if cmpQ x y= -1 then x else y)=lowQ x y:=by
 unfold lowQ cmpQ Zko Zeo
 by_cases h:x=y
 ·subst h;simp
 ·rw[if_neg h,if_neg h]
  simp only[h,decide_false,Bool.not_false,Bool.true_and]
def sr0:SrcV:=⟨⟨ZiF,0,ZiF,0,0⟩,di0,0⟩
theorem Zr9(x y:DisV)(W:World):Cal prog 312 [.agg (diC x).toArray, .agg (diC y).toArray].toArray W λv w'=>v= .agg (diC (lowQ x y)).toArray/\Ext [] W w':=by
 refine yS (n:=11) Tryz.func312 rfl rfl ?_
 rw[<-lowM]
 by_cases h:cmpQ x y= -1
 ·rw[if_pos h]
  refine gQ 2 rfl (Zai rfl rfl λb2=>Zai rfl rfl λb3=>Zac λb4=>?_)
  refine W4 [5,0,0,0,3,0,2,0,0,4] @ZlI ?_
  exact Zbn 0 rfl rfl rfl rfl (ZbR trivial) λw M=>⟨rfl,M.ext⟩
 ·rw[if_neg h]
  refine gQ 2 rfl (Zai rfl rfl λb2=>Zai rfl rfl λb3=>Zac λb4=>?_)
  refine W4 [5,0,0,0,3,0,4,0,0,3] @ZlI ?_
  exact Zbn 0 rfl rfl rfl rfl (ZbR trivial) λw M=>⟨rfl,M.ext⟩
theorem Zu6(x:SrcV)(hx:IsSr x)(now:Int)(W:World)(hb:W.heap[b]? =some (.cells [Value.int .i64 now].toArray t ft)):Cal prog 238 [.agg (srC x).toArray, .pointer (some ⟨b,0,none⟩)].toArray W λv w'=>v= .bool (decide (x.til<=now))/\Ext [] W w':=by
 have hb':∀w',Ext [] W w'->w'.heap[b]? =some (.cells [Value.int .i64 now].toArray t ft):=λw' E=>by rw[E.block b (Array.getElem?_eq_some_iff.1 hb).1 Q5];exact hb
 refine yS (n:=8) Tryz.func238 rfl rfl ?_
 have h1:nth [Value.int .i64 now] 0=some (.int .i64 now):=rfl
 refine gQ 2 rfl (Zai rfl rfl λb2=>?_)
 refine W3 [6,0,0,5] ?_
 exact vAX
theorem Mem.keepB{W0 w w':World}(M:Mem S W0 w (ent++r))(E:Ext (ent.map (·.1)) w w')(h:Has r b o):w'.heap[b]? =some o:=(M.laterBut E (λk hk=>hk)).heap h
theorem Zpp(l:List SrcV)(hx:∀x∈l,IsSr x)(v:Value)(now:Int)(W:World)(hS:SlAt W 38 v l.length (srsC l)):Cal prog 155 [v, .int .i64 now].toArray W λr w'=>∃ent,OwnS 166 38 r ((expS l now)).length (srsC ((expS l now))) ent/\Mem [] W w' ent:=by
 obtain⟨q,cap,rfl,_⟩:=id hS
 have hm:=hS.memB [] Q5
 refine yS (n:=17) Tryz.func155 rfl rfl ?_
 cases hv:ZaK l
 ·refine gQ 2 rfl ?_
  refine Zai rfl rfl λb3=>?_
  refine W4 [7,0,2,0,14] @Zbq ?_
  exact vCQ
 cases ht:Zag now
 ·refine gQ 2 rfl ?_
  refine Zai rfl rfl λb3=>?_
  refine W4 [7,0,2,0,0,0,4,0,7] (T2 @Zbq @ZeL) ?_
  exact vCI
 have hl:l.length<=256:=(Zbc.1 hv).1
 have hE:expS l now=l.filter (λx=> !decide (x.til<=now)):=by
  unfold expS
  rw[hv,ht]
  exact congrArg (λf=>l.filter f) (funext λx=>by rw[<-decide_not];exact decide_eq_decide.2 Q0)
 refine gQ 2 rfl (Zai rfl rfl λb3=>?_)
 refine W4 [7,0,2,0,0,0,4,0,5] (T2 @Zbq @ZeL) ?_
 refine Zdr rfl rfl (λw M=>Zlu _ _ _ (Qw M.ext) Q0) (λv14 e14 hO14=>?_)
 refine Zq9 (xs:=[]) (us:=[.pointer (some ⟨b3,0,none⟩)]) rfl rfl (ZnQ .z rfl rfl (λw M hH=>ZwP hx Q0 w 238 [.pointer (some ⟨b3,0,none⟩)] (λx=>decide (x.til<=now)) (λw' x E hm=>Zu6 x (hx x hm) now w' (M.keepB E .here)) hO14 hH) (λv e hO=>?_))
 rw[<-hE] at hO
 exact gQ 4 rfl (Zae rfl rfl rfl λw M=>⟨e,hO,M.sub (List.sublist_append_left _ _)⟩)
def Zht(a:List SrcV×Int)(r:Value)(W w':World):Prop:=∃u ent,r= .tuple [u, .int .i64 a.2].toArray/\OwnS 166 38 u a.1.length (srsC a.1) ent/\Mem [] W w' ent
theorem Zht.nul{a:List SrcV×Int}(h:a=([],c))(E:Ext [] W w):Zht a (.tuple #[.slice none 0 0, .int .i64 c]) W w:=⟨_,[],by rw[h],by rw[h];exact OwnS.nil _ _,Mem.nil E⟩
theorem Zht.is{a:List SrcV×Int}{u:Value}{l:List SrcV}(h:a=(l,c))(hO:OwnS 166 38 u l.length (srsC l) ent)(M:Mem [] W w ent):Zht a (.tuple #[u, .int .i64 c]) W w:=⟨_,ent,by rw[h],by rw[h];exact hO,M⟩
theorem Mem.neB(M:Mem S W0 w ((b,o)::(ent++r))):∀p∈ent,p.1≠b:=λp hp e=>by
 have:=M.nd
 rw[List.map_cons,List.nodup_cons] at this
 exact this.1 (List.mem_map.2 ⟨p,List.mem_append_left _ hp,e⟩)
theorem OwnS.ex{e:TypeId}(h:OwnS e sz v n us ent)(h0:0<n):∃b cap jk,v= .slice (some ⟨b,0,none⟩) n cap/\ent=[(b, .cells (us++jk).toArray e (0,0))]:=by
 rcases h with⟨_,h1,_⟩|⟨b,c,j,h1,h2,_⟩
 ·omega
 ·exact⟨b,c,j,h1,h2⟩
theorem vBd(h:p:=by
  exact gQ 10 rfl (Zbo rfl rfl rfl rfl λw M=>Zht.is hE (by simpa only[List.length_set] using hO) (M.sub (List.sublist_append_left _ _)))):p:=h
theorem Zpo(l:List SrcV)(hx:∀x∈l,IsSr x)(v:Value)(now:Int)(t:DstV)(td:IsDv t)(d:DisV)(W:World)(hS:SlAt W 38 v l.length (srsC l)):Cal prog 256 [v, .int .i64 now, .agg (dvC t).toArray, .agg (diC d).toArray].toArray W λr w'=>Zht (ZaQ l now t d) r W w':=by
 obtain⟨q,cap,rfl,_⟩:=id hS
 have hm:=hS.memB [] Q5
 refine yS (n:=80) Tryz.func256 rfl rfl ?_
 cases hv:ZaK l
 ·refine gQ 2 rfl ?_
  refine Zai rfl rfl λb6=>Zai rfl rfl λb7=>?_
  refine W4 [8,0,2,0,25] @Zbq ?_
  exact Zbo rfl rfl rfl rfl λw M=>Zht.nul (Znd (.inl hv)) M.ext
 cases ht:Za8 t
 ·refine gQ 2 rfl ?_
  refine Zai rfl rfl λb6=>Zai rfl rfl λb7=>?_
  refine W4 [8,0,2,0,0,0,3,0,20] (T2 @Zbq @Za3) ?_
  exact Zbo rfl rfl rfl rfl λw M=>Zht.nul (Znd (.inr (.inl ht))) M.ext
 cases hm0:ZaA d.met
 ·refine gQ 2 rfl ?_
  refine Zai rfl rfl λb6=>Zai rfl rfl λb7=>?_
  refine W4 [8,0,2,0,0,0,3,0,0,0,3,0,15] (T3 @Zbq @Za3 @ZbZ) ?_
  exact Zbo rfl rfl rfl rfl λw M=>Zht.nul (Znd (.inr (.inr (.inl hm0)))) M.ext
 by_cases h5:d.met=65535
 ·refine gQ 2 rfl ?_
  refine Zai rfl rfl λb6=>Zai rfl rfl λb7=>?_
  refine W4 [8,0,2,0,0,0,3,0,0,0,3,0,1,0,4,0,8] (T3 @Zbq @Za3 @ZbZ) ?_
  exact Zbo rfl rfl rfl rfl λw M=>Zht.nul (Znd (.inr (.inr (.inr h5)))) M.ext
 cases hn:Zag now
 ·refine gQ 2 rfl ?_
  refine Zai rfl rfl λb6=>Zai rfl rfl λb7=>?_
  refine W4 [8,0,2,0,0,0,3,0,0,0,3,0,1,0,4,0,6,0,3,0,8] (T4 @Zbq @Za3 @ZbZ @ZeL) ?_
  exact Zbo rfl rfl rfl rfl λw M=>Zht.nul (ZxZ hv ht hm0 h5 hn) M.ext
 have hE:=ZxY hv ht hm0 h5 hn (z:=newS l now t d) rfl
 obtain⟨hn0,hn1⟩:=Zbt hn
 have hl:l.length<=256:=(Zbc.1 hv).1
 have hA:=(Zbc.1 hv).2.2
 refine gQ 2 rfl (Zai rfl rfl λb6=>Zai rfl rfl λb7=>?_)
 refine W4 [8,0,2,0,0,0,3,0,0,0,3,0,1,0,4,0,6,0,3,0,5,0] (T4 @Zbq @Za3 @ZbZ @ZeL) ?_
 refine ZaU (ι:=Nat) (λi=> .tuple #[.int .i64 i, .bool (fndD (·.to) l t i)]) (λi=>PlD (·.to) l t i) (λ_=>[]) rfl rfl (λw M=>Cal.mono (Zvk l hx Q0 hA t td _ w (hS.later M.ext)) λr w' h=>h.elim λi h=>⟨i,h.1,h.2.1,Mem.nil h.2.2⟩) (λi hP=>?_)
 dsimp only[List.nil_append]
 have hD:∀y∈l,IsDv y.to:=λy hy=>(hx y hy).1
 cases hf:fndD (·.to) l t i
 ·have hz:newS l now t d=⟨t,d,Zaz now 20⟩:=by unfold newS;rw[Zzz hA hP td hf]
  have hI:=Zno (z:=sr0) hA hD (x:=newS l now t d) td hP hf
  rw[<-hI,hz,List.length_set,List.length_append,List.length_cons,List.length_take,List.length_drop] at hE
  have hile:=hP.le
  by_cases h6:256<=l.length
  ·rw[if_pos Q0] at hE
   refine W3 [19,0,8] ?_
   exact Zbo rfl rfl rfl rfl λw M=>Zht.nul (hE) M.ext
  rw[if_neg Q0] at hE
  refine W3 [19,0,5] ?_
  refine Zdr rfl rfl (λw M=>Zlu _ _ _ (Qw M.ext) Q0) (λv48 e48 hO48=>?_)
  refine W3 [14,0] ?_
  refine g_bs rfl rfl rfl rfl (λb54=>?_)
  refine ZnQ (.s .z) rfl rfl (λw M hH=>Zwe hx Q0 hile (x0:=sr0) rfl rfl w hO48 hH (M.heap .here) (Mem.neB (ent:=e48) (r:=List.flatten [_,_]) M)) (λv e hO=>?_)
  obtain⟨L,hL⟩:∃L,L=l.take i++sr0::l.drop i:=⟨_,rfl⟩
  have hLl:L.length=l.length+1:=by rw[hL,List.length_append,List.length_cons,List.length_take,List.length_drop];omega
  have hLx:∀y∈L,IsSr y:=λy hy=>by
   rw[hL] at hy
   rcases List.mem_append.1 hy with h|h
   ·exact hx y (List.mem_of_mem_take h)
   ·rcases List.mem_cons.1 h with rfl|h
    ·exact⟨⟨Zeh,Zeh⟩,trivial⟩
    ·exact hx y (List.mem_of_mem_drop h)
  rw[<-hL] at hO hI hE
  obtain⟨bq,cq,jq,rfl,rfl⟩:=hO.ex Q0
  have nwB:=Zog t td d (Zaz now 20)
  refine W3 [7,0,0,1,0] ?_
  refine g_v (λa w F M R r=>ZiE (F.e rfl) (F.e rfl) r) ?_
  refine W3 [0,0] ?_
  refine Zq7 0 (enc:=srC) (l:=L) (x:=⟨t,d,Zaz now 20⟩) rfl rfl hO rfl Q0 (ZbN hLx) (Zcj ⟨td,trivial⟩) (ZcX _) rfl rfl (λhO=>?_)
  exact vBd
 ·obtain⟨hi,e⟩:=Zlj hf
  obtain⟨bb,o,cs,t2,fz,rfl,hbb,hs⟩:=hm Q0
  obtain⟨x,hx0⟩:∃x,x=l[i]:=⟨_,rfl⟩
  have xI:IsSr x:=hx _ (hx0▸List.getElem_mem _)
  have f1:seg cs (o+(i:Int).toNat*38) 38=some (srC x):=by rw[hx0];exact Zal (ZbN hx) hs hi rfl
  have hB:=Zzy (now:=now) hA hP td hf (x:=x) (by rw[List.getElem?_eq_getElem hi,hx0])
  have hst:=Znm hA hD (x:=newS l now t d) td hP hf
  rw[<-hst,List.length_set,if_neg Q0] at hE
  by_cases h7:now<x.til
  ·have hz:newS l now t d=⟨t,lowQ d x.bst,Zaz now 20⟩:=by unfold newS;rw[hB,if_pos h7]
   rw[hz] at hE
   refine gQ 25 rfl (Zdr rfl rfl (λw M=>Zlu _ _ _ (Qw M.ext) Q0) (λv48 e48 hO48=>?_))
   refine W3 [15,0,1] ?_
   refine ZgA rfl Qd (Zcr Qd (ZkG Qd) Q0) ?_
   refine W3 [4,0,1007,0,2,0,1] ?_
   refine Zb8 rfl Qd (Zbe Qd (ZmY Qd) Q0) ?_
   refine W4 [0,0,0,6,0,0,1,0] @Zr9 ?_
   refine g_v (λa w F M R r=>ZiE (F.e rfl) (F.e rfl) r) (g_v (λa w F M R r=>Zaq F rfl (Zog _ Qd _ _) r) ?_)
   obtain⟨bq,cq,jq,rfl,rfl⟩:=hO48.ex Q0
   have nwB:=Zog t td (lowQ d x.bst) (Zaz now 20)
   refine Ztb rfl rfl Q0 Q0 (Zq7 0 (enc:=srC) (l:=l) (x:=⟨t,(lowQ d x.bst),Zaz now 20⟩) rfl rfl hO48 rfl Q0 (ZbN hx) (Zcj ⟨td,trivial⟩) (ZcX _) rfl rfl (λhO=>?_))
   exact vBd
  ·have hz:newS l now t d=⟨t,d,Zaz now 20⟩:=by unfold newS;rw[hB,if_neg h7]
   rw[hz] at hE
   refine gQ 25 rfl (Zdr rfl rfl (λw M=>Zlu _ _ _ (Qw M.ext) Q0) (λv48 e48 hO48=>?_))
   refine W3 [15,0,1] ?_
   refine ZgA rfl Qd (Zcr Qd (ZkG Qd) Q0) ?_
   refine W3 [4,0,6,0,0,1,0] ?_
   refine g_v (λa w F M R r=>ZiE (F.e rfl) (F.e rfl) r) (g_v (λa w F M R r=>Zaq F rfl (Zog _ Qd _ _) r) ?_)
   obtain⟨bq,cq,jq,rfl,rfl⟩:=hO48.ex Q0
   have nwB:=Zog t td d (Zaz now 20)
   refine Ztb rfl rfl Q0 Q0 (Zq7 0 (enc:=srC) (l:=l) (x:=⟨t,d,Zaz now 20⟩) rfl rfl hO48 rfl Q0 (ZbN hx) (Zcj ⟨td,trivial⟩) (ZcX _) rfl rfl (λhO=>?_))
   exact vBd
section
variable {l:List ReqV} {t:DstV} {i:Nat} {d:DisV}
theorem Zj2(h:ZaB l=false∨Za8 t=false∨ZaA d.met=false∨d.met=65535):metV l t d=l:=by
 unfold metV
 rcases h with h|h|h|h<;>simp[h]
theorem ZyG(hA:l.Pairwise λa b=>cmpD a.to b.to<0)(h:PlD ReqV.to l t i)(ht:IsDv t)(hf:fndD ReqV.to l t i=false∨∃y,l[i]? =some y/\Zbg y.seq d.seq=true):metV l t d=l:=by
 unfold metV
 split
 ·rw[List.filter_eq_self]
  intro y hy
  obtain⟨j,hj,rfl⟩:=List.getElem_of_mem hy
  by_cases h1:l[j].to=t
  ·obtain⟨h2,h3⟩:=Ze0 hA h ht hj h1
   subst h2
   rcases hf with hf|⟨y,h4,h5⟩
   ·rw[hf] at h3;cases h3
   ·rw[List.getElem?_eq_getElem hj] at h4
    cases h4
    simp[h5]
  ·simp[h1]
 ·rfl
theorem Zz5(hA:l.Pairwise λa b=>cmpD a.to b.to<0)(h:PlD ReqV.to l t i)(ht:IsDv t)(hv:ZaB l=true)(htv:Za8 t=true)(hm:ZaA d.met=true)(h5:¬d.met=65535)(hf:fndD ReqV.to l t i=true){y:ReqV}(hy:l[i]? =some y)(hn:Zbg y.seq d.seq=false):metV l t d=l.eraseIdx i:=by
 obtain⟨hi,e⟩:=Zlj hf
 rw[List.getElem?_eq_getElem hi] at hy
 cases hy
 have hk:∀j(hj:j<l.length),j≠i->(!decide (l[j].to=t)||decide (d.met=65535)||Zbg l[j].seq d.seq)=true:=λj hj hne=>by
  by_cases h1:l[j].to=t
  ·exact absurd (Ze0 hA h ht hj h1).1 hne
  ·simp[h1]
 unfold metV
 rw[hv,htv,hm,if_pos (by rfl),List.eraseIdx_eq_take_drop_succ]
 conv=>lhs;rw[<-List.take_append_drop i l,List.drop_eq_getElem_cons hi]
 rw[List.filter_append,List.filter_cons,if_neg (by simp[e,h5,hn])]
 congr 1
 ·rw[List.filter_eq_self]
  intro y hy
  obtain⟨j,hj,rfl⟩:=List.getElem_of_mem hy
  rw[List.length_take] at hj
  rw[List.getElem_take]
  exact hk j Q0 Q0
 ·rw[List.filter_eq_self]
  intro y hy
  obtain⟨j,hj,rfl⟩:=List.getElem_of_mem hy
  rw[List.length_drop] at hj
  rw[List.getElem_drop]
  exact hk (i+1+j) Q0 Q0
end
theorem ZjQ(a d:Int)(h0:0<=a)(h1:a<=1099511627776)(d0:0<=d)(d1:d<=1099511627776)(W:World):Cal prog 248 [.int .i64 a, .int .i64 d].toArray W λv w'=>v= .int .i64 (Zaz a d)/\Ext [] W w':=by
 refine yS (n:=9) Tryz.func248 rfl rfl ?_
 exact vBi
theorem Zvm(l:List ReqV)(hx:∀x∈l,IsRq x)(v:Value)(hl:l.length<=1000)(t:DstV)(td:IsDv t)(d:DisV)(W:World)(hS:SlAt W 40 v l.length (rqsC l)):Cal prog 157 [v, .agg (dvC t).toArray, .agg (diC d).toArray].toArray W λr w'=>∃ent,OwnS 171 40 r ((metV l t d)).length (rqsC ((metV l t d))) ent/\Mem [] W w' ent:=by
 obtain⟨q,cap,rfl,_⟩:=id hS
 have hm:=hS.memB [] Q5
 refine yS (n:=55) Tryz.func157 rfl rfl ?_
 cases hv:ZaB l
 ·refine gQ 2 rfl ?_
  refine Zai rfl rfl λb4=>Zai rfl rfl λb5=>gQ 6 rfl (Zdr rfl rfl (λw M=>Zfq _ _ _ (Qw M.ext) Q0) (λv11 e11 hO11=>?_))
  refine W4 [7,0,2,0,25] @Zbm ?_
  refine Zae rfl rfl rfl λw M=>?_
  exact⟨_,by rw[Zj2 (.inl hv)];assumption,M.sub (List.sublist_append_left _ _)⟩
 cases ht:Za8 t
 ·refine gQ 2 rfl ?_
  refine Zai rfl rfl λb4=>Zai rfl rfl λb5=>gQ 6 rfl (Zdr rfl rfl (λw M=>Zfq _ _ _ (Qw M.ext) Q0) (λv11 e11 hO11=>?_))
  refine W4 [7,0,2,0,0,0,3,0,20] (T2 @Zbm @Za3) ?_
  refine Zae rfl rfl rfl λw M=>?_
  exact⟨_,by rw[Zj2 (.inr (.inl ht))];assumption,M.sub (List.sublist_append_left _ _)⟩
 cases hm0:ZaA d.met
 ·refine gQ 2 rfl ?_
  refine Zai rfl rfl λb4=>Zai rfl rfl λb5=>gQ 6 rfl (Zdr rfl rfl (λw M=>Zfq _ _ _ (Qw M.ext) Q0) (λv11 e11 hO11=>?_))
  refine W4 [7,0,2,0,0,0,3,0,0,0,3,0,15] (T3 @Zbm @Za3 @ZbZ) ?_
  refine Zae rfl rfl rfl λw M=>?_
  exact⟨_,by rw[Zj2 (.inr (.inr (.inl hm0)))];assumption,M.sub (List.sublist_append_left _ _)⟩
 by_cases h5:d.met=65535
 ·refine gQ 2 rfl ?_
  refine Zai rfl rfl λb4=>Zai rfl rfl λb5=>gQ 6 rfl (Zdr rfl rfl (λw M=>Zfq _ _ _ (Qw M.ext) Q0) (λv11 e11 hO11=>?_))
  refine W4 [7,0,2,0,0,0,3,0,0,0,3,0,1,0,4,0,8] (T3 @Zbm @Za3 @ZbZ) ?_
  refine Zae rfl rfl rfl λw M=>?_
  exact⟨_,by rw[Zj2 (.inr (.inr (.inr h5)))];assumption,M.sub (List.sublist_append_left _ _)⟩
 have hl6:l.length<=64:=(ZbA.1 hv).1
 have hA:=(ZbA.1 hv).2.2
 refine gQ 2 rfl (Zai rfl rfl λb4=>Zai rfl rfl λb5=>gQ 6 rfl (Zdr rfl rfl (λw M=>Zfq _ _ _ (Qw M.ext) Q0) (λv11 e11 hO11=>?_)))
 refine W4 [7,0,2,0,0,0,3,0,0,0,3,0,1,0,4,0,5,0] (T3 @Zbm @Za3 @ZbZ) ?_
 refine ZaU (ι:=Nat) (λi=> .tuple #[.int .i64 i, .bool (fndD (·.to) l t i)]) (λi=>PlD (·.to) l t i) (λ_=>[]) rfl rfl (λw M=>Cal.mono (Zpy l hx Q0 hA t td _ w (hS.later M.ext)) λr w' h=>h.elim λi h=>⟨i,h.1,h.2.1,Mem.nil h.2.2⟩) (λi hP=>?_)
 dsimp only[List.nil_append]
 cases hf:fndD (·.to) l t i
 ·refine W3 [9,1012,12,0,12] ?_
  refine Zae rfl rfl rfl λw M=>?_
  exact⟨_,by rw[ZyG hA hP td (.inl hf)];assumption,M.sub (List.sublist_append_left _ _)⟩
 obtain⟨hi,e⟩:=Zlj hf
 obtain⟨bb,o,cs,t2,fz,rfl,hbb,hs⟩:=hm Q0
 obtain⟨x,hx0⟩:∃x,x=l[i]:=⟨_,rfl⟩
 have xI:IsRq x:=hx _ (hx0▸List.getElem_mem _)
 have hx1:l[i]? =some x:=by rw[List.getElem?_eq_getElem hi,hx0]
 have f1:seg cs (o+(i:Int).toNat*40) 40=some (rqC x):=by rw[hx0];exact Zal (ZbB hx) hs hi rfl
 cases h7:Zbg x.seq d.seq
 ·refine W3 [9,1012,4,0,1] ?_
  refine Zjq rfl Qd (Zcr Qd (Zgg Qd) Q0) ?_
  refine W4 [1,0,0,2,0,2,0,4,0] @Zic ?_
  refine ZnQ .z rfl rfl (λw M hH=>ZwQ hx Q0 hi w hO11 hH) (λv e hO=>?_)
  rw[<-Zz5 hA hP td hv ht hm0 h5 hf hx1 h7] at hO
  exact gQ 10 rfl (Zae rfl rfl rfl λw M=>⟨_,hO,M.sub (List.sublist_append_left _ _)⟩)
 ·refine W3 [9,1012,4,0,1] ?_
  refine Zjq rfl Qd (Zcr Qd (Zgg Qd) Q0) ?_
  refine W4 [1,0,0,2,0,2,0,9] @Zic ?_
  refine Zae rfl rfl rfl λw M=>?_
  exact⟨_,by rw[ZyG hA hP td (.inr ⟨x,hx1,h7⟩)];assumption,M.sub (List.sublist_append_left _ _)⟩
theorem Mem.outB{e1 e2 r:EN}(M:Mem S W0 w (e1++(e2++r)))(h:(b,o)∈r):w.heap[b]? =some o/\b∉(e1++e2).map (·.1):=by
 refine⟨M.at_ _ (List.mem_append_right _ (List.mem_append_right _ h)),λh2=>?_⟩
 have hn:=M.nd
 rw[<-List.append_assoc,List.map_append,List.nodup_append] at hn
 exact hn.2.2 b h2 b (List.mem_map_of_mem (f:=λp:Nat×Obj=>p.1) h) rfl
section
variable {c:Cx} {Q:Exit->Act->World->Prop} {ks:List KF} {fr:FN} {row:Row} {d:Nat} {ty:TypeId} {pos:String} {af:Array Edge} {g:Option (Nat×Bool)} {aa:Array Oper} {rest:List Oper}
theorem Zao{e:EN}{st:St}(h:Pk row e rst)(hk:G c Q ks st fr (e::rst)):G c Q ks st fr row:=λa w F M=>hk a w F (M.perm h.perm)
theorem Zws{ι:Type}(val:ι->Value)(p:ι->Prop)(li:ι->Row){e1 e2:EN}{r1 r2:Row} [hb:Zad c.P fn](hx:Ev fr y=some (.func (.func fn) #[] us.toArray))(ha:evL fr ys=some vs)(h1:Pk row e1 r1)(h2:Pk r1 e2 r2)
  (hc:∀w,Mem c.S c.W w (e1++(e2++r2.flatten))->InW w (e1++e2)->Cal c.P fn (vs++us).toArray w λu w'=>∃j,u=val j/\p j/\Mem ((e1++e2).map (·.1)) w w' (li j).flatten)
  (hk:∀j,p j->G c Q ks (.ops aa rest) ((d,val j)::fr) (li j++r2)) (hd:Nat.blt d c.n=true:=by rfl) (hg:gOk aa fr g=some true:=by rfl):G c Q ks (.ops aa (⟨some d, .call ⟨.value y,ys.toArray,ts⟩,ty,pos,af,g⟩::rest)) fr row:=
 g_op rfl hd hg λa w F M=>by
  have hp:=M.perm (h1.perm.trans (List.Perm.append_left e1 h2.perm))
  have hp2:Mem c.S c.W w ((e1++e2)++r2.flatten):=by rw[List.append_assoc];exact hp
  refine ZfB (us:=(vs++us).toArray) (F.e hx) (F.evs ha) Q5 (Cal.mono (hc w hp (hp2.inW (List.sublist_append_left _ _))) λu w' h a' F'=>?_)
  obtain⟨j,rfl,h3,N⟩:=h
  refine hk j h3 a' w' F' ?_
  rw[List.flatten_append]
  exact hp2.joinB N
end
theorem ZxQ(x:ReqV)(hx:IsRq x)(hlf:1<=x.left/\x.left<=3)(now:Int)(hn:Zag now=true)(ol:List ReqV)(hol:ol.length<=1000)(u:Value)(es:EN){bn bd:Nat}{t ts:TypeId}(hO:OwnS 171 40 u ol.length (rqsC ol) es)(W:World)(hbn:W.heap[bn]? =some (.cells [Value.int .i64 now].toArray t ft))(hne:bn∉((bd, .cells [u].toArray ts (0,0))::es).map (·.1))(hH:InW W ((bd, .cells [u].toArray ts (0,0))::es)):
  Cal prog 251 [.agg (rqC x).toArray, .pointer (some ⟨bd,0,none⟩), .pointer (some ⟨bn,0,none⟩)].toArray W λr w'=>∃u' e',r= .agg (rqC ⟨x.to,x.seq,x.hops,x.frm,Zaz now 3,x.left-1⟩).toArray/\OwnS 171 40 u' ((ol++[x])).length (rqsC ((ol++[x]))) e'/\Mem (((bd, .cells [u].toArray ts (0,0))::es).map (·.1)) W w' ([[(bd, .cells [u'].toArray ts (0,0))],e']:Row).flatten:=by
 have hfl:(bd, .cells [u].toArray ts (0,0))::es=([[(bd, .cells [u].toArray ts (0,0))],es]:Row).flatten:=by simp
 rw[hfl] at hne hH⊢
 have hb:∀w',Ext (([[(bd, .cells [u].toArray ts (0,0))],es]:Row).flatten.map (·.1)) W w'->w'.heap[bn]? =some (.cells [Value.int .i64 now].toArray t ft):=λw' E=>by rw[E.block bn (Array.getElem?_eq_some_iff.1 hbn).1 hne];exact hbn
 obtain⟨hn0,hn1⟩:=Zbt hn
 obtain⟨l0,l1⟩:=hlf
 have h1:nth [Value.int .i64 now] 0=some (.int .i64 now):=rfl
 refine Zdw (n:=17) [[(bd, .cells [u].toArray ts (0,0))],es] hH Zbj Zbi Tryz.func251 rfl rfl rfl (gQ 2 rfl (Zai rfl rfl λb3=>Zac λb4=>?_))
 refine W3 [4,0,0] ?_
 refine g_bs rfl rfl rfl (ZbO Qd) (λb7=>?_)
 refine ZaY 4 0 (enc:=rqC) rfl rfl Qd rfl rfl (Zb1 Qd) Q4 (λ_=>rfl) (λv8 es8 hO8=>?_) (ZcY _)
 refine W3 [0,5,0,0,1] ?_
 refine Zgy 2 rfl rfl rfl rfl (ZeO Qd _) rfl ?_
 refine W4 [4,0,0,1] @ZjQ ?_
 refine Zgy 2 rfl rfl rfl rfl (ZfQ Qd _) rfl ?_
 refine W3 [4,0,0,3] ?_
 refine Zbn 1 rfl rfl rfl rfl (ZpO Qd) λw M=>?_
 exact⟨_,_,rfl,by assumption,M.sub (.cons _ (.cons _ (.cons _ (List.Sublist.refl _))))⟩
theorem Zsh(l:List ReqV)(hx:∀x∈l,IsRq x)(v:Value)(now:Int)(W:World)(hS:SlAt W 40 v l.length (rqsC l)):Cal prog 163 [v, .int .i64 now].toArray W λr w'=>Zo2 l now r W w':=by
 obtain⟨q,cap,rfl,_⟩:=id hS
 have hm:=hS.memB [] Q5
 refine yS (n:=42) Tryz.func163 rfl rfl ?_
 cases hv:ZaB l
 ·refine gQ 2 rfl ?_
  refine Zai rfl rfl λb3=>?_
  refine W4 [9,0,3,0,9] @Zbm ?_
  exact vBE
 cases ht:Zag now
 ·refine gQ 2 rfl ?_
  refine Zai rfl rfl λb3=>?_
  refine W4 [9,0,3,0,5,0,0,3,0,9] (T2 @Zbm @Zd2) ?_
  exact vBy
 have hl:l.length<=64:=(ZbA.1 hv).1
 have hE:dueR l now=⟨dueD now l,dueA now l,0⟩:=by unfold dueR;rw[hv,ht];rfl
 refine gQ 2 rfl (Zai rfl rfl λb3=>?_)
 refine W4 [9,0,3,0,5,0,0,3,0,4] (T2 @Zbm @Zd2) ?_
 refine Zac λb7=>gQ 5 rfl (Zq9 (xs:=[]) (us:=[.pointer (some ⟨b7,0,none⟩), .pointer (some ⟨b3,0,none⟩)]) rfl rfl (gQ 12 rfl (Zba (Zba (Zao (.s (.s .z)) ?_)))))
 refine ZfW 21 20 19 (ZbB hx) hm (λi(j:Value×EN×Value×EN)=>OwnS 171 40 j.1 (((l.take i).filter λx=>decide (x.next<=now))).length (rqsC (((l.take i).filter λx=>decide (x.next<=now)))) j.2.1/\OwnS 171 40 j.2.2.1 ((((l.take i).map (dueX now)).filter λx=>decide (0<x.left))).length (rqsC ((((l.take i).map (dueX now)).filter λx=>decide (0<x.left)))) j.2.2.2) (λj=>[(9, .func (.func 251) #[] #[.pointer (some ⟨b7,0,none⟩), .pointer (some ⟨b3,0,none⟩)]),(7, .pointer (some ⟨b7,0,none⟩)),(3, .pointer (some ⟨b3,0,none⟩)),(8,j.2.2.1)]) (λj=>[[(b7, .cells [j.1].toArray 48 (0,0))],j.2.1,j.2.2.2,[(b3, .cells [Value.int .i64 now].toArray 3 (0,0))]]) (_,[],_,[]) ⟨OwnS.nilL _ _ _,OwnS.nilL _ _ _⟩ ?_ ?_
 ·rintro i ⟨u,es,u2,es2⟩ y hi hy hym b o cs t2 fz rfl hb f1 ⟨hO,hO2⟩
  dsimp only at hO hO2⊢
  have yI:=hx y hym
  have hf:((l.take i).filter λx=>decide (x.next<=now)).length<=l.length:=Zf8
  have hf2:(((l.take i).map (dueX now)).filter λx=>decide (0<x.left)).length<=l.length:=Nat.le_trans (List.length_filter_le _ _) (by rw[List.length_map,List.length_take];omega)
  have hlf:=ZtY hv hym
  by_cases c1:y.next<=now
  ·have e1:=ZgL (p:=λx:ReqV=>decide (x.next<=now)) hi hy (dqT c1)
   have hz:dueX now y=⟨y.to,y.seq,y.hops,y.frm,Zaz now 3,y.left-1⟩:=by unfold dueX;rw[if_pos c1]
   have zI:IsRq ⟨y.to,y.seq,y.hops,y.frm,Zaz now 3,y.left-1⟩:=yI
   refine W3 [6,0,6,0,0] ?_
   refine Zac λb11=>?_
   refine W3 [0,6,0,0,3,0,2,0] ?_
   refine Zws (ι:=Value×EN) (λ_=> .agg (rqC ⟨y.to,y.seq,y.hops,y.frm,Zaz now 3,y.left-1⟩).toArray) (λj=>OwnS 171 40 j.1 (((l.take i).filter (λx=>decide (x.next<=now))++[y])).length (rqsC (((l.take i).filter (λx=>decide (x.next<=now))++[y]))) j.2) (λj=>[[(b7, .cells [j.1].toArray 48 (0,0))],j.2]) rfl rfl (.s .z) (.s .z) (λw M hH=>Cal.mono (ZxQ y yI hlf now ht _ Q0 u es hO w (M.outB (b:=b3) (o:= .cells [Value.int .i64 now].toArray 3 (0,0)) Q5).1 (M.outB (b:=b3) (o:= .cells [Value.int .i64 now].toArray 3 (0,0)) Q5).2 hH) λr w' h=>by obtain⟨u',e',h1,h2,h3⟩:=h;exact⟨(u',e'),h1,h2,h3⟩) (λj hj=>?_)
   rw[<-e1] at hj
   dsimp only[List.cons_append,List.nil_append]
   by_cases c2:0<y.left-1
   ·have e2:=ZjE (p:=λx:ReqV=>decide (0<x.left)) hi hy hz (dqT c2)
    refine Zdf 2 rfl rfl (Zb1 Qd) (ZcY _) rfl (Zat (by rw[Zb1 Qd];first|rfl|rw[Zb1 Qd])) rfl ?_
    refine gQ 5 rfl (Zwr 2 rfl rfl (ZlV Qd) ?_)
    refine gQ 3 rfl (Zii rfl Qt (gQ 2 rfl (Zwq 2 rfl rfl (ZpO Qd) ?_)))
    refine g_bs rfl rfl rfl (ZbO Qd) (λb37=>?_)
    refine ZaY 4 0 (enc:=rqC) rfl rfl Qd rfl rfl (Zb1 Qd) Q4 (λ_=>rfl) (λv38 es38 hO38=>?_) (ZcY _)
    refine W3 [5,0,2] ?_
    exact gR (_,_,_,_) ⟨hj,by show OwnS _ _ _ _ _ _;rw[e2];assumption⟩
   ·have e2:=Zpk (p:=λx:ReqV=>decide (0<x.left)) hi hy hz (dqF c2)
    refine Zdf 2 rfl rfl (Zb1 Qd) (ZcY _) rfl (Zat (by rw[Zb1 Qd];first|rfl|rw[Zb1 Qd])) rfl ?_
    refine gQ 5 rfl (Zwr 2 rfl rfl (ZlV Qd) ?_)
    refine gQ 3 rfl (Zij rfl Qu (gQ 4 rfl (Zim rfl rfl Qv (gQ 2 rfl ?_))))
    exact gR (_,_,_,_) ⟨hj,by show OwnS _ _ _ _ _ _;rw[e2];assumption⟩
  ·have e1:=ZjF (p:=λx:ReqV=>decide (x.next<=now)) hi hy (dqF c1)
   have hz:dueX now y=y:=by unfold dueX;rw[if_neg c1]
   have e2:=ZjE (p:=λx:ReqV=>decide (0<x.left)) hi hy hz Qt
   refine W3 [6,0,6,0,0] ?_
   refine Zac λb11=>?_
   refine W3 [0,6,0,0,3,0,5,0,3,0,2,0] ?_
   refine g_bs rfl rfl rfl (ZbO Qd) (λb37=>?_)
   refine ZaY 4 0 (enc:=rqC) rfl rfl Qd rfl rfl (Zb1 Qd) Q4 (λ_=>rfl) (λv38 es38 hO38=>?_) (ZcY _)
   refine W3 [5,0,2] ?_
   exact vB2
 ·rintro⟨u,es,u2,es2⟩ i hi ⟨hO,hO2⟩
  subst hi
  dsimp only at hO hO2⊢
  rw[List.take_length] at hO hO2
  refine W3 [6,0,2,0,4,0,7] ?_
  refine ZdT rfl rfl (λa w F M=>(.cons (.tmp (F.e rfl)) (.cons (.tmp (F.e rfl)) (.cons (.tmp (F.e rfl)) .nil)))) ?_;intro w M;(try dsimp only[Zce])
  exact⟨_,_,es,es2,by rw[hE],by rw[hE];exact hO,by rw[hE];exact hO2,M.sub (.cons _ Q5)⟩
def Sq16(l:List ReqV):Prop:=∀x∈l,0<=x.seq/\x.seq<=65535
theorem wr16(x:Int):IntKind.u16.wrap x=x % 65536:=rfl
theorem Zi9{a b:Int}:Zbg a b=true↔(1<=(a-b) % 65536/\(a-b) % 65536<32768)∨((a-b) % 65536=32768/\b<a):=by
 show((decide (1<=IntKind.u16.wrap (a-b))&&decide (IntKind.u16.wrap (a-b)<32768))||(decide (IntKind.u16.wrap (a-b)=32768)&&decide (b<a)))=true↔_
 rw[wr16,Bool.or_eq_true,Bool.and_eq_true,Bool.and_eq_true,decide_eq_true_eq,decide_eq_true_eq,decide_eq_true_eq,decide_eq_true_eq]
theorem Zi8{a b:Int}(ha:0<=a/\a<=65535)(hb:0<=b/\b<=65535):Zbg b a=false↔a=b∨Zbg a b=true:=by
 rw[<-Bool.not_eq_true,Zi9,Zi9]
 omega
def rq0:ReqV:=⟨dvN,0,0,0,0,0⟩
theorem vBe(h:p:=by
  refine gQ 11 rfl ?_
  refine ZdT rfl rfl (λa w F M=>(.cons (.tmp (F.e rfl)) (.cons (.tmp (F.e rfl)) (.cons (.tmp (F.e rfl)) .nil)))) ?_;intro w M;(try dsimp only[Zce])
  exact Ze4.is hE (by simpa only[List.length_set] using hO) (M.sub (List.sublist_append_left _ _))):p:=h
theorem Zv5(l:List ReqV)(hx:∀x∈l,IsRq x)(v:Value)(hsq:Sq16 l)(now:Int)(t:DstV)(td:IsDv t)(seq:Int)(hs16:0<=seq/\seq<=65535)(hops frm:Int)(W:World)(hS:SlAt W 40 v l.length (rqsC l)):Cal prog 160 [v, .int .i64 now, .agg (dvC t).toArray, .int .u16 seq, .int .i64 hops, .int .u64 frm].toArray W λr w'=>Ze4 (addV l now t seq hops frm) r W w':=by
 obtain⟨q,cap,rfl,_⟩:=id hS
 have hm:=hS.memB [] Q5
 have nwI:IsRq (newQ now t seq hops frm):=td
 refine yS (n:=90) Tryz.func160 rfl rfl ?_
 cases hv:ZaB l
 ·refine gQ 2 rfl ?_
  refine Zai rfl rfl λb8=>?_
  refine W4 [9,0,2,0,16] @Zbm ?_
  exact vBM
 cases ht:Za8 t
 ·refine gQ 2 rfl ?_
  refine Zai rfl rfl λb8=>?_
  refine W4 [9,0,2,0,0,0,4,0,9] (T2 @Zbm @Za3) ?_
  exact vBN
 cases hn:Zag now
 ·refine gQ 2 rfl ?_
  refine Zai rfl rfl λb8=>?_
  refine W4 [9,0,2,0,0,0,4,0,6,0,2,0,19] (T3 @Zbm @Za3 @Zd2) ?_
  exact vBG
 by_cases h1:hops<1
 ·refine gQ 2 rfl ?_
  refine Zai rfl rfl λb8=>?_
  refine W4 [9,0,2,0,0,0,4,0,6,0,2,0,4,0,15] (T3 @Zbm @Za3 @Zd2) ?_
  exact vBz
 by_cases h2:32<hops
 ·refine gQ 2 rfl ?_
  refine Zai rfl rfl λb8=>?_
  refine W4 [9,0,2,0,0,0,4,0,6,0,2,0,4,0,5,0,9] (T3 @Zbm @Za3 @Zd2) ?_
  exact vBA
 have hE:=ZuJ (seq:=seq) (frm:=frm) hv ht hn h1 h2
 obtain⟨hn0,hn1⟩:=Zbt hn
 have hl:l.length<=64:=(ZbA.1 hv).1
 have hA:=(ZbA.1 hv).2.2
 refine gQ 2 rfl (Zai rfl rfl λb8=>?_)
 refine W4 [9,0,2,0,0,0,4,0,6,0,2,0,4,0,5,0,5,0] (T3 @Zbm @Za3 @Zd2) ?_
 refine ZaU (ι:=Nat) (λi=> .tuple #[.int .i64 i, .bool (fndD (·.to) l t i)]) (λi=>PlD (·.to) l t i) (λ_=>[]) rfl rfl (λw M=>Cal.mono (Zpy l hx Q0 hA t td _ w (hS.later M.ext)) λr w' h=>h.elim λi h=>⟨i,h.1,h.2.1,Mem.nil h.2.2⟩) (λi hP=>?_)
 dsimp only[List.nil_append]
 have hD:∀y∈l,IsDv y.to:=λy hy=>hx y hy
 cases hf:fndD (·.to) l t i
 ·have hold:oldQ l t seq=false:=Zqi λj hj h=>by
   have:=(Ze0 hA hP td hj h.1).2
   rw[hf] at this
   cases this
  have hI:=Zno (z:=rq0) hA hD (x:=newQ now t seq hops frm) td hP hf
  rw[hold,if_neg Q5,<-hI,List.length_set,List.length_append,List.length_cons,List.length_take,List.length_drop] at hE
  have hile:=hP.le
  by_cases h6:64<=l.length
  ·rw[if_pos Q0] at hE
   refine gQ 10 rfl (Zdr rfl rfl (λw M=>Zfq _ _ _ (Qw M.ext) Q0) (λv44 e44 hO44=>?_))
   refine W3 [42,0,9] ?_
   refine ZdT rfl rfl (λa w F M=>(.cons (.tmp (F.e rfl)) (.cons (.tmp (F.e rfl)) (.cons (.tmp (F.e rfl)) .nil)))) ?_;intro w M;(try dsimp only[Zce])
   exact Ze4.nul (hE) M.ext
  rw[if_neg Q0] at hE
  refine gQ 10 rfl (Zdr rfl rfl (λw M=>Zfq _ _ _ (Qw M.ext) Q0) (λv44 e44 hO44=>?_))
  refine W3 [42,0,13,0] ?_
  refine g_bs rfl rfl rfl rfl (λb77=>?_)
  refine ZnQ (.s .z) rfl rfl (λw M hH=>Zwf hx Q0 hile (x0:=rq0) rfl rfl w hO44 hH (M.heap .here) (Mem.neB (ent:=e44) (r:=List.flatten [_]) M)) (λv e hO=>?_)
  obtain⟨L,hL⟩:∃L,L=l.take i++rq0::l.drop i:=⟨_,rfl⟩
  have hLl:L.length=l.length+1:=by rw[hL,List.length_append,List.length_cons,List.length_take,List.length_drop];omega
  have hLx:∀y∈L,IsRq y:=λy hy=>by
   rw[hL] at hy
   rcases List.mem_append.1 hy with h|h
   ·exact hx y (List.mem_of_mem_take h)
   ·rcases List.mem_cons.1 h with rfl|h
    ·exact ZnZ
    ·exact hx y (List.mem_of_mem_drop h)
  rw[<-hL] at hO hI hE
  obtain⟨bq,cq,jq,rfl,rfl⟩:=hO.ex Q0
  have nwB:=ZpM t td seq hops frm (Zaz now 3) 3
  refine W4 [4,1010,2,0,4,0,0,0,0] @ZjQ ?_
  refine Zq7 0 (enc:=rqC) (l:=L) (x:=newQ now t seq hops frm) rfl rfl hO rfl Q0 (ZbB hLx) (Zb1 nwI) (ZcY _) rfl rfl (λhO=>?_)
  exact vBe
 ·obtain⟨hi,e⟩:=Zlj hf
  obtain⟨bb,o,cs,t2,fz,rfl,hbb,hs⟩:=hm Q0
  obtain⟨x,hx0⟩:∃x,x=l[i]:=⟨_,rfl⟩
  have hxm:x∈l:=hx0▸List.getElem_mem _
  have xI:IsRq x:=hx _ hxm
  have hxs:=hsq x hxm
  have hxt:x.to=t:=by rw[hx0];exact e
  have f1:seg cs (o+(i:Int).toNat*40) 40=some (rqC x):=by rw[hx0];exact Zal (ZbB hx) hs hi rfl
  have hO0:x.seq=seq∨Zbg x.seq seq=true->addV l now t seq hops frm=⟨l,false,0⟩:=λh=>by rw[hE,if_pos (Zt8 hxm hxt ((Zi8 hxs hs16).2 h))]
  by_cases h6:x.seq=seq
  ·refine gQ 10 rfl ?_
   refine Zdr rfl rfl (λw M=>Zfq _ _ _ (Qw M.ext) Q0) (λv44 e44 hO44=>?_)
   refine W3 [10,0,1] ?_
   refine ZgA rfl Qd (Zcr Qd (Zgg Qd) Q0) ?_
   refine W3 [3,0,22] ?_
   refine ZdT rfl rfl (λa w F M=>(.cons (.tmp (F.e rfl)) (.cons (.tmp (F.e rfl)) (.cons (.tmp (F.e rfl)) .nil)))) ?_;intro w M;(try dsimp only[Zce])
   exact Ze4.is (hO0 (.inl h6)) hO44 (M.sub (List.sublist_append_left _ _))
  cases h7:Zbg x.seq seq
  rotate_left
  ·refine gQ 10 rfl ?_
   refine Zdr rfl rfl (λw M=>Zfq _ _ _ (Qw M.ext) Q0) (λv44 e44 hO44=>?_)
   refine W3 [10,0,1] ?_
   refine ZgA rfl Qd (Zcr Qd (Zgg Qd) Q0) ?_
   refine W3 [3,0,2,0,1] ?_
   refine ZgA rfl Qd (Zcr Qd (Zgg Qd) Q0) ?_
   refine W4 [1,0,4,0,10] @Zic ?_
   refine ZdT rfl rfl (λa w F M=>(.cons (.tmp (F.e rfl)) (.cons (.tmp (F.e rfl)) (.cons (.tmp (F.e rfl)) .nil)))) ?_;intro w M;(try dsimp only[Zce])
   exact Ze4.is (hO0 (.inr h7)) hO44 (M.sub (List.sublist_append_left _ _))
  have hold:oldQ l t seq=false:=Zqi λj hj h=>by
   obtain⟨rfl,_⟩:=Ze0 hA hP td hj h.1
   rw[<-hx0] at h
   have:=(Zi8 hxs hs16).1 h.2
   rw[h7] at this
   simp[h6] at this
  have hst:=Znm hA hD (x:=newQ now t seq hops frm) td hP hf
  rw[hold,if_neg Q5,<-hst,List.length_set,if_neg Q0] at hE
  refine gQ 10 rfl (Zdr rfl rfl (λw M=>Zfq _ _ _ (Qw M.ext) Q0) (λv44 e44 hO44=>?_))
  refine W3 [10,0,1] ?_
  refine ZgA rfl Qd (Zcr Qd (Zgg Qd) Q0) ?_
  refine W3 [3,0,2,0,1] ?_
  refine ZgA rfl Qd (Zcr Qd (Zgg Qd) Q0) ?_
  refine W4 [1,0,4,0,28,1010,2,0,4,0] (T2 @Zic @ZjQ) ?_
  refine fd_v (λa w F M R r=>Zaq F rfl (ZpM _ Qd _ _ _ _ _) r) ?_
  obtain⟨bq,cq,jq,rfl,rfl⟩:=hO44.ex Q0
  have nwB:=ZpM t td seq hops frm (Zaz now 3) 3
  refine W3 [0,0] ?_
  refine Zq7 0 (enc:=rqC) (l:=l) (x:=newQ now t seq hops frm) rfl rfl hO44 rfl Q0 (ZbB hx) (Zb1 nwI) (ZcY _) rfl rfl (λhO=>?_)
  exact vBe
theorem ZdW(o:QuaV):IsQu o:=by cases o;trivial
def Zer(now:Int)(a:AdjV):AdjV:=if a.til<=now then⟨a.nb,Zgo a.q,Zaz now 2,a.ans⟩ else a
def ZgP(now:Int)(a:AdjV):AdjV:=if a.ans<=now then⟨a.nb,repV a.q 65535,a.til,a.ans⟩ else a
def senS(now:Int)(a:AdjV):AdjV:=ZgP now (Zer now a)
def senR(now:Int)(ro:List RouV)(l:List AdjV):List RouV:=l.foldl (λr a=>if(senS now a).q.known then r else ZeZ r a.nb) ro
def senA(now:Int)(l:List AdjV):List AdjV:=(l.map (senS now)).filter (·.q.known)
theorem Zj1{q:QuaV}(h:BdQu q):BdQu (Zgo q):=by
 have hc:=SmQu.clean h
 unfold Zgo
 split
 ·exact BdQu.zero
 ·refine⟨ZrW _,?_,hc.b.r⟩
  have:=hc.c
  unfold misQ
  dsimp only
  split<;>omega
theorem Zvz{q:QuaV}(h:BdQu q)(hc:0<=c/\c<=65535):BdQu (repV q c):=by
 have h2:=Zch h
 unfold repV
 split
 ·exact⟨h2.h,h2.c,by dsimp only;omega⟩
 ·exact h2
theorem Zkr(q:QuaV):Zaf q=qu0∨(Zaf q).known=true:=by
 cases h:(Zaf q).known
 ·exact .inl (ZkS h)
 ·exact .inr rfl
theorem ZsQ(q:QuaV):Zgo q=qu0∨(Zgo q).known=true:=by
 unfold Zgo
 split
 ·exact .inl rfl
 ·rename_i h
  rcases Zkr q with h1|h1
  ·rw[h1] at h
   exact absurd rfl h
  ·exact .inr h1
theorem Zvx(q:QuaV)(c:Int):repV q c=qu0∨(repV q c).known=true:=by
 unfold repV
 split
 ·rename_i h
  exact .inr h.1
 ·exact Zkr q
theorem Zvd(now:Int){a:AdjV}(h:a.q.known=true):(senS now a).q=qu0∨(senS now a).q.known=true:=by
 unfold senS ZgP
 split
 ·exact Zvx _ _
 ·unfold Zer
  split
  ·exact ZsQ _
  ·exact .inr h
section
variable {now:Int} {l:List AdjV} {ro:List RouV} {i:Nat} {y:AdjV}
theorem vCu(h:p:=by
  unfold senA senR
  rw[List.take_succ_eq_append_getElem hi,List.map_append,List.filter_append,List.foldl_append,<-hy]
  simp[h]):p:=h
theorem ZxF(hi:i<l.length)(hy:y=l[i])(h:(senS now y).q.known=true):senA now (l.take (i+1))=senA now (l.take i)++[senS now y]/\senR now ro (l.take (i+1))=senR now ro (l.take i):=vCu
theorem ZxG(hi:i<l.length)(hy:y=l[i])(h:(senS now y).q.known=false):senA now (l.take (i+1))=senA now (l.take i)/\senR now ro (l.take (i+1))=ZeZ (senR now ro (l.take i)) y.nb:=vCu
end
theorem ZhO{l:List RouV}{p:RouV->Bool}:(ZcR l p).Sublist l:=by
 unfold ZcR
 split
 ·exact List.filter_sublist
 ·exact sC0 _
theorem ZdN(now:Int):∀(l:List AdjV)(ro:List RouV),(senR now ro l).Sublist ro
 |[],ro=>List.Sublist.refl _
 |a::l,ro=>by
  have:=ZdN now l (if(senS now a).q.known then ro else ZeZ ro a.nb)
  refine List.Sublist.trans this ?_
  split
  ·exact List.Sublist.refl _
  ·exact ZhO
theorem Zga{l:List AdjV}:(senA now l).length<=l.length:=Nat.le_trans (List.length_filter_le _ _) Q5
theorem vCi(h:p:=by
  refine W3 [5,0,2] ?_
  exact gR (_,_,_,_) ⟨by show OwnS _ _ _ _ _ _;rw[hT.1];assumption,by show OwnS _ _ _ _ _ _;rw[hT.2];exact hR⟩):p:=h
theorem Zvc(s:RtV)(x:RtX)(now frm:Int)(va vs:Value)(b:Nat)(e7 e9:EN)(hj:∀y∈s.aj,IsAj y)(hq:∀y∈s.aj,BdQu y.q)(hk:∀y∈s.aj,y.q.known=true)(hr:∀y∈s.ro,IsRo y)(hl:s.aj.length<=1000)(hnow:Zag now=true)(hJ:OwnS 124 8 x.aj s.aj.length (ajsC s.aj) e7)(hR:OwnS 76 39 x.ro s.ro.length (rosC s.ro) e9)(W:World)(hH:InW W ([[(b, .cells (stC s x now frm va vs).toArray 142 (0,0))],e7,e9]:Row).flatten):Cal prog 153 [.pointer (some ⟨b,0,none⟩)].toArray W λr w'=>∃v7 v9 e7' e9',r= .tuple #[]/\OwnS 124 8 v7 ((senA now s.aj)).length (ajsC ((senA now s.aj))) e7'/\OwnS 76 39 v9 ((senR now s.ro s.aj)).length (rosC ((senR now s.ro s.aj))) e9'/\Mem (([[(b, .cells (stC s x now frm va vs).toArray 142 (0,0))],e7,e9]:Row).flatten.map (·.1)) W w' ([e9',e7',[(b, .cells (stC s {x with aj:=v7,ro:=v9} now frm va vs).toArray 142 (0,0))]]:Row).flatten:=by
 obtain⟨v6,v7,v8,v9,v10,v11,v12⟩:=x
 dsimp only at hJ hR
 obtain⟨q7,c7,rfl,hq7⟩:=Zbr hJ
 obtain⟨hn0,hn1⟩:=Zbt hnow
 refine Zdw (n:=69) [[(b, .cells (stC s ⟨v6, .slice q7 s.aj.length c7,v8,v9,v10,v11,v12⟩ now frm va vs).toArray 142 (0,0))],e7,e9] hH Zbj Zbi Tryz.func153 rfl rfl rfl ?_
 refine W3 [9,0,2,0,5] ?_
 refine Zba (Zao (.s (.s (.s .z))) (ZcT 11 10 9 (ZdI hj) hq7 (λi(j:Value×EN×Value×EN)=>OwnS 124 8 j.1 ((senA now (s.aj.take i))).length (ajsC ((senA now (s.aj.take i)))) j.2.1/\OwnS 76 39 j.2.2.1 ((senR now s.ro (s.aj.take i))).length (rosC ((senR now s.ro (s.aj.take i)))) j.2.2.2) (λj=>[(0, .pointer (some ⟨b,0,none⟩)),(2,j.1)]) (λj=>[j.2.2.2,j.2.1,[(b, .cells (stC s ⟨v6, .slice q7 s.aj.length c7,v8,j.2.2.1,v10,v11,v12⟩ now frm va vs).toArray 142 (0,0))],e7]) (_,[],_,_) ⟨OwnS.nilL _ _ _,hR⟩ ?_ ?_))
 ·rintro i ⟨u,es,u9,es9⟩ y hi hy hym bq jq rfl rfl f1 ⟨hO,hR⟩
  have yj:=hj y hym
  have yq:=hq y hym
  dsimp only at hO hR⊢
  have hal:(senA now (s.aj.take i)).length<=1000:=Nat.le_trans Zga (by rw[List.length_take];omega)
  refine W3 [6,0,6,0,0] ?_
  refine Zac λb4=>?_
  refine W3 [0,3] ?_
  obtain⟨a1,ha1⟩:∃a1,a1=Zer now y:=⟨_,rfl⟩
  refine Zc0 (ι:=Unit) ⟨λ_=>True,λ_=>[(11, .int .i64 i),(10, .int .i64 s.aj.length),(9, .slice (some ⟨bq,0,none⟩) s.aj.length c7),(0, .pointer (some ⟨b,0,none⟩)),(2,u),(4, .pointer (some ⟨b4,0,none⟩))],λ_=>[[(b4, .cells (ajC a1).toArray 124 (0,0))],es9,es,[(b, .cells (stC s ⟨v6, .slice (some ⟨bq,0,none⟩) s.aj.length c7,v8,u9,v10,v11,v12⟩ now frm va vs).toArray 142 (0,0))],[(bq, .cells (ajsC s.aj++jq).toArray 124 (0,0))]]⟩ ?_ ?_
  ·by_cases c1:y.til<=now
   ·have e1:a1=⟨y.nb,Zgo y.q,Zaz now 2,y.ans⟩:=by rw[ha1];unfold Zer;rw[if_pos c1]
    clear ha1
    subst e1
    refine W4 [1,1007,1,0,1,0,1,0,1,0,2,0,3,0,0,1] @Zp1 ?_
    refine Zdf 0 rfl rfl (Zhj Qd) (ZkR _) rfl (ZhM Qd Qd) rfl ?_
    refine W4 [4,0,1,0,0,1,0,1] @Zfc ?_
    exact gJ () trivial
   ·have e1:a1=y:=by rw[ha1];unfold Zer;rw[if_neg c1]
    clear ha1
    subst e1
    refine W3 [1,1007,1,0,1,0,1,0,1,0,2,0,1] ?_
    exact gJ () trivial
  rintro⟨⟩-
  dsimp only
  have a1I:IsAj a1:=ZdW _
  have a1q:BdQu a1.q:=by rw[ha1];unfold Zer;split<;>first|exact Zj1 yq|exact yq
  have a1n:a1.nb=y.nb:=by rw[ha1];unfold Zer;split<;>rfl
  refine gQ 2 rfl ?_
  obtain⟨a2,ha2⟩:∃a2,a2=ZgP now a1:=⟨_,rfl⟩
  refine Zc0 (ι:=Unit) ⟨λ_=>True,λ_=>[(11, .int .i64 i),(10, .int .i64 s.aj.length),(9, .slice (some ⟨bq,0,none⟩) s.aj.length c7),(0, .pointer (some ⟨b,0,none⟩)),(2,u),(4, .pointer (some ⟨b4,0,none⟩))],λ_=>[[(b4, .cells (ajC a2).toArray 124 (0,0))],es9,es,[(b, .cells (stC s ⟨v6, .slice (some ⟨bq,0,none⟩) s.aj.length c7,v8,u9,v10,v11,v12⟩ now frm va vs).toArray 142 (0,0))],[(bq, .cells (ajsC s.aj++jq).toArray 124 (0,0))]]⟩ ?_ ?_
  ·by_cases c1:a1.ans<=now
   ·have e1:a2=⟨a1.nb,repV a1.q 65535,a1.til,a1.ans⟩:=by rw[ha2];unfold ZgP;rw[if_pos c1]
    clear ha2
    subst e1
    refine W4 [1,1007,1,0,1,0,1,0,1,0,2,0,2,0,0,1] @Zp0 ?_
    refine Zdf 0 rfl rfl (Zhj Qd) (ZkR _) rfl (ZhM Qd Qd) rfl ?_
    exact gQ 1 rfl (gJ () trivial)
   ·have e1:a2=a1:=by rw[ha2];unfold ZgP;rw[if_neg c1]
    clear ha2
    subst e1
    refine W3 [1,1007,1,0,1,0,1,0,1,0,2,0,1] ?_
    exact gJ () trivial
  rintro⟨⟩-
  dsimp only
  have a2I:IsAj a2:=ZdW _
  have a2n:a2.nb=y.nb:=by rw[ha2,<-a1n];unfold ZgP;split<;>rfl
  have ha:a2=senS now y:=by rw[ha2,ha1];rfl
  have hor:=Zvd now (hk y hym)
  rw[<-ha] at hor
  clear ha2
  cases hkn:a2.q.known
  ·have hq0:a2.q=qu0:=by
    rcases hor with h|h
    ·exact h
    ·rw[hkn] at h;cases h
   have hqe:eqVs (quC a2.q) [.bool false, .int .u8 0, .int .i64 0, .int .u16 0, .int .i64 0]=true:=(ZpY a2I (ZdW qu0)).trans (dqT hq0)
   have hF:=ZxG (ro:=s.ro) hi hy (ha▸hkn)
   refine W3 [4,0,0] ?_
   refine g_v (λa w F M R r=>Zqq (F.e rfl) (F.e rfl) Q2 Q2 Qd r) ?_
   refine gQ 3 rfl ?_
   have hr2:∀y∈senR now s.ro (s.aj.take i),IsRo y:=λy hy=>hr y ((ZdN _ _ _).subset hy)
   refine Zms 9 69 [8] rfl Q7 (Zaw 2 rfl (fe_v (λa w F M R r=>Zan (F.e rfl) rfl r) (Zaw 2 rfl (Zc1 3 rfl rfl rfl (Zaw 1 rfl (Zc1 0 rfl rfl (Zo0 Qd) ?_))))))
   refine Zir (λf=>rfl) (λ_ _=>rfl) (λ_ _ w M=>Zte _ hr2 u9 a2.nb w (hR.slAt M λq hq=>List.mem_flatten_of_mem Q5 hq)) (Zf0 rfl rfl (λi hi=>rfl) (λi hi=>?_))
   obtain⟨_,v9b,e9b⟩:=i
   obtain⟨_,hR2⟩:=hi
   dsimp only at hR2⊢
   rw[a2n,<-hF.2] at hR2
   refine W3 [0,2,0,4,0,2] ?_
   exact gR (_,_,_,_) ⟨by show OwnS _ _ _ _ _ _;rw[hF.1];assumption,hR2⟩
  ·have hq0:a2.q≠qu0:=λh=>by rw[h] at hkn;cases hkn
   have hqe:eqVs (quC a2.q) [.bool false, .int .u8 0, .int .i64 0, .int .u16 0, .int .i64 0]=false:=(ZpY a2I (ZdW qu0)).trans (dqF hq0)
   have hT:=ZxF (ro:=s.ro) hi hy (ha▸hkn)
   rw[<-ha] at hT
   refine W3 [4,0,0] ?_
   refine g_v (λa w F M R r=>Zqr (F.e rfl) (F.e rfl) Q2 Q2 Qd r) ?_
   refine W3 [5,0] ?_
   refine g_bs rfl rfl rfl (Zfv Qd) (λb61=>?_)
   refine ZaY 3 0 (enc:=ajC) rfl rfl Qd rfl rfl (Zhn Qd) Q4 (λ_=>rfl) (λv62 es62 hO62=>?_) (Zhm _)
   exact vCi
 ·rintro⟨u,es,u9,es9⟩ i hi ⟨hO,hR⟩
  subst hi
  dsimp only at hO hR⊢
  rw[List.take_length] at hO hR
  refine W3 [6,0,2,0,5,0,2,0,1] ?_
  exact Zmr rfl rfl λw M=>⟨_,_,_,_,rfl,hO,hR,M.sub (subO (.cons_cons _ (.cons_cons _ (.cons_cons _ (List.nil_sublist _)))))⟩
end
section
attribute [local irreducible] OpTo wpListIn Code.wpIn Cal
structure JX where
 J:World->Prop
 hJ:∀a b,Ext [] a b->J a->J b
 X:List Nat:=[]
 I:World->Prop:=λ_=>True
 hI:∀a b,Ext [] a b->I b->I a:=by intros;trivial
def Zml(n0:Nat)(T:List Nat)(y:JX):Keep:=⟨Ext [],λa b=>Sh n0 T a b/\(y.J a->y.J b)/\(y.I b->y.I a),λw=>Ext.refl [] w,λh=>⟨Sh.of_ext h,y.hJ _ _ h,y.hI _ _ h⟩,λh k=>⟨h.1.trans k.1,λj=>k.2.1 (h.2.1 j),λi=>h.2.2 (k.2.2 i)⟩,λh=>h.1.size⟩
inductive XA
 |any
inductive XK
 |x (p:XA)
 |tn (n:Nat)
 |al (t:TypeId) (len:Nat)
 |wt (v:Value)
def XK.pred(y:JX)(n0:Nat):XK->Pred
 | .x _=>λ_ _=>True
 | .tn n=>λv _=>∃xs:Array Value,v= .tuple xs/\xs.size=n
 | .al t len=>AlS n0 t len
 | .wt v=>λu w=>y.I w->u=v
theorem XK.stays{n0:Nat}{B:List Nat}{y:JX}:∀q:XK,Zfw (Zml n0 B y) (q.pred y n0)
 | .x _=>λ_ _ _ _ _=>trivial
 | .tn _=>λ_ _ _ h _=>h
 | .al _ _=>λv w w' h hE=>AlS.stays n0 B _ _ v w w' h hE.1
 | .wt _=>λ_ _ _ h hE hI=>h (hE.2.2 hI)
def FK(c:Cx)(Q:Exit->Act->World->Prop)(ks:List KF)(x:RX)(y:JX)(k:Nat)(rest:List Oper)(fr:FN)(xs:List (Nat×XK))(E:ESt):Prop:=
 (∀sl l,E sl l->∀q∈sl,q.1<k)->∀a w Vs,(∀w',Sh w.heap.size x.B w w'->Mem c.S c.W w' x.lk.flatten)->y.J w->(∀b∈x.B,b<w.heap.size)->Zb2 x.ol.toArray x.n=true->(∀q∈xs,Vs[q.1]? =some (q.2.pred y w.heap.size))->
  MW ⟨Zml w.heap.size x.B y,x.Ef,[],c.P,c.r,x.ol.toArray,x.n,c.n,c.df,a,w,KQ c Q ks,y.X,x.Rl⟩ k rest fr Vs (ET c E)
theorem Zit{c:Cx}{E:ESt}{k j:Nat}(h:∀sl l,E sl l->∀q∈sl,q.1<k)(hj:k<=j):irrT (ET c E) j:=fun σ v w⟨sl,l,h1,h2,h3⟩=>⟨sl,l,h1,λq hq=>by
 have:=h sl l h1 q hq
 rw[<-h2 q hq]
 exact if_neg Q0,h3⟩
theorem Mem.pastK{W0 w w':World}{l:EN}(M:Mem S W0 w l)(E:Ext [b] w w')(hb:∀p∈l,p.1≠b)(ho:b∈S∨W0.heap.size<=b):Mem S W0 w' l:=
 ⟨⟨E.os.trans M.ext.os,E.tape.trans M.ext.tape,E.output.trans M.ext.output,Nat.le_trans M.ext.size E.size,Nat.le_trans M.ext.dr E.dr,λk hk hs=>by
  rw[E.block k (Nat.lt_of_lt_of_le hk M.ext.size) (by
   simp only[List.mem_singleton]
   rintro rfl
   rcases ho with h|h
   ·exact hs h
   ·omega)]
  exact M.ext.block k hk hs⟩,λp hp=>by rw[E.block p.1 (M.lt hp) (by simpa using hb p hp)];exact M.at_ p hp,M.nd,M.own⟩
theorem Zhe{y:JX}{xs:List (Nat×XK)}{n0:Nat}{Vs:List Pred}{V:Pred}(h:∀q∈xs,Vs[q.1]? =some (q.2.pred y n0)):∀q∈xs,(Vs++[V])[q.1]? =some (q.2.pred y n0):=λq hq=>by
 have:=h q hq
 rw[List.getElem?_append_left (List.getElem?_eq_some_iff.1 this).1,this]
section
variable {c:Cx} {Q:Exit->Act->World->Prop} {ks:List KF} {fr fr':FN} {l:Row} {x:RX} {y:JX} {rest rest':List Oper} {k k':Nat} {xs:List (Nat×XK)} {E:ESt} {d:Nat} {op:Op} {ty:TypeId} {pos:String} {af:Array Edge} {g:Option (Nat×Bool)}
theorem Zmt{id:Nat}(n nt:Nat)(B Ef:List Nat)(Rl:List (Nat×Nat))(y:JX)(l0 lk:Row) [hm:TMix c.P](hnt:c.n=nt)(hchk:(Zb2 ol.toArray n&&Zdg ol.toArray n&&Nat.ble n ol.length&&Zg8 ol.toArray n nt&&ZcH ol.toArray n Ef&&xOk ol.toArray n Ef y.X&&Zh3 ol.toArray n Rl)=true)
  (hp:l.flatten.Perm (l0.flatten++lk.flatten)) (hB:∀b∈B,b∈l0.flatten.map (·.1)) (hJ:∀w,Mem c.S c.W w l.flatten->y.J w) (h:FK c Q ks ⟨ol,n,B,Ef,Rl,lk⟩ y 0 ol fr [] (EI (ι:=Unit) (λ_=>True) (λ_=>[]) (λ_=>l))):G c Q ks (.code (.region id ol.toArray true)) fr l:=λa w F M=>
 ZrE (Zml w.heap.size B y) Ef y.X Rl (ET c (EI (ι:=Unit) (λ_=>True) (λ_=>[]) (λ_=>l))) n F (by rw[hnt];exact hchk) (fun σ w w'⟨sl,l',h1,h2,h3⟩hE=>⟨sl,l',h1,h2,h3.later hE⟩) (λj _=>Zit (k:=0) (by rintro _ _ ⟨_,_,rfl,_⟩ q hq;cases hq) (Nat.zero_le _)) (fun σ d hd=>⟨[],l,⟨(),trivial,rfl,rfl⟩,by simp,M.later (Ext.drawn w d hd)⟩) λw1 hE hs hok=>by
  have M1:=(M.later hE).perm hp
  have:=h (by rintro _ _ ⟨_,_,rfl,_⟩ q hq;cases hq) a w1 [] (λw' hE'=>M1.laterBut (Sh.ext hE') hB) (hJ w1 (M.later hE)) (λb hb=>?_) hok Q5
  ·rw[hs] at this
   exact this
  ·obtain⟨q,hq,e⟩:=List.mem_map.1 (hB b hb)
   rw[<-e]
   exact M1.lt (List.mem_append_left _ hq)
theorem fk_c(h:∀a w,Frm a c.n c.df fr->Mem c.S c.W w x.lk.flatten->y.J w->OpTo c.P ⟨some d,op,ty,pos,af,none⟩ a.eval w λu w'=>Ext [] w w'/\u=v)
  (hk:FK c Q ks x y (k+1) rest ((d,v)::fr) xs E) (hlt:flo x.Ef x.Rl [] x.n k op=true:=by rfl) (hd:Nat.blt d c.n=true:=by rfl):FK c Q ks x y k (⟨some d,op,ty,pos,af,none⟩::rest) fr xs E:=λhE a w Vs hM hJ hB hok hx=>
 mK hok hlt hd (λa' w' F he=>h a' w' F (hM w' he.1) (he.2.1 hJ)) (hk (λsl l h q hq=>Nat.lt_succ_of_lt (hE sl l h q hq)) a w _ hM hJ hB hok (Zhe hx))
theorem fk_w(h:∀a w,Frm a c.n c.df fr->Mem c.S c.W w x.lk.flatten->y.J w->∀R:Value->World->Prop,R v w->OpTo c.P ⟨some d,op,ty,pos,af,none⟩ a.eval w R)
  (hk:FK c Q ks x y (k+1) rest ((d,v)::fr) xs E) (hlt:flo x.Ef x.Rl [] x.n k op=true:=by rfl) (hd:Nat.blt d c.n=true:=by rfl):FK c Q ks x y k (⟨some d,op,ty,pos,af,none⟩::rest) fr xs E:=
 fk_c (λa w F M j=>h a w F M j _ ⟨Ext.refl _ _,rfl⟩) hk hlt hd
theorem fk_v(h:∀a w,Frm a c.n c.df fr->Mem c.S c.W w x.lk.flatten->∀R:Value->World->Prop,R v w->OpTo c.P ⟨some d,op,ty,pos,af,none⟩ a.eval w R)
  (hk:FK c Q ks x y (k+1) rest ((d,v)::fr) xs E) (hlt:flo x.Ef x.Rl [] x.n k op=true:=by rfl) (hd:Nat.blt d c.n=true:=by rfl):FK c Q ks x y k (⟨some d,op,ty,pos,af,none⟩::rest) fr xs E:=fk_w (λa w F M _=>h a w F M) hk hlt hd
theorem Zre:∀(m:Nat){k k':Nat}{rest rest':List Oper}{fr fr':FN},runE c x m k rest fr=(k',rest',fr')->FK c Q ks x y k' rest' fr' xs E->(rest.all λo=>o.guard.isNone)=true->FK c Q ks x y k rest fr xs E
 |0,k,k',rest,rest',fr,fr',h,hk,_=>by
  cases rest<;>cases h<;>exact hk
 |m+1,k,k',[],rest',fr,fr',h,hk,_=>by
  cases h
  exact hk
 |m+1,k,k',o::rest,rest',fr,fr',h,hk,hg0=>by
  obtain⟨dst,op,ty,pos,af,g⟩:=o
  simp only[List.all_cons,Bool.and_eq_true,Option.isNone_iff_eq_none] at hg0
  obtain⟨rfl,hg0⟩:=hg0
  unfold runE at h
  split at h
  ·rename_i d hd0
   dsimp only at hd0
   subst hd0
   split at h
   ·rename_i hb
    simp only[Bool.and_eq_true] at hb
    split at h
    ·split at h
     ·rename_i v hv
      exact fk_w (λa w F M _ R r=>Zjt F hv r) (Zre m h hk hg0) hb.2 hb.1
     ·cases h
      exact hk
    ·rename_i hg
     cases hg
    ·cases h
     exact hk
   ·cases h
    exact hk
  ·cases h
   exact hk
theorem ZaT(m:Nat){k k':Nat}{rest rest':List Oper}{fr fr':FN}(h:runE c x m k rest fr=(k',rest',fr'))(hk:FK c Q ks x y k' rest' fr' xs E)(hg:(rest.all λo=>o.guard.isNone)=true:=by rfl):FK c Q ks x y k rest fr xs E:=Zre m h hk hg
theorem ZAd(h:∀a w,Frm a c.n c.df fr->Mem c.S c.W w x.lk.flatten->y.J w->OpTo c.P ⟨some d,op,ty,pos,af,none⟩ a.eval w λu w'=>Ext [] w w'/\(y.I w->u=v))
  (hk:FK c Q ks x y (k+1) rest fr ((k, .wt v)::xs) E) (hlt:flo x.Ef x.Rl [] x.n k op=true:=by rfl) (hnd:ZcU d fr=true:=by rfl):FK c Q ks x y k (⟨some d,op,ty,pos,af,none⟩::rest) fr xs E:=λhE a w Vs hM hJ hB hok hx=>by
 intro hlen
 refine mX (V:=XK.pred y w.heap.size (.wt v)) hok hlt hnd (XK.stays (.wt v)) (λa' w' F he _=>(h a' w' F (hM w' he.1) (he.2.1 hJ)).mono λu w'' q=>⟨q.1,λhI=>q.2 (y.hI _ _ q.1 hI)⟩) (hk (λsl l h q hq=>Nat.lt_succ_of_lt (hE sl l h q hq)) a w _ hM hJ hB hok λq hq=>?_) hlen
 rcases List.mem_cons.1 hq with rfl|hq
 ·rw[<-hlen]
  simp
 ·exact Zhe hx q hq
inductive PkL:Row->Row->Row->Prop
 |nil {r:Row}:PkL r [] r
 |cons {r r1 r2 es:Row} {e:EN} (h:Pk r e r1) (k:PkL r1 es r2):PkL r (e::es) r2
theorem PkL.perm{row sel rst:Row}(h:PkL row sel rst):row.flatten.Perm (sel.flatten++rst.flatten):=by
 induction h with
 |nil=>exact .refl _
 |cons h k ih=>
  rw[List.flatten_cons,List.append_assoc]
  exact h.perm.trans (List.Perm.append_left _ ih)
theorem ZkY{κ:Type}(val:κ->Value)(p:κ->Prop)(lj:κ->Row){sel rst:Row}{ks0:List (Nat×XP)}{y:Operand} [hb:Zad c.P fn](hsel:PkL l sel rst)(hB:∀b∈sel.flatten.map (·.1),b∈x.B)(hx:Ev fr y=some (.func (.func fn) #[] #[]))(ha:evL fr ys=some vs)
  (hc:∀w,Mem c.S c.W w l.flatten->InW w sel.flatten->Cal c.P fn vs.toArray w λv w'=>∃j,v=val j/\p j/\Mem (sel.flatten.map (·.1)) w w' (lj j).flatten):
  OpF c x ks0 ⟨some d, .call ⟨.value y,ys.toArray,ts⟩,ty,pos,af,none⟩ fr l (λu r=>∃j,u=val j/\p j/\r=lj j++rst):=λa w F M _=>by
 have hp:=M.perm hsel.perm
 refine Zav (F.e hx) (F.evs ha) (Cal.mono (hc w M (hp.inW (List.sublist_append_left _ _))) λu w' h=>?_)
 obtain⟨j,h1,h2,N⟩:=h
 refine⟨N.ext.mono hB,_,⟨j,h1,h2,rfl⟩,?_⟩
 rw[List.flatten_append]
 exact hp.joinB N
theorem Zwx [hz:ZcD c.P t cs](hk:FK c Q ks x y (k+1) rest fr ((k, .al t cs.length)::xs) E)(hlt:(Nat.blt k x.n&& !x.Ef.contains k&&(ZdO [] k&&Zdn x.Rl k))=true:=by rfl)(hnd:ZcU d fr=true:=by rfl):FK c Q ks x y k (⟨some d, .alloc t,ty,pos,af,none⟩::rest) fr xs E:=λhE a w Vs hM hJ hB hok hx=>by
 intro hlen
 refine xAl (t0:=t) (cs0:=cs) hok hlt hnd (XK.stays (.al t cs.length)) (λw=>Ext.alloc w _) (λa' w' F' E'=>Zh0) (hk (λsl l h q hq=>Nat.lt_succ_of_lt (hE sl l h q hq)) a w _ hM hJ hB hok λq hq=>?_) hlen
 rcases List.mem_cons.1 hq with rfl|hq
 ·show(Vs++[AlS w.heap.size t cs.length])[k]? =some (AlS w.heap.size t cs.length)
  rw[<-hlen]
  simp
 ·exact Zhe hx q hq
theorem Zio(n k':Nat){u:Operand}(hU:(k',XK.tn n)∈xs)(hi:i<n)(hk:FK c Q ks x y (k+1) rest fr xs E)(hlt:ZvA x.ol.toArray x.Ef x.Rl [] x.n k k' (.extract u i) af=true:=by rfl)(hnd:ZcU d fr=true:=by rfl):
  FK c Q ks x y k (⟨some d, .extract u i,ty,pos,af,none⟩::rest) fr xs E:=λhE a w Vs hM hJ hB hok hx=>by
 refine xRel (V:=λ_ _=>True) k' hok hlt hnd (λ_ _ _ h _=>h) (λw=>Ext.refl _ _) (hx _ hU) (λu w _ hu=>?_) (hk (λsl l h q hq=>Nat.lt_succ_of_lt (hE sl l h q hq)) a w _ hM hJ hB hok (Zhe hx))
 obtain⟨p,rfl,hs⟩:=hu
 exact⟨p[i]'Q0,by simp[relV,hs,hi],trivial⟩
section
variable {ι:Type} {P:ι->Prop} {sl:ι->FN} {li:ι->Row}
theorem vCj(h:p:=by
  intro q hq
  rcases List.mem_cons.1 hq with rfl|hq
  ·simp[updS]
  ·have:=hlt' i hi q hq
   simp only[updS]
   rw[if_neg Q0]
   exact e2 q hq):p:=h
theorem vCW(h:p:=by
  rcases List.mem_cons.1 hq with rfl|hq
  ·exact Nat.lt_succ_self _
  ·exact Nat.lt_succ_of_lt (hlt' i hi q hq)):p:=h
theorem Zuu{κ:Type}(ws:FN)(val:ι->κ->Value)(p:ι->κ->Prop)(f:ι->κ->Row)(xp:XK)
  (hws:∀q∈ws,(q.1,XK.wt q.2)∈xs/\q.1∈ZaE ⟨some d,op,ty,pos,af,none⟩) (h:∀i,P i->OpF c x [] ⟨some d,op,ty,pos,af,none⟩ (toFr x.ol.toArray ws++(Zd9 x.ol.toArray ⟨some d,op,ty,pos,af,none⟩ x.Ef (sl i)++fr)) (li i) (λv r=>∃j,v=val i j/\p i j/\r=f i j)) (hp:∀i j n0 w,xp.pred y n0 (val i j) w) (hJr:∀i j,P i->p i j->∀w,Mem c.S c.W w (f i j).flatten->y.J w) (hIr:∀i,P i->∀w,Mem c.S c.W w (li i).flatten->y.I w)
  (hk:FK c Q ks x y (k+1) rest fr ((k,xp)::xs) (EI (ι:=ι×κ) (λq=>P q.1/\p q.1 q.2) (λq=>(k,val q.1 q.2)::sl q.1) (λq=>f q.1 q.2)))
  (hlt:effX x.Ef x.Rl [] x.n k op=true:=by rfl) (hnd:ZcU d fr=true:=by rfl):
  FK c Q ks x y k (⟨some d,op,ty,pos,af,none⟩::rest) fr xs (EI P sl li):=λhE a w Vs hM hJ hB hok hx=>by
 obtain⟨h1,h2,h3,h4,hrf⟩:=ZcO hlt
 rintro rfl hT0 hPK
 have hsT:ZcG (Zml w.heap.size x.B y) (ET c (EI (ι:=ι×κ) (λq=>P q.1/\p q.1 q.2) (λq=>(Vs.length,val q.1 q.2)::sl q.1) (λq=>f q.1 q.2))):=fun σ w w'⟨s,l',q1,q2,q3⟩hE=>⟨s,l',q1,q2,q3.later hE⟩
 have hlt':∀i,P i->∀q∈sl i,q.1<Vs.length:=λi hi q hq=>hE _ _ ⟨i,hi,rfl,rfl⟩ q hq
 have hE':∀s r,EI (ι:=ι×κ) (λq=>P q.1/\p q.1 q.2) (λq=>(Vs.length,val q.1 q.2)::sl q.1) (λq=>f q.1 q.2) s r->∀q∈s,q.1<Vs.length+1:=by
  rintro s r ⟨⟨i,j⟩,⟨hi,_⟩,rfl,rfl⟩ q hq
  exact vCW
 refine ZcN hok h1 (XK.stays xp) hsT hT0.2 (λhh=>absurd h2 hh) hPK (λhC ho'=>Zcn (λd' hd'=>by cases hd';exact hnd) hC ho') (λa' w' σ F he hdp hT hPp hσ hrel=>?_) (hk hE' a w (Vs++[xp.pred y w.heap.size]) hM hJ hB hok (λq hq=>?_) Q5 ⟨hsT,λj _ hj=>Zit hE' hj⟩ hPK)
 ·simp only[Region.wanted,if_true]
  obtain⟨_,_,⟨i,hi,rfl,rfl⟩,e2,M⟩:=hT h2
  refine(h i hi a' w' (Zf5 (ZeI F (λq hq hf hd=>?_)) λq hq=>hdp q.1 (hws q hq).2 _ (hx _ (hws q hq).1) (hIr i hi w' M)) M Q5).mono λv w''⟨q1,r,⟨j,hv,hp2,hr⟩,q3⟩=>?_
  ·rw[<-hσ q.1 (.inl hf) hd]
   exact e2 q hq
  ·subst hr
   refine⟨⟨Sh.of_extB q1 hB,λ_=>hJr i j hi hp2 w'' q3,λ_=>hIr i hi w' M⟩,hv▸hp i j _ _,λhh=>absurd (h3.symm.trans hh) Bool.false_ne_true,λhh=>absurd h2 hh,λ_=>⟨(Vs.length,v)::sl i,f i j,⟨(i,j),⟨hi,hp2⟩,by rw[hv],rfl⟩,?_,q3⟩, .none h4,λq hq e=>(ZaI hrf q hq e).elim⟩
   exact vCj
 ·rcases List.mem_cons.1 hq with rfl|hq
  ·simp
  ·exact Zhe hx q hq
theorem Zrf{κ:Type}(val:ι->κ->Value)(p:ι->κ->Prop)(f:ι->κ->Row)(xp:XK)
  (h:∀i,P i->OpF c x [] ⟨some d,op,ty,pos,af,none⟩ (Zd9 x.ol.toArray ⟨some d,op,ty,pos,af,none⟩ x.Ef (sl i)++fr) (li i) (λv r=>∃j,v=val i j/\p i j/\r=f i j)) (hp:∀i j n0 w,xp.pred y n0 (val i j) w) (hJr:∀i j,P i->p i j->∀w,Mem c.S c.W w (f i j).flatten->y.J w)
  (hk:FK c Q ks x y (k+1) rest fr ((k,xp)::xs) (EI (ι:=ι×κ) (λq=>P q.1/\p q.1 q.2) (λq=>(k,val q.1 q.2)::sl q.1) (λq=>f q.1 q.2)))
  (hlt:effX x.Ef x.Rl [] x.n k op=true:=by rfl) (hnd:ZcU d fr=true:=by rfl) (hIr:∀i,P i->∀w,Mem c.S c.W w (li i).flatten->y.I w:=by intros;exact True.intro):
  FK c Q ks x y k (⟨some d,op,ty,pos,af,none⟩::rest) fr xs (EI P sl li):=Zuu [] val p f xp Q5 h hp hJr hIr hk hlt hnd
theorem ZeB(v:ι->Value)(xp:XK)(h:∀i,P i->evO c (Zd9 x.ol.toArray ⟨some d,op,ty,pos,af,none⟩ x.Ef (sl i)++fr) op=some (v i))(hp:∀i n0 w,xp.pred y n0 (v i) w)(hJr:∀i,P i->∀w,Mem c.S c.W w (li i).flatten->y.J w)
  (hk:FK c Q ks x y (k+1) rest fr ((k,xp)::xs) (EI P (λi=>(k,v i)::sl i) li))
  (hlt:effX x.Ef x.Rl [] x.n k op=true:=by rfl) (hnd:ZcU d fr=true:=by rfl) (hIr:∀i,P i->∀w,Mem c.S c.W w (li i).flatten->y.I w:=by intros;exact True.intro):
  FK c Q ks x y k (⟨some d,op,ty,pos,af,none⟩::rest) fr xs (EI P sl li):=by
 refine Zrf (κ:=Unit) (λi _=>v i) (λ_ _=>True) (λi _=>li i) xp (λi hi a w F M hx=>?_) (λi _=>hp i) (λi _ hi _=>hJr i hi) ?_ hlt hnd hIr
 ·refine Zjt (R:=λu w'=>Ext x.B w w'/\∃r,(∃_:Unit,u=v i/\True/\r=li i)/\Mem c.S c.W w' r.flatten) F (h i hi) ?_
  exact⟨Ext.refl _ _,li i,⟨(),rfl,trivial,rfl⟩,M⟩
 ·have:EI (ι:=ι×Unit) (λq=>P q.1/\True) (λq=>(k,v q.1)::sl q.1) (λq=>li q.1)=EI P (λi=>(k,v i)::sl i) li:=by
   funext s r
   apply propext
   constructor
   ·rintro⟨⟨i,_⟩,⟨h1,_⟩,rfl,rfl⟩
    exact⟨i,h1,rfl,rfl⟩
   ·rintro⟨i,h1,rfl,rfl⟩
    exact⟨(i,()),⟨h1,trivial⟩,rfl,rfl⟩
  rw[this]
  exact hk
theorem Zfm{κ:Type}(val:ι->κ->Value)(p:ι->κ->Prop)(lj:ι->κ->Row)(xp:XK){vs:ι->List Value} [hb:Zad c.P fn](hx:∀f,Ev f z=some (.func (.func fn) #[] #[]))(ha:∀i,P i->evL (Zd9 x.ol.toArray ⟨some d, .call ⟨.value z,ys.toArray,ts⟩,ty,pos,af,none⟩ x.Ef (sl i)++fr) ys=some (vs i))
  (hc:∀i,P i->∀w,Mem c.S c.W w (li i).flatten->Cal c.P fn (vs i).toArray w λv w'=>∃j,v=val i j/\p i j/\Mem [] w w' (lj i j).flatten) (hp:∀i j n0 w,xp.pred y n0 (val i j) w) (hJr:∀i j,P i->p i j->∀w,Mem c.S c.W w (lj i j++li i).flatten->y.J w)
  (hk:FK c Q ks x y (k+1) rest fr ((k,xp)::xs) (EI (ι:=ι×κ) (λq=>P q.1/\p q.1 q.2) (λq=>(k,val q.1 q.2)::sl q.1) (λq=>lj q.1 q.2++li q.1)))
  (hlt:effX x.Ef x.Rl [] x.n k (.call ⟨.value z,ys.toArray,ts⟩)=true:=by rfl) (hnd:ZcU d fr=true:=by rfl) (hIr:∀i,P i->∀w,Mem c.S c.W w (li i).flatten->y.I w:=by intros;exact True.intro):
  FK c Q ks x y k (⟨some d, .call ⟨.value z,ys.toArray,ts⟩,ty,pos,af,none⟩::rest) fr xs (EI P sl li):=
 Zrf val p (λi j=>lj i j++li i) xp (λi hi=>Zh6 (val i) (p i) (lj i) (hx _) (ha i hi) (hc i hi)) hp hJr hk hlt hnd hIr
theorem ZfJ(hn:Nat.beq k x.n=true)(hEf:∀i,P i->((sl i).map (·.1)).all (λj=>x.Ef.contains j||y.X.contains j)=true)
  (h:∀i,P i->∃s,ZiV x.ol.toArray x.Rl (sl i)=some s/\G c Q ks (.ops x.ol.toArray rest) (toFr x.ol.toArray s++fr) (li i)):FK c Q ks x y k rest fr xs (EI P sl li):=λhE a w Vs hM hJ hB hok hx=>by
 refine Zxh hn λa' w' F he hV hT hD hR=>?_
 obtain⟨_,_,⟨i,e0,rfl,rfl⟩,e2,M⟩:=hT
 obtain⟨s,h1,h2⟩:=h i e0
 have hEf':∀q∈sl i,q.1∈x.Ef∨q.1∈y.X:=λq hq=>by
  have:=List.all_eq_true.1 (hEf i e0) q.1 (List.mem_map_of_mem hq)
  simpa using this
 exact h2 a' w' (Zf5 F (Zh4 hR (λq hq=>by rw[<-e2 q hq];rcases hEf' q hq with h|h<;>simp[ZdM,h]) h1)) M
end
end
section told
variable {c:Cx} {Q:Exit->Act->World->Prop} {ks:List KF} {fr:FN} {x:RX} {y:JX} {rest:List Oper} {k:Nat} {xs:List (Nat×XK)} {E:ESt} {d:Nat} {ty:TypeId} {pos:String} {af:Array Edge} {op:Op}
theorem Zww [hb:Zad c.P fn](hx:Ev fr z=some (.func (.func fn) #[] #[]))(ha:evL fr ys=some vs)(hc:∀w,Mem c.S c.W w x.lk.flatten->Cal c.P fn vs.toArray w λu w'=>u=v/\Ext [] w w')
  (hk:FK c Q ks x y (k+1) rest ((d,v)::fr) xs E) (hlt:flo x.Ef x.Rl [] x.n k (.call ⟨.value z,ys.toArray,ts⟩)=true:=by rfl) (hd:Nat.blt d c.n=true:=by rfl):FK c Q ks x y k (⟨some d, .call ⟨.value z,ys.toArray,ts⟩,ty,pos,af,none⟩::rest) fr xs E:=
 fk_c (λa w F M _=>Zav (F.e hx) (F.evs ha) ((hc w M).mono λu w' h=>⟨h.2,h.1⟩)) hk hlt hd
variable {ι:Type} {P:ι->Prop} {sl:ι->FN} {li:ι->Row}
theorem Ztf(k1 k0:Nat)(u z v:ι->Value)(xp:XK)(hq:(k1,k0)∈x.Rl)(hu:∀i,P i->look (sl i) k0=some (u i))(hr:∀i,P i->(match x.ol.toArray[k1]? with|some o=>relV o.op (u i)|none=>none)=some (z i))
  (h:∀i,P i->evO c (toFr x.ol.toArray [(k1,z i)]++fr) op=some (v i)) (hp:∀i n0 w,xp.pred y n0 (v i) w) (hJr:∀i,P i->∀w,Mem c.S c.W w (li i).flatten->y.J w)
  (hk:FK c Q ks x y (k+1) rest fr ((k,xp)::xs) (EI P (λi=>(k,v i)::sl i) li))
  (hlt:effX x.Ef x.Rl [] x.n k op=true:=by rfl) (hdp:((ZaE ⟨some d,op,ty,pos,af,none⟩).contains k1&&(ZaE ⟨some d,op,ty,pos,af,none⟩).contains k0&&x.Ef.contains k0)=true:=by rfl) (hnd:ZcU d fr=true:=by rfl) (hIr:∀i,P i->∀w,Mem c.S c.W w (li i).flatten->y.I w:=by intros;exact True.intro):
  FK c Q ks x y k (⟨some d,op,ty,pos,af,none⟩::rest) fr xs (EI P sl li):=λhE a w Vs hM hJ hB hok hx=>by
 obtain⟨h1,h2,h3,h4,hrf⟩:=ZcO hlt
 simp only[Bool.and_eq_true,List.contains_iff_mem] at hdp
 rintro rfl hT0 hPK
 have hsT:ZcG (Zml w.heap.size x.B y) (ET c (EI P (λi=>(Vs.length,v i)::sl i) li)):=fun σ w w'⟨s,l',q1,q2,q3⟩hE=>⟨s,l',q1,q2,q3.later hE⟩
 have hlt':∀i,P i->∀q∈sl i,q.1<Vs.length:=λi hi q hq=>hE _ _ ⟨i,hi,rfl,rfl⟩ q hq
 have hE':∀s r,EI P (λi=>(Vs.length,v i)::sl i) li s r->∀q∈s,q.1<Vs.length+1:=by
  rintro s r ⟨i,hi,rfl,rfl⟩ q hq
  exact vCW
 refine ZcN hok h1 (XK.stays xp) hsT hT0.2 (λhh=>absurd h2 hh) hPK (λhC ho'=>Zcn (λd' hd'=>by cases hd';exact hnd) hC ho') (λa' w' σ F he hdp' hT hPp hσ hrel=>?_) (hk hE' a w (Vs++[xp.pred y w.heap.size]) hM hJ hB hok (λq hq=>?_) Q5 ⟨hsT,λj _ hj=>Zit hE' hj⟩ hPK)
 ·simp only[Region.wanted,if_true]
  obtain⟨_,_,⟨i,hi,rfl,rfl⟩,e2,M⟩:=hT h2
  obtain⟨oq,g1,g2⟩:=hrel _ hq hdp.1.1 hdp.1.2
  have e3:ZaP x.ol.toArray k0 a'=u i:=by
   rw[<-hσ k0 (.inl hdp.2) hdp.1.2]
   exact e2 _ (ZhB (hu i hi))
  have e4:ZaP x.ol.toArray k1 a'=z i:=by
   have g3:=hr i hi
   rw[g1] at g3
   dsimp only at g2 g3
   rw[e3,g3] at g2
   exact(Option.some.inj g2).symm
  refine Zjt (Zf5 F (sl:=[(k1,z i)]) λq hq=>by rw[List.mem_singleton.1 hq];exact e4) (h i hi) ?_
  refine⟨⟨Sh.of_ext (Ext.refl _ _),λ_=>hJr i hi w' M,λ_=>hIr i hi w' M⟩,hp i _ _,λhh=>absurd (h3.symm.trans hh) Bool.false_ne_true,λhh=>absurd h2 hh,λ_=>⟨(Vs.length,v i)::sl i,li i,⟨i,hi,rfl,rfl⟩,?_,M⟩, .none h4,λq hq e=>(ZaI hrf q hq e).elim⟩
  exact vCj
 ·rcases List.mem_cons.1 hq with rfl|hq
  ·simp
  ·exact Zhe hx q hq
theorem ZkW{e:TypeId}{xs:List Value}(h:OwnS e sz v n xs ent):∀p∈ent,∃cs,p.2= .cells cs e (0,0):=λp hp=>by
 rcases h with⟨_,_,_,rfl⟩|⟨b,c,j,_,rfl,_⟩
 ·cases hp
 ·rw[List.mem_singleton.1 hp]
  exact⟨_,rfl⟩
theorem Zwv(j:Nat){t t0:TypeId}{t2 len:Nat}(vs:ι->List Value) [hs:TAgg c.P t len](hj:(j,XK.al t0 len)∈xs)(hjX:j∈y.X)(hjk:j<k)(hz:∀i,P i->Ev (Zd9 x.ol.toArray ⟨none, .store t (.tmp t2) z,ty,pos,af,none⟩ x.Ef (sl i)++fr) z=some (.agg (vs i).toArray))(hn:∀i,P i->(vs i).length=len)(h1:∀i,P i->(vs i).all (·.oneCell')=true)
  (hold:∀i,P i->∀p∈(li i).flatten,(p.1∈x.B∨p∈x.lk.flatten)∨∃cs t' fz,p.2= .cells cs t' fz/\t'≠t0) (hdst:(x.ol[j]?).bind (·.dst)=some t2) (hJr:∀i,P i->∀w,Mem c.S c.W w (li i).flatten->y.J w)
  (hk:FK c Q ks x y (k+1) rest fr xs (EI (ι:=ι×Nat) (λq=>P q.1) (λq=>(j, .pointer (some ⟨q.2,0,none⟩))::sl q.1) (λq=>[(q.2, .cells (vs q.1).toArray t0 (0,0))]::li q.1)))
  (hlt:effX x.Ef x.Rl [] x.n k (.store t (.tmp t2) z)=true:=by rfl) (hdep:(ZaE ⟨none, .store t (.tmp t2) z,ty,pos,af,none⟩).contains j=true:=by rfl) (hIr:∀i,P i->∀w,Mem c.S c.W w (li i).flatten->y.I w:=by intros;exact True.intro):
  FK c Q ks x y k (⟨none, .store t (.tmp t2) z,ty,pos,af,none⟩::rest) fr xs (EI P sl li):=λhE a w Vs hM hJ hB hok hx=>by
 obtain⟨g1,h2,h3,h4,hrf⟩:=ZcO hlt
 rintro rfl hT0 hPK
 have hsT:ZcG (Zml w.heap.size x.B y) (ET c (EI (ι:=ι×Nat) (λq=>P q.1) (λq=>(j, .pointer (some ⟨q.2,0,none⟩))::sl q.1) (λq=>[(q.2, .cells (vs q.1).toArray t0 (0,0))]::li q.1))):=fun σ w w'⟨sl,l',q1,q2,q3⟩hE=>⟨sl,l',q1,q2,q3.later hE⟩
 have hE':∀s r,EI (ι:=ι×Nat) (λq=>P q.1) (λq=>(j,Value.pointer (some ⟨q.2,0,none⟩))::sl q.1) (λq=>[(q.2,Obj.cells (vs q.1).toArray t0 (0,0))]::li q.1) s r->∀q∈s,q.1<Vs.length+1:=by
  rintro s r ⟨⟨i,b⟩,hi,rfl,rfl⟩ q hq
  rcases List.mem_cons.1 hq with rfl|hq
  ·exact Nat.lt_succ_of_lt hjk
  ·exact Nat.lt_succ_of_lt (hE _ _ ⟨i,hi,rfl,rfl⟩ q hq)
 refine ZcN hok g1 (Kn.stays _ undef) hsT hT0.2 (λhh=>absurd h2 hh) hPK (λhC ho'=>Zcn (λd' hd'=>by cases hd') hC ho') (λa' w' σ F he hdp hT hPp hσ hrel=>?_) (hk hE' a w (Vs++[Kn undef]) hM hJ hB hok (Zhe hx) Q5 ⟨hsT,λj _ hj=>Zit hE' hj⟩ hPK)
 simp only[Region.wanted,if_true]
 obtain⟨_,_,⟨i,hi,rfl,rfl⟩,e2,M⟩:=hT h2
 have hd:j∈ZaE ⟨none, .store t (.tmp t2) z,ty,pos,af,none⟩:=by simpa using hdep
 obtain⟨b,cs0,hb1,hb2,hb3,hb4⟩:=hdp j hd _ (hx _ hj)
 have e5:=hσ j (.inr hjX) hd
 have hw:=(hM w (Sh.of_ext (Ext.refl _ _)))
 have hne:∀q∈(li i).flatten,q.1≠b:=λq hq e=>by
  rcases hold i hi q hq with(h|h)|⟨cs,t',fz,h5,h6⟩
  ·have:=hB _ h
   omega
  ·have:=hw.lt h
   omega
  ·have h7:=M.at_ q hq
   rw[e,hb3,h5] at h7
   injection h7 with h7
   injection h7 with _ h7 _
   exact h6 h7.symm
 have ht2:a'.eval (.tmp t2)=Zcz b:=by
  rw[<-hb1]
  unfold ZaP
  dsimp only
  rw[List.getElem?_toArray,hdst]
  rfl
 have F2:=ZeI (x:=x) (o:=⟨none, .store t (.tmp t2) z,ty,pos,af,none⟩) F (sl:=sl i) λq hq hf hd=>by
  rw[<-hσ q.1 (.inl hf) hd]
  exact e2 q hq
 have hn':=hn i hi
 have hb3':w'.heap[b]? =some (.cells cs0.toList.toArray t0 (0,0)):=by simpa using hb3
 refine(ZjS (cs:=cs0.toList) (cs':=vs i) ht2 (F2.e (hz i hi)) hn' (h1 i hi) hb3' (Zat (by simp[hb4,hn']))).mono λ_ w'' q=>?_
 obtain⟨q1,q2⟩:=q
 have M2:=(Mem.pastK M q1 hne (.inr (Nat.le_trans hw.ext.size hb2))).cons q2 hne (.inr (Nat.le_trans hw.ext.size hb2))
 refine⟨⟨Sh.of_new q1 hb2 hb3 q2 (by simp[hb4,hn']),λ_=>hJr i hi w'' (M2.sub (List.sublist_cons_self _ _)),λ_=>hIr i hi w' M⟩,rfl,λhh=>absurd (h3.symm.trans hh) Bool.false_ne_true,λhh=>absurd h2 hh,λ_=>⟨(j, .pointer (some ⟨b,0,none⟩))::sl i,_,⟨(i,b),hi,rfl,rfl⟩,?_,M2⟩, .none h4,λq hq e=>(ZaI hrf q hq e).elim⟩
 intro q hq
 simp only[updS]
 rcases List.mem_cons.1 hq with rfl|hq
 ·dsimp only
  rw[if_neg Q0,e5,hb1]
  rfl
 ·have:=hE _ _ ⟨i,hi,rfl,rfl⟩ q hq
  rw[if_neg Q0]
  exact e2 q hq
theorem Zy0(j:Nat){t t0:TypeId}{z1 z:Operand}{b len:Nat}(cs cs' vs:ι->List Value)(f:ι->Row) [hs:TAgg c.P t len](hx1:Ev fr z1=some (.pointer (some ⟨b,0,none⟩)))(hz:∀i,P i->Ev (Zd9 x.ol.toArray ⟨none, .store t z1 z,ty,pos,af,none⟩ x.Ef (sl i)++fr) z=some (.agg (vs i).toArray))(hn:∀i,P i->(vs i).length=len)(h1:∀i,P i->(vs i).all (·.oneCell')=true)
  (hl:∀i,P i->nthO (li i) j=some [(b, .cells (cs i).toArray t0 (0,0))]) (hpu:∀i,P i->put (cs i) 0 (vs i)=some (cs' i)) (hl':∀i,P i->setO (li i) j [(b, .cells (cs' i).toArray t0 (0,0))]=some (f i)) (hbB:b∈x.B) (hJr:∀i,P i->∀w,Mem c.S c.W w (f i).flatten->y.J w)
  (hk:FK c Q ks x y (k+1) rest fr xs (EI P sl f)) (hlt:effX x.Ef x.Rl [] x.n k (.store t z1 z)=true:=by rfl) (hIr:∀i,P i->∀w,Mem c.S c.W w (li i).flatten->y.I w:=by intros;exact True.intro):
  FK c Q ks x y k (⟨none, .store t z1 z,ty,pos,af,none⟩::rest) fr xs (EI P sl li):=λhE a w Vs hM hJ hB hok hx=>by
 obtain⟨g1,h2,h3,h4,hrf⟩:=ZcO hlt
 rintro rfl hT0 hPK
 have hsT:ZcG (Zml w.heap.size x.B y) (ET c (EI P sl f)):=fun σ w w'⟨sl,l',q1,q2,q3⟩hE=>⟨sl,l',q1,q2,q3.later hE⟩
 have hE':∀s r,EI P sl f s r->∀q∈s,q.1<Vs.length+1:=by
  rintro s r ⟨i,hi,rfl,rfl⟩ q hq
  exact Nat.lt_succ_of_lt (hE _ _ ⟨i,hi,rfl,rfl⟩ q hq)
 refine ZcN hok g1 (Kn.stays _ undef) hsT hT0.2 (λhh=>absurd h2 hh) hPK (λhC ho'=>Zcn (λd' hd'=>by cases hd') hC ho') (λa' w' σ F he hdp hT hPp hσ hrel=>?_) (hk hE' a w (Vs++[Kn undef]) hM hJ hB hok (Zhe hx) Q5 ⟨hsT,λj _ hj=>Zit hE' hj⟩ hPK)
 simp only[Region.wanted,if_true]
 obtain⟨_,_,⟨i,hi,rfl,rfl⟩,e2,M⟩:=hT h2
 have F2:=ZeI (x:=x) (o:=⟨none, .store t z1 z,ty,pos,af,none⟩) F (sl:=sl i) λq hq hf hd=>by
  rw[<-hσ q.1 (.inl hf) hd]
  exact e2 q hq
 have hu:=ZeK (hl i hi) (hl' i hi)
 refine(ZjS (F.e hx1) (F2.e (hz i hi)) (hn i hi) (h1 i hi) (M.heap hu.has) (hpu i hi)).mono λ_ w'' q=>?_
 obtain⟨q1,q2⟩:=q
 have M2:=M.turned hu q1 q2
 refine⟨⟨Sh.of_extB (q1.mono λk hk=>by simp at hk;subst hk;exact hbB) hB,λ_=>hJr i hi w'' M2,λ_=>hIr i hi w' M⟩,rfl,λhh=>absurd (h3.symm.trans hh) Bool.false_ne_true,λhh=>absurd h2 hh,λ_=>⟨sl i,_,⟨i,hi,rfl,rfl⟩,λq hq=>?_,M2⟩, .none h4,λq hq e=>(ZaI hrf q hq e).elim⟩
 have:=hE _ _ ⟨i,hi,rfl,rfl⟩ q hq
 simp only[updS]
 rw[if_neg Q0]
 exact e2 q hq
end told
section single
variable {c:Cx} {Q:Exit->Act->World->Prop} {ks:List KF} {fr:FN} {X:RX} {Y:JX} {rest:List Oper} {kx:Nat} {xs_:List (Nat×XK)} {E:ESt} {d:Nat} {ty:TypeId} {pos:String} {af:Array Edge}
theorem Zdc(i:Nat){b off:Nat}{t':TypeId}{fz:Nat×Nat} [ht:TOne c.P t](hx:Ev fr x=some (.pointer (some ⟨b,off,none⟩)))(hl:nthO X.lk i=some [(b, .cells cs.toArray t' fz)])(hv:nth cs off=some v)
  (hk:FK c Q ks X Y (kx+1) rest ((d,v)::fr) xs_ E) (hlt:flo X.Ef X.Rl [] X.n kx (.load t x)=true:=by rfl) (hd:Nat.blt d c.n=true:=by rfl):FK c Q ks X Y kx (⟨some d, .load t x,ty,pos,af,none⟩::rest) fr xs_ E:=
 fk_v (λa w F M R r=>ZcB (F.e hx) (M.at_ _ (Zak hl)) hv r) hk hlt hd
theorem Zjk(i:Nat){b off n:Nat}{t':TypeId}{fz:Nat×Nat} [ht:TAgg c.P t n](hx:Ev fr x=some (.pointer (some ⟨b,off,none⟩)))(hl:nthO X.lk i=some [(b, .cells cs.toArray t' fz)])(hv:seg cs off n=some vs)
  (hk:FK c Q ks X Y (kx+1) rest ((d, .agg vs.toArray)::fr) xs_ E) (hlt:flo X.Ef X.Rl [] X.n kx (.load t x)=true:=by rfl) (hd:Nat.blt d c.n=true:=by rfl):FK c Q ks X Y kx (⟨some d, .load t x,ty,pos,af,none⟩::rest) fr xs_ E:=
 fk_v (λa w F M R r=>ZbM (F.e hx) (M.at_ _ (Zak hl)) hv r) hk hlt hd
theorem ZAe{b off n:Nat} [ht:TAgg c.P t n](hx:Ev fr x=some (.pointer (some ⟨b,off,none⟩)))(hb:∀w,Y.J w->∃cs t' fz,w.heap[b]? =some (.cells (List.toArray cs) t' fz)/\seg cs off n=some vs)
  (hk:FK c Q ks X Y (kx+1) rest ((d, .agg vs.toArray)::fr) xs_ E) (hlt:flo X.Ef X.Rl [] X.n kx (.load t x)=true:=by rfl) (hd:Nat.blt d c.n=true:=by rfl):FK c Q ks X Y kx (⟨some d, .load t x,ty,pos,af,none⟩::rest) fr xs_ E:=
 fk_w (λa w F M j R r=>by
  obtain⟨cs,t',fz,h1,h2⟩:=hb w j
  exact ZbM (F.e hx) h1 h2 r) hk hlt hd
theorem ZAf{b off:Nat} [ht:TOne c.P t](hx:Ev fr x=some (.pointer (some ⟨b,off,none⟩)))(hb:∀w,Y.J w->∃cs t' fz,w.heap[b]? =some (.cells (List.toArray cs) t' fz)/\nth cs off=some v)
  (hk:FK c Q ks X Y (kx+1) rest ((d,v)::fr) xs_ E) (hlt:flo X.Ef X.Rl [] X.n kx (.load t x)=true:=by rfl) (hd:Nat.blt d c.n=true:=by rfl):FK c Q ks X Y kx (⟨some d, .load t x,ty,pos,af,none⟩::rest) fr xs_ E:=
 fk_w (λa w F M j R r=>by
  obtain⟨cs,t',fz,h1,h2⟩:=hb w j
  exact ZcB (F.e hx) h1 h2 r) hk hlt hd
def JX.new(X:List Nat):JX:=⟨λ_=>True,λ_ _ _ h=>h,X,λ_=>True,λ_ _ _ h=>h⟩
theorem Zus{id:Nat}{l:Row}(n nt:Nat)(Ef:List Nat)(Rl:List (Nat×Nat))(X:List Nat) [hm:TMix c.P](hnt:c.n=nt)(hchk:(Zb2 ol.toArray n&&Zdg ol.toArray n&&Nat.ble n ol.length&&Zg8 ol.toArray n nt&&ZcH ol.toArray n Ef&&xOk ol.toArray n Ef X&&Zh3 ol.toArray n Rl)=true)
  (h:FK c Q ks ⟨ol,n,[],Ef,Rl,l⟩ (JX.new X) 0 ol fr [] (EI (ι:=Unit) (λ_=>True) (λ_=>[]) (λ_=>l))):G c Q ks (.code (.region id ol.toArray true)) fr l:=
 Zmt n nt [] Ef Rl (JX.new X) [] l hnt hchk (.refl _) Q5 (λ_ _=>trivial) h
theorem Zjj{id:Nat}{l:Row}(n nt:Nat)(Ef:List Nat)(Rl:List (Nat×Nat)) [hm:TMix c.P](hnt:c.n=nt)(hchk:(Zb2 ol.toArray n&&Zdg ol.toArray n&&Nat.ble n ol.length&&Zg8 ol.toArray n nt&&ZcH ol.toArray n Ef&&xOk ol.toArray n Ef []&&Zh3 ol.toArray n Rl)=true)
  (h:FK c Q ks ⟨ol,n,[],Ef,Rl,l⟩ (JX.new []) 0 ol fr [] (EI (ι:=Unit) (λ_=>True) (λ_=>[]) (λ_=>l))):G c Q ks (.code (.region id ol.toArray true)) fr l:=Zus n nt Ef Rl [] hnt hchk h
end single
end
section
attribute [local irreducible] OpTo wpListIn Code.wpIn MW Cal
def alwS(now:Int)(st:List SrcV×List AdvV)(a:AdvV):List SrcV×List AdvV:=if a.own.met=65535 then(st.1,st.2++[a]) else if(ZaQ st.1 now a.to a.own).2=0 then((ZaQ st.1 now a.to a.own).1,st.2++[a]) else st
def alwV(now:Int)(sr:List SrcV)(l:List AdvV):List SrcV×List AdvV:=l.foldl (alwS now) (sr,[])
theorem Zly{sr:List SrcV}{l:List AdvV}{y:AdvV}(hi:i<l.length)(hy:y=l[i]):alwV now sr (l.take (i+1))=alwS now (alwV now sr (l.take i)) y:=by
 unfold alwV
 rw[List.take_succ_eq_append_getElem hi,List.foldl_append,<-hy]
 rfl
theorem ZvJ{l:List SrcV}{x:SrcV}(hl:∀y∈l,IsSr y)(hx:IsSr x):∀y∈putS l x,IsSr y:=λy hy=>by
 unfold putS at hy
 rcases List.mem_append.1 hy with h|h
 ·exact hl y (List.mem_filter.1 h).1
 ·rcases List.mem_append.1 h with h|h
  ·rw[List.mem_singleton.1 h];exact hx
  ·exact hl y (List.mem_filter.1 h).1
theorem Zox{l:List SrcV}{t:DstV}{d:DisV}(hl:∀y∈l,IsSr y)(ht:IsDv t):∀y∈(ZaQ l now t d).1,IsSr y:=by
 unfold ZaQ
 split
 ·simp
 ·split
  ·simp
  ·split
   ·simp
   ·exact ZvJ hl ⟨ht,trivial⟩
theorem Zn8{now:Int}{sr:List SrcV}(hs:∀y∈sr,IsSr y):∀(l:List AdvV)(o:List AdvV)(st:List SrcV),(∀x∈l,IsAv x)->(∀y∈st,IsSr y)->∀y∈(l.foldl (alwS now) (st,o)).1,IsSr y
 |[],o,st,_,h=>h
 |a::l,o,st,hl,h=>by
  rw[List.foldl_cons]
  have ha:=hl a List.mem_cons_self
  obtain⟨r,hr⟩:∃r,r=alwS now (st,o) a:=⟨_,rfl⟩
  rw[<-hr]
  refine Zn8 hs l r.2 r.1 (λx hx=>hl x (List.mem_cons_of_mem _ hx)) ?_
  rw[hr]
  unfold alwS
  split
  ·exact h
  ·split
   ·exact Zox h ha.1
   ·exact h
theorem ZmM{now:Int}:∀(l:List AdvV)(o:List AdvV)(st:List SrcV),(l.foldl (alwS now) (st,o)).2.length<=o.length+l.length
 |[],o,st=>by simp
 |a::l,o,st=>by
  rw[List.foldl_cons]
  obtain⟨r,hr⟩:∃r,r=alwS now (st,o) a:=⟨_,rfl⟩
  rw[<-hr]
  refine Nat.le_trans (ZmM l r.2 r.1) ?_
  have:r.2.length<=o.length+1:=by
   rw[hr]
   unfold alwS
   split
   ·simp
   ·split<;>simp
  rw[List.length_cons]
  omega
theorem vBw(h:p:=by
  exact gR (_,_,_,_) ⟨by show OwnS _ _ _ _ _ _;rw[hnx];assumption,by show OwnS _ _ _ _ _ _;rw[hnx];exact hS⟩):p:=h
theorem vCk(h:p:=by
  refine W3 [5,0,2] ?_
  exact gR (_,_,_,_) ⟨by show OwnS _ _ _ _ _ _;rw[hnx];assumption,by show OwnS _ _ _ _ _ _;rw[hnx];exact hS2⟩):p:=h
theorem ZrL(s:RtV)(x:RtX)(now frm:Int)(va vs:Value)(b:Nat)(e8:EN)(l:List AdvV)(hx:∀y∈l,IsAv y)(hl:l.length<=1000)(hsr:∀y∈s.sr,IsSr y)(hS8:OwnS 166 38 x.sr s.sr.length (srsC s.sr) e8)(v:Value)(W:World)(hH:InW W ([[(b, .cells (stC s x now frm va vs).toArray 142 (0,0))],e8]:Row).flatten)(hL:SlAt W 37 v l.length (avsC l))(hn:∀b' o s' k c,v= .slice (some ⟨b',o,s'⟩) k c->b'∉([[(b, .cells (stC s x now frm va vs).toArray 142 (0,0))],e8]:Row).flatten.map (·.1)):Cal prog 165 [.pointer (some ⟨b,0,none⟩),v].toArray W λr w'=>∃v8 e8' ent,OwnS 100 37 r ((alwV now s.sr l).2).length (avsC ((alwV now s.sr l).2)) ent/\OwnS 166 38 v8 ((alwV now s.sr l).1).length (srsC ((alwV now s.sr l).1)) e8'/\Mem (([[(b, .cells (stC s x now frm va vs).toArray 142 (0,0))],e8]:Row).flatten.map (·.1)) W w' ([e8',ent,[(b, .cells (stC s {x with sr:=v8} now frm va vs).toArray 142 (0,0))]]:Row).flatten:=by
 obtain⟨v6,v7,v8,v9,v10,v11,v12⟩:=x
 dsimp only at hS8
 obtain⟨q,cap,rfl,_⟩:=id hL
 have hm:=hL.memB _ (λb' o s' h=>hn b' o s' _ _ (by rw[h]))
 refine Zdw (n:=50) [[(b, .cells (stC s ⟨v6,v7,v8,v9,v10,v11,v12⟩ now frm va vs).toArray 142 (0,0))],e8] hH Zbj Zbi Tryz.func165 rfl rfl rfl (gQ 19 rfl (Zba (Zao (.s (.s .z)) (ZfW 12 11 10 (ZbV hx) hm (λi(j:Value×EN×Value×EN)=>OwnS 100 37 j.1 ((alwV now s.sr (l.take i)).2).length (avsC ((alwV now s.sr (l.take i)).2)) j.2.1/\OwnS 166 38 j.2.2.1 ((alwV now s.sr (l.take i)).1).length (srsC ((alwV now s.sr (l.take i)).1)) j.2.2.2) (λj=>[(0, .pointer (some ⟨b,0,none⟩)),(5,j.1)]) (λj=>[j.2.2.2,j.2.1,[(b, .cells (stC s ⟨v6,v7,j.2.2.1,v9,v10,v11,v12⟩ now frm va vs).toArray 142 (0,0))]]) (_,[],_,_) ⟨OwnS.nilL _ _ _,hS8⟩ ?_ ?_))))
 ·rintro i ⟨u,es,u8,es8⟩ y hi hy hym bb o cs t2 fz rfl hb f1 ⟨hO,hS⟩
  have yI:=hx y hym
  dsimp only at hO hS⊢
  have hnx:=Zly (now:=now) (sr:=s.sr) hi hy
  obtain⟨st,hst⟩:∃st,st=alwV now s.sr (l.take i):=⟨_,rfl⟩
  have hsl:st.2.length<=1000:=by rw[hst];exact Nat.le_trans (ZmM _ _ _) (by rw[List.length_take,List.length_nil];omega)
  have hsi:∀y∈st.1,IsSr y:=by rw[hst];exact Zn8 hsr _ _ _ (λx hx2=>hx x (List.mem_of_mem_take hx2)) hsr
  rw[<-hst] at hO hS hnx
  have yd:=yI.1
  by_cases c1:y.own.met=65535
  ·have e1:alwS now st y=(st.1,st.2++[y]):=by unfold alwS;rw[if_pos c1]
   rw[e1] at hnx
   refine W3 [6,0,6,0,0] ?_
   refine Zac λb7=>?_
   refine W3 [0,7,0,3,0,4,0] ?_
   refine g_bs rfl rfl rfl (ZbS Qd) (λb46=>?_)
   refine ZaY 3 0 (enc:=avC) rfl rfl Qd rfl rfl (Zcy Qd) Q4 (λ_=>rfl) (λv47 es47 hO47=>?_) (Zco _)
   refine W3 [5,0,2] ?_
   exact gR (_,_,_,_) ⟨by show OwnS _ _ _ _ _ _;rw[hnx];assumption,by show OwnS _ _ _ _ _ _;rw[hnx];assumption⟩
  ·refine W3 [6,0,6,0,0] ?_
   refine Zac λb7=>?_
   refine W3 [0,7,0,3,0,1] ?_
   refine Zjj 18 50 [13,14,15,17] [(16,14)] rfl Q7 (ZaT 1 rfl (fk_v (λa w F M R r=>Zan (F.e rfl) rfl r) (ZaT 2 rfl (Zdc 3 rfl rfl rfl (ZaT 1 rfl (fk_v (λa w F M R r=>Zan (F.e rfl) rfl r) (ZaT 1 rfl (Zdc 3 rfl rfl rfl (ZaT 1 rfl (Zjk 0 rfl rfl (Zft Qd) ?_))))))))))
   refine ZaT 1 rfl (Zjk 0 rfl rfl (ZgH Qd) ?_)
   refine Zfm (κ:=Value×EN) (λ_ j=> .tuple [j.1, .int .i64 (ZaQ st.1 now y.to y.own).2].toArray) (λ_ j=>OwnS 166 38 j.1 ((ZaQ st.1 now y.to y.own).1).length (srsC ((ZaQ st.1 now y.to y.own).1)) j.2) (λ_ j=>[j.2]) (.x .any) (λf=>rfl) (λ_ _=>rfl) (λ_ _ w M=>Cal.mono (Zpo st.1 hsi u8 now y.to yd y.own w (hS.slAt M λq hq=>List.mem_flatten_of_mem Q5 hq)) λr w' h=>by obtain⟨u,ent,h1,h2,h3⟩:=h;exact⟨(u,ent),h1,h2,by simpa using h3⟩) (λ_ _ _ _=>trivial) (λ_ _ _ _ _ _=>trivial) ?_
   refine ZeB (λq=> .tuple [q.2.1, .int .i64 (ZaQ st.1 now y.to y.own).2].toArray) (.tn 2) (λ_ _=>rfl) (λ_ _ _=>⟨_,rfl,rfl⟩) (λ_ _ _ _=>trivial) (ZeB (λq=>q.2.1) (.x .any) (λ_ _=>rfl) (λ_ _ _=>trivial) (λ_ _ _ _=>trivial) (Zio 2 14 (.tail _ (.head _)) Q0 (ZeB (λq=>q.2.1) (.x .any) (λ_ _=>rfl) (λ_ _ _=>trivial) (λ_ _ _ _=>trivial) (ZfJ rfl (λi hi=>rfl) (λi hi=>⟨_,rfl,?_⟩)))))
   obtain⟨_,v8b,e8b⟩:=i
   obtain⟨_,hS2⟩:=hi
   dsimp only at hS2⊢
   by_cases c2:(ZaQ st.1 now y.to y.own).2=0
   ·have e1:alwS now st y=((ZaQ st.1 now y.to y.own).1,st.2++[y]):=by unfold alwS;rw[if_neg c1,if_pos c2]
    rw[e1] at hnx
    refine W3 [10,0,5,0,2,0,4] ?_
    refine Zwq 1 rfl rfl (ZjA yI) (g_bs rfl rfl rfl (ZbS Qd) (λb46=>?_))
    refine ZaY 4 0 (enc:=avC) rfl rfl Qd rfl rfl (Zcy Qd) Q4 (λ_=>rfl) (λv47 es47 hO47=>?_) (Zco _)
    exact vCk
   ·have e1:alwS now st y=st:=by unfold alwS;rw[if_neg c1,if_neg c2]
    rw[e1] at hnx
    refine W3 [10,0,6,0,2] ?_
    exact vBw
 ·rintro⟨u,es,u8,es8⟩ i hi ⟨hO,hS⟩
  subst hi
  dsimp only at hO hS⊢
  rw[List.take_length] at hO hS
  refine W3 [6,0,2,0,9] ?_
  exact Zae rfl rfl rfl λw M=>⟨_,_,_,hO,hS,M.sub (subO (.cons_cons _ (.cons_cons _ (.cons_cons _ (List.nil_sublist _)))))⟩
end
end Go.Proofs.YtfhkmgcalcfibaaGreat

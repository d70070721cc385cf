/- Part of the proof of laws of relyguardlaw36. No condition. -/
import Derived.Test.YtaiokglcgiemnaaGreatDoorGartAC
import Derived.RangeFuncLeaves
set_option linter.unusedVariables false
set_option linter.defProp false
set_option linter.unusedSimpArgs false
section
namespace Rg
open Go
def World.setMap (w:World) (r:Nat) (ob:Go.Obj):World:={ w with heap:=w.heap.setIfInBounds r ob }
theorem Tm {x y:ByteArray} (h:(x==y)=true):x=y:=by
 cases x;cases y;exact bz ByteArray.mk (eq_of_beq h)
section
variable {P:Program} {w:World}
theorem uh {r n:Nat} {ms:Array MapEntry} (h:w.heap[r]? =some (.map ms n)):(getObj r).run P w= .ok (.map ms n) w:=by
 simp only[getObj,Sem.run,h]
theorem LI {r n:Nat} {ms:Array MapEntry} (ob:Go.Obj) (h:w.heap[r]? =some (.map ms n)):(setObj r ob).run P w= .ok () (World.setMap w r ob):=by
 simp only[setObj,Sem.run,h];rfl
def nE:TypeDesc->Option Nat
 | .int _=>some 0
 | .bool=>some 1
 | .string=>some 2
 | _=>none
def T.kind:T->Option Nat
 | .int _ _=>some 0
 | .bool _=>some 1
 | .str _=>some 2
 | _=>none
theorem Je {t:TypeId} {k:Nat} {b:Bool} {n:Nat} {v:Value} (d:gH P t=some k):(Instr.checkKey b (n+1) t v).run P w= .ok () w:=by
 unfold gH at d;split at d<;>(try simp at d)
 all_goals(rename_i f;simp[Instr.checkKey,bi f])
end
def rR (P:Program) (t:TypeId) (b:Nat):Prop:=(∃d,P.underlying t=some d/\nE d=some b/\gH P t=some b)\/ ∃f,jG P t=some f/\b=3+j5 f
def uC (k:T) (b:Nat):Prop:=k.kind=some b\/ ∃d,k= .sl [d]/\b=3+j5 (d.map T.kindN)
theorem OO: ∀{a b:List Nat},(∀x∈a,x<=2)->(∀x∈b,x<=2)->j5 a=j5 b->a=b
 | [],[],_,_,_=>rfl
 | [],_::_,_,_,h=>by simp only[j5]at h;omega
 | _::_,[],_,_,h=>by simp only[j5]at h;omega
 | x::a,y::b,ha,hb,h=>by
   have g:=ha x af;have i:=hb y af;simp only[j5]at h;have f:x=y:=aa
   rw[f,OO (a:=a) (b:=b) (fun z d=>ha z (by simp[d])) (fun z d=>hb z (by simp[d])) aa]
theorem SC {P:Program} {t:TypeId} {k:Nat} (h:gH P t=some k):k<=2:=by
 unfold gH at h;split at h<;>simp at h<;>omega
theorem Q_ {P:Program}: ∀{g:List Field} {i:Nat} {b:List Nat},jv P i g=some b-> ∀k∈b,k<=2
 | [],i,b,h=>by simp only[jv,zA]at h;subst h;simp
 | f::g,i,b,h=>by
   simp only[jv,zC,zB]at h;obtain⟨k,l,m,j,h⟩:=h;split at h
   ·simp only[zA]at h;subst h;intro x d;rcases cj.1 d with rfl | d
    ·exact SC l
    ·exact Q_ j x d
   ·cases h
theorem Zx {P:Program} {t:TypeId} {b:List Nat} (h:jG P t=some b): ∀k∈b,k<=2:=by
 unfold jG at h;split at h
 ·split at h
  ·exact Q_ h
  ·cases h
 ·cases h
theorem ZS (d:List T): ∀k∈d.map T.kindN,k<=2:=by
 intro k b;obtain⟨t,_,rfl⟩:=cy.1 b;cases t<;>simp[T.kindN]
theorem Oc: ∀{f g:List T} {b:Bool},jX f g=some b->dB (f.map T.kindN) (f.map V.t) (g.map V.t)=some b
 | [],[],b,h=>h
 | [],_::_,b,h=>by simp[jX]at h
 | _::_,[],b,h=>by simp[jX]at h
 | t::f,u::g,b,h=>by
   simp only[jX,zC,zB,zA]at h;obtain⟨c,d,r,k,rfl⟩:=h;have l:=Oc k;simp only[aT,dB,l,zC]
   have i:mH t.kindN (.t t) (.t u)=some c:=by
    unfold yD at d;split at d
    ·split at d
     ·rename_i j;subst j;simpa[mH,T.kindN]using d
     ·cases d
    ·rename_i a b;simp only[zA]at d;subst d;simp only[mH,T.kindN,aU];rw[ByteArray.toList_eq,ByteArray.toList_eq];show some (a.data.toList==b.data.toList)=some (a.data==b.data);rw[Array.beq_toList]
    ·simp only[zA]at d;subst d;simp[mH,T.kindN]
    ·cases d
   rw[i];rfl
theorem K2: ∀{g i:List T} {vs ws:List Value},gZ g=some vs->gZ i=some ws->jX g i=some true->vs=ws
 | [],[],vs,ws,hv,hw,_=>by simp only[gZ,zA]at hv hw;rw[<- hv,<- hw]
 | [],_::_,_,_,_,_,h=>by simp[jX]at h
 | _::_,[],_,_,_,_,h=>by simp[jX]at h
 | t::g,u::i,vs,ws,hv,hw,h=>by
   simp only[jX,zC,zB,zA,zF]at h;obtain⟨c,b,r,x,l,m⟩:=h;subst l m;simp only[gZ,zB,zE]at hv hw;obtain⟨v,d,B,k,rfl⟩:=hv;obtain⟨z,f,C,j,rfl⟩:=hw;have y:=K2 k j x
   have n:v=z:=by
    unfold yD at b;split at b
    ·split at b
     ·rename_i q;simp only[zA,oZ]at b;simp only[oa,zA]at d f;rw[<- d,<- f,q,b]
     ·cases b
    ·simp only[zA]at b;have:=Tm b;simp only[oa,zA]at d f;rw[<- d,<- f,this]
    ·simp only[zA,oZ]at b;simp only[oa,zA]at d f;rw[<- d,<- f,b]
    ·cases b
   rw[n,y]
theorem tx {w:World} {A:Nat->Prop} {nm μ:Nat->Nat} {H:ae}: ∀{d:List T} {vs:List Value},gZ d=some vs->co w A nm μ H vs (d.map V.t)
 | [],vs,h=>by simp only[gZ,zA]at h;subst h;exact⟨rfl,fun i c h=>by simp at h⟩
 | t::d,vs,h=>by
   simp only[gZ,zB,zE]at h;obtain⟨v,f,l,g,rfl⟩:=h;obtain⟨j,k⟩:=tx (w:=w) (A:=A) (nm:=nm) (μ:=μ) (H:=H) g;refine⟨al j,fun i c b=> ?_⟩
   cases i with
   | zero=>
     simp only[aT,dv,zA]at b;subst b;refine⟨v,rfl,?_⟩;cases t<;>simp[oa]at f<;>subst f
     ·exact .t (.int _ _)
     ·exact .t (.bool _)
     ·exact .t (.str _)
   | succ i=>exact k i c (al b)
theorem IK {w:World} {A:Nat->Prop} {nm μ:Nat->Nat} {H:ae}: ∀{cs:List V} {vs:List Value} {d:List T},co w A nm μ H vs cs->sd cs=some d->gZ d=some vs
 | [],vs,d,hr,h=>by
   simp only[sd,zA]at h;subst h;have:vs=[]:=al hr.1
   subst this;rfl
 | c::cs,vs,d,hr,h=>by
   simp only[sd,zC,zB,zA]at h;obtain⟨t,b,n,j,rfl⟩:=h
   cases vs with
   | nil=>have:=hr.1;simp at this
   | cons v vs=>
     have m:=IK (cs:=cs) (vs:=vs) ⟨al hr.1,fun i x l=>by simpa using hr.2 (i+1) x (al l)⟩ j;obtain⟨q,g,f⟩:=hr.2 0 c rfl;simp only[dv,zA]at g;subst g
     have k:oa t=some v:=by
      unfold SE at b;split at b
      ·simp only[zA]at b;subst b;cases f with | t h=>cases h;rfl
      ·simp only[zA]at b;subst b;cases f with | t h=>cases h;rfl
      ·simp only[zA]at b;subst b;cases f with | t h=>cases h;rfl
      ·cases b
     simp only[gZ,k,m,zD,cZ]
theorem OU {w:World} {A:Nat->Prop} {nm μ:Nat->Nat} {H:ae} {x:V} {k:T} {f:Nat} {v:Value} (h:lT f x=some k) (d:aO w A nm μ H v x):eN k=some v/\uC k f:=by
 unfold lT at h;split at h
 ·split at h
  ·rename_i b;simp only[zA]at h;subst h;subst b;cases d.t_inv;exact⟨rfl,.inl rfl⟩
  ·cases h
 ·split at h
  ·rename_i b;simp only[zA]at h;subst h;subst b;cases d.t_inv;exact⟨rfl,.inl rfl⟩
  ·cases h
 ·split at h
  ·rename_i b;simp only[zA]at h;subst h;subst b;cases d.t_inv;exact⟨rfl,.inl rfl⟩
  ·cases h
 ·simp only[zB]at h;obtain⟨j,g,h⟩:=h;split at h
  ·rename_i b;simp only[zA]at h;subst h;obtain⟨xs,rfl,i⟩:=d.agg_inv;have:=IK i g;exact⟨by simp[eN,this],.inr ⟨j,rfl,b⟩⟩
  ·cases h
 ·cases h
theorem wx {d:TypeDesc} {v u:Value} {x y:T} {b:Bool} (i:eN x=some v) (h:eN y=some u) (f:eX x y=some b)
 {k:Nat} (g:nE d=some k) (j:x.kind=some k):Instr.sameNow d v u=some b:=by
 unfold eX at f;split at f
 ·simp only[eN,zA]at i h;subst i h;split at f
  ·rename_i l;simp only[zA]at f;subst l;cases d<;>simp[nE]at g<;>subst g<;>simp[T.kind]at j
   simp[Instr.sameNow,f]
  ·simp at f
 ·simp only[eN,zA]at i h;subst i h;simp only[zA]at f;cases d<;>simp[nE]at g<;>subst g<;>simp[T.kind]at j
  simp[Instr.sameNow,f]
 ·simp only[eN,zA]at i h;subst i h;simp only[zA]at f;cases d<;>simp[nE]at g<;>subst g<;>simp[T.kind]at j
  simp[Instr.sameNow,f]
 ·simp[T.kind]at j
 ·simp at f
theorem Ow: ∀{d:List T} {vs:List Value},gZ d=some vs->((vs.zip vs).all fun(x,y)=>Instr.sameBits 9999 x y)=true
 | [],vs,h=>by simp only[gZ,zA]at h;subst h;rfl
 | t::d,vs,h=>by
   simp only[gZ,zB,zE]at h;obtain⟨v,b,j,f,rfl⟩:=h;have i:=Ow f;simp only[wk,ey,i,gv];have g: ∀s:ByteArray,(s==s)=true:=fun s=>by show(s.data==s.data)=true;simp
   cases t<;>simp[oa]at b<;>subst b<;>simp[Instr.sameBits,g]
theorem ZU {f:List T} {k:T} {b:Bool} (h:eX (.sl [f]) k=some b): ∃d,k= .sl [d]/\jX f d=some b:=by
 cases k with
 | sl es=>
   match es,h with
   | [],h=>simp[eX]at h
   | [d],h=>exact⟨d,rfl,h⟩
   | _::_::_,h=>simp[eX]at h
 | _=>simp[eX]at h
theorem K8 {v u:Value} {x y:T} (f:eN x=some v) (d:eN y=some u) (b:eX x y=some true):Instr.sameBits 10000 u v=true:=by
 unfold eX at b;split at b
 ·simp only[eN,zA]at f d;subst f d;split at b
  ·rename_i j;simp only[zA,oZ]at b;subst j;subst b;simp[Instr.sameBits]
  ·simp at b
 ·simp only[eN,zA]at f d;subst f d;simp only[zA]at b;have:=Tm b;subst this;simpa[Instr.sameBits]using b
 ·simp only[eN,zA]at f d;subst f d;simp only[zA,oZ]at b;subst b;simp[Instr.sameBits]
 ·simp only[eN,zE]at f d;obtain⟨vs,g,rfl⟩:=f;obtain⟨ws,h,rfl⟩:=d;have:=K2 g h b;subst this;have i:=Ow g;simp only[Instr.sameBits,beq_self_eq_true,eA];simpa using i
 ·simp at b
def mY (w:World) (A:Nat->Prop) (nm μ:Nat->Nat) (H:ae) (ms:List MapEntry) (es:List (T×V)):Prop:=
 ms.length=es.length/\ ∀(i:Nat) (k:T) (x:V),es[i]? =some (k,x)-> ∃m,ms[i]? =some m/\eN k=some m.key/\cu w A nm μ H m.val x
section
variable {P:Program} {w:World}
theorem VU {t:TypeId} {g:List Nat} {xs ys:Array Value} {as bs:List V} {r:Bool} {A:Nat->Prop} {nm μ:Nat->Nat} {H:ae} (b:jG P t=some g)
 (l:co w A nm μ H xs.toList as) (m:co w A nm μ H ys.toList bs) (k:dB g as bs=some r):(Op.equal t (.agg xs) (.agg ys)).run P w= .ok r w:=by
 unfold jG at b;split at b
 ·rename_i fields d;split at b
  ·rename_i j;have f:P.fieldsOf t=fields:=by simp[Program.fieldsOf,d]
   have h:=J7 (P:=P) (i:=0) 9998 b l m (al k);have:=run_equalIn_struct (P:=P) w 9999 t xs ys (by rw[f];exact d) j.1;show(Op.equalIn 10000 t (.agg xs) (.agg ys)).run P w= .ok r w;rw[this,f];exact h
  ·cases b
 ·cases b
theorem Hu: ∀{d:List Field} {i:Nat} {b:List Nat},jv P i d=some b->b.length=d.length
 | [],i,b,h=>by simp only[jv,zA]at h;subst h;rfl
 | f::d,i,b,h=>by
   simp only[jv,zC,zB]at h;obtain⟨k,l,j,g,h⟩:=h;split at h
   ·simp only[zA]at h;subst h;simp[Hu g]
   ·cases h
theorem Mr {f:List Nat} {x:T} {v:Value} {t:TypeId} (hp:jG P t=some f) (d:uC x (3+j5 f)) (g:eN x=some v): ∃b vs,x= .sl [b]/\f=b.map T.kindN/\gZ b=some vs/\v= .agg vs.toArray:=by
 rcases d with d | ⟨b,rfl,i⟩
 ·exfalso;cases x<;>simp[T.kind]at d<;>omega
 ·simp only[eN,zE]at g;obtain⟨vs,h,rfl⟩:=g;exact⟨b,vs,rfl,OO (Zx hp) (ZS b) aa,h,rfl⟩
theorem JK {x:TypeId} {r:Nat} {k:T} {v:Value} (b:Bool) (R:rR P x r) (l:uC k r) (q:eN k=some v):(Instr.checkKey b 10000 x v).run P w= .ok () w:=by
 rcases R with⟨d,m,hd,y⟩ | ⟨t,hp,rfl⟩
 ·exact Je (n:=9999) y
 ·obtain⟨ts,vs,rfl,h,B,rfl⟩:=Mr hp l q
  have z:vs.length=t.length:=by
   have:=(tx (w:=w) (A:=fun _=>True) (nm:=id) (μ:=id) (H:=fun _=>none) B).1;rw[h];simpa using this
  unfold jG at hp;split at hp
  ·rename_i fields D;split at hp
   ·have j:=Hu hp;rw[show(10000:Nat)=9999+1 from rfl,Instr.checkKey];simp only[Sem.run_bind,bi D,Result.andThen_ok];rw[<- Array.forIn_toList];have g:0+fields.toList.length<=vs.toArray.size:=by simp at j⊢;omega
    clear j z h l q
    generalize fields.toList=L at hp g
    generalize(0:Nat)=i at hp g
    induction L generalizing i t with
    | nil=>simp
    | cons f L S=>
      simp only[jv,zC,zB]at hp;obtain⟨k,J,V,G,hp⟩:=hp;split at hp
      ·rename_i C;obtain⟨M,Q,E⟩:=C;obtain⟨U,X,Y,Z,K⟩:=fE E;simp only[d_]at g;obtain⟨u,m⟩: ∃u,vs.toArray[i]? =some u:=⟨_,iA aa⟩
       have F:(part f.type vs.toArray f.offset).run P w= .ok u w:=by
        simp only[part,Sem.run_bind,K w,Result.andThen_ok,Q];simp only[m];rfl
       have W:(Instr.checkKey b 9999 f.type u).run P w= .ok () w:=Je (n:=9998) J;simp only[List.forIn_cons,Sem.run_bind,M,ne_eq,sN,aU,Result.andThen_ok,F,W,Sem.run_pure];exact S _ _ G aa
      ·cases hp
   ·cases hp
  ·cases hp
theorem Sz {A:Nat->Prop} {nm μ:Nat->Nat} {H:ae} {d:TypeDesc} {v:Value} {x:T} (f:eN x=some v) {D:Nat} (l:nE d=some D) (t:x.kind=some D):
 ∀(es:List (T×V)) (ms:List MapEntry) (j:Nat) (r:Option V),mY w A nm μ H ms es->dK x es=some r->
  match r with
  | none=>Instr.findNow d v ms j=some none/\ ∀u,da x u es=some (es++[(x,u)])
  | some q=> ∃i m,Instr.findNow d v ms j=some (some (j+i,m.val))/\ms[i]? =some m/\cu w A nm μ H m.val q/\Instr.sameBits 10000 m.key v=true/\ ∀u,da x u es=some (es.set i (x,u))
 | [],ms,j,r,h,hf=>by
   simp only[dK,zA]at hf;subst hf;obtain⟨g,_⟩:=h;have:ms=[]:=al g
   subst this
   exact⟨rfl,fun u=>rfl⟩
 | (k,y)::es,ms,j,r,h,hf=>by
   obtain⟨g,C⟩:=h
   cases ms with
   | nil=>simp at g
   | cons m ms=>
     obtain⟨E,B,n,F⟩:=C 0 k y rfl;simp only[dv,zA]at B;subst B;simp only[dK]at hf;split at hf
     ·simp at hf
     ·rename_i b;simp only[zA]at hf;subst hf;exact⟨0,m,by simp[Instr.findNow,wx f n b l t],rfl,F,K8 f n b,fun u=>by simp[da,b]⟩
     ·rename_i b;have G:mY w A nm μ H ms es:=⟨al g,fun i R S hi=>C (i+1) R S (al hi)⟩
      have z:=Sz f l t es ms (j+1) r G hf
      cases r with
      | none=>exact⟨by simp[Instr.findNow,wx f n b l t,z.1],fun u=>by simp[da,b,z.2 u]⟩
      | some q=>
        obtain⟨i,E,J,K,L,M,Q⟩:=z;refine⟨i+1,E,?_,al K,L,M,fun u=>by simp[da,b,Q u]⟩;simp only[Instr.findNow,wx f n b l t,J]
        congr 3;omega
theorem Sm {A:Nat->Prop} {nm μ:Nat->Nat} {H:ae} {l:TypeId} {f:List T} {vs:List Value} (hp:jG P l=some (f.map T.kindN)) (x:gZ f=some vs):
 ∀(es:List (T×V)) (ms:List MapEntry) (j:Nat) (r:Option V),mY w A nm μ H ms es->dK (.sl [f]) es=some r->
  match r with
  | none=>(Instr.findAsking l (.agg vs.toArray) ms j).run P w= .ok none w/\ ∀u,da (.sl [f]) u es=some (es++[(.sl [f],u)])
  | some q=> ∃i m,(Instr.findAsking l (.agg vs.toArray) ms j).run P w= .ok (some (j+i,m.val)) w/\ms[i]? =some m/\cu w A nm μ H m.val q/\Instr.sameBits 10000 m.key (.agg vs.toArray)=true/\ ∀u,da (.sl [f]) u es=some (es.set i (.sl [f],u))
 | [],ms,j,r,h,hf=>by
   simp only[dK,zA]at hf;subst hf;obtain⟨g,_⟩:=h;have:ms=[]:=al g
   subst this
   exact⟨by simp[Instr.findAsking],fun u=>rfl⟩
 | (k,y)::es,ms,j,r,h,hf=>by
   obtain⟨g,C⟩:=h
   cases ms with
   | nil=>simp at g
   | cons m ms=>
     obtain⟨D,B,v,F⟩:=C 0 k y rfl;simp only[dv,zA]at B;subst B
     have n: ∀b,eX (.sl [f]) k=some b->(Op.equal l (.agg vs.toArray) m.key).run P w= .ok b w:=fun b t=>by
      obtain⟨W,rfl,t⟩:=ZU t;simp only[eN,zE]at v;obtain⟨ws,J,E⟩:=v;rw[<- E];exact VU (A:=A) (nm:=nm) (μ:=μ) (H:=H) hp (al (tx x)) (al (tx J)) (Oc t)
     simp only[dK]at hf;split at hf
     ·simp at hf
     ·rename_i d;simp only[zA]at hf;subst hf;exact⟨0,m,by simp[Instr.findAsking,n _ d],rfl,F,K8 (by simp[eN,x]) v d,fun u=>by simp[da,d]⟩
     ·rename_i d;have G:mY w A nm μ H ms es:=⟨al g,fun i S U hi=>C (i+1) S U (al hi)⟩
      have z:=Sm hp x es ms (j+1) r G hf
      cases r with
      | none=>exact⟨by simp[Instr.findAsking,n _ d,z.1],fun u=>by simp[da,d,z.2 u]⟩
      | some q=>
        obtain⟨i,D,K,L,M,Q,R⟩:=z;refine⟨i+1,D,?_,al L,M,Q,fun u=>by simp[da,d,R u]⟩;simp only[Instr.findAsking,Sem.run_bind,n _ d,Result.andThen_ok,zG,aX,K];have:j+1+i=j+(i+1):=aa
        rw[this]
theorem RY {A:Nat->Prop} {nm μ:Nat->Nat} {H:ae} {b:TypeId} {y:Nat} {v:Value} {x:T} (M:rR P b y) (g:uC x y) (D:eN x=some v) {es:List (T×V)} {ms:List MapEntry} {r:Option V} (z:mY w A nm μ H ms es) (B:dK x es=some r):
 match r with
 | none=>(Instr.findKey b v ms).run P w= .ok none w/\ ∀u,da x u es=some (es++[(x,u)])
 | some q=> ∃i m,(Instr.findKey b v ms).run P w= .ok (some (i,m.val)) w/\ms[i]? =some m/\cu w A nm μ H m.val q/\Instr.sameBits 10000 m.key v=true/\ ∀u,da x u es=some (es.set i (x,u)):=by
 rcases M with⟨d,C,L,E⟩ | ⟨S,hp,rfl⟩
 ·have K:x.kind=some y:=by
   rcases g with g | ⟨Q,rfl,R⟩
   ·exact g
   ·have:=SC E;omega
  have h:=Sz (w:=w) (A:=A) (nm:=nm) (μ:=μ) (H:=H) D L K es ms 0 r z B
  cases r with
  | none=>exact⟨by simp[Instr.findKey,bi C,h.1],h.2⟩
  | some q=>
    obtain⟨i,m,j,k,l,n,t⟩:=h;exact⟨i,m,by simp[Instr.findKey,bi C,j],k,l,n,t⟩
 ·obtain⟨Q,vs,rfl,rfl,G,rfl⟩:=Mr hp g D
  have F: ∃fields,P.underlying b=some (.struct fields):=by
   unfold jG at hp;split at hp
   ·rename_i fields f;exact⟨fields,f⟩
   ·cases hp
  obtain⟨fields,f⟩:=F
  have J:(Instr.findKey b (.agg vs.toArray) ms).run P w=(Instr.findAsking b (.agg vs.toArray) ms).run P w:=by
   cases ms with
   | nil=>simp[Instr.findKey,bi f,Instr.findNow,Instr.findAsking]
   | cons m ms=>simp[Instr.findKey,bi f,Instr.findNow,Instr.sameNow]
  have h:=Sm (w:=w) (A:=A) (nm:=nm) (μ:=μ) (H:=H) hp G es ms 0 r z B;rw[J]
  cases r with
  | none=>exact h
  | some q=>
    obtain⟨i,m,j,k,l,n,t⟩:=h;exact⟨i,m,by rw[j];simp,k,l,n,t⟩
end
theorem Jy {k:T} {v:V}: ∀{es:List (T×V)},dK k es=none->da k v es=none
 | [],h=>by simp[dK]at h
 | (k',v')::es,h=>by
   simp only[dK]at h;simp only[da]
   cases d:eX k k' with
   | none=>rfl
   | some b=>
     rw[d]at h
     cases b with
     | true=>simp at h
     | false=>simp only at h⊢;rw[Jy h];rfl
section
variable {P:Program} {N:Nam} {I:Inv} {c:Ctx} {ns p:Nat} {A:Nat->Prop} {μ lam:Nat->Nat} {s:St} {a:Act} {w:World} {e:Eff} {o:Oper}
theorem Sr (R:Rel N c ns A μ lam s a w) {t y g:TypeId} {h:Option Operand} (u:P.underlying t=some (.map y g)) (l: ∀x,h=some x-> ∃k n,a.eval x= .int k n) (d:o.op= .makeMap t h)
 (i: ∀x,o.dst=some x->x<ns) (j:s.free o.dst e) (m:s.heap (s.bas+p)=none) (q:s.bas+p<s.nxt) (b:ao N.G p s .mkmap=some e):eT P N c ns o a w (s.apply o.dst e):=by
 simp only[ao,zA]at b;subst b;have f:=(R.alloc (.map #[] 0)).adoptH (o:=.map []) (r:=w.heap.size) m q R.orphan_new ⟨#[],0,qj w _,rfl,af⟩ af;refine⟨.map (some w.heap.size),_,A,_,lam,.inl ?_,f.put o.dst { val:=.mm (s.bas+p) } _ i j rfl rfl rfl ?_ af⟩
 ·cases h with
  | none=>simp[execOp,d,Instr.makeMap]
  | some x=>
    obtain⟨k,n,v⟩:=l x rfl;simp[execOp,d,Instr.makeMap,bi u,v,asInt,asIntOf]
 ·have:=RepC.mm (w:=w.alloc (.map #[] 0)) (A:=A) (nm:=N.nm) (μ:=upd μ (s.bas+p) w.heap.size) (H:=upd s.heap (s.bas+p) (some (.map []))) (s.bas+p) [] af;simpa using this.toV
theorem YL {t:TypeId} {z:V} {H:ae} (h:uT P t=some z): ∃v,(∀w,(zeroValue t).run P w= .ok v w)/\ ∀w,cu w A N.nm μ H v z:=by
 simp only[uT,zC,zB]at h;obtain⟨i,hi,v,g,h⟩:=h;refine⟨v,fun w=>by simp[zeroValue,se hi,g],fun w=> ?_⟩;unfold sy at h;split at h
 ·simp only[zE]at h;obtain⟨cs,b,rfl⟩:=h;obtain⟨d,f⟩:=fU b;exact⟨_,rfl,d,fun i c hi=>let⟨x,hx,hf⟩:=f i c hi;⟨x,hx,ry hf⟩⟩
 ·exact(ry h).toV1
theorem aO.mm_inv {v:Value} {k:Nat} {es:List (T×V)} {H:ae} {nm:Nat->Nat} (d:H k=some (.map es)) (h:aO w A nm μ H v (.mm k)):v= .map (some (μ k)):=by
 cases(h:RepC w A nm μ H v (.mm k))with
 | mm _ _ _=>rfl
 | dmm _ b _=>rw[d]at b;simp at b
theorem Z5 (U:I.Ok N) (R:Rel N c ns A μ lam s a w) {t E S:TypeId} {Y:Nat} {x y:Operand} {Z y':Opd} {z:V} {v:Bool} (hx:opd I x=some Z) (hy:opd I y=some y')
 (u:P.underlying t=some (.map E S)) (M:rR P E Y) (hz:uT P S=some z) (g:ao N.G p s (.lookup Y z v Z y')=some e):
 dq N A μ s w ((Instr.lookup t (a.eval x) (a.eval y) v).run P w) e:=by
 simp only[ao,zC,zB]at g;obtain⟨kv,Eh,key,Ck,mv,FU,es,d,r,hr,g⟩:=g;obtain⟨B,G⟩:=OU Ck (bx U R hy Eh);have C:=bx U R hx FU;obtain⟨zv,Q,P0⟩:=YL (A:=A) (N:=N) (μ:=μ) (H:=s.heap) hz
 generalize MQ:a.eval x=F at C
 generalize IR:a.eval y=vy at B
 have ER: ∃ms:Array MapEntry,mY w A N.nm μ s.heap ms.toList es/\((F= .map none/\ms= #[])\/ ∃r n,F= .map (some r)/\w.heap[r]? =some (.map ms n)):=by
  split at d
  ·simp only[zA]at d;subst d;have:F= .map none:=by cases C.t_inv;rfl
   exact⟨#[],⟨rfl,af⟩,.inl ⟨this,rfl⟩⟩
  ·split at d
   ·rename_i j es' W;simp only[zA]at d;subst d;have hv:=aO.mm_inv W C;obtain⟨ms,n,f,T,D⟩:=R.heap _ _ W;refine⟨ms,⟨al T,fun i k x hi=> ?_⟩,.inr ⟨_,n,hv,f⟩⟩;obtain⟨m,hm,CP⟩:=D i k x hi;exact⟨m,al hm,CP⟩
   ·simp at d
  ·simp at d
 obtain⟨ms,FY,L⟩:=ER;have K:=RY (P:=P) (w:=w) M G B FY hr;have l:(Instr.checkKey ms.isEmpty 10000 E vy).run P w= .ok () w:=JK _ M G B
 have J: ∀(q:Value) (b:Bool),cu w A N.nm μ s.heap q (r.getD z)->b=r.isSome->aO w A N.nm μ s.heap (if v then .tuple #[q,.bool b]else q) e.val/\Plain e:=by
  intro q b X hb;subst hb
  cases v with
  | false=>
    simp only[zG,aX,zA]at g;subst g
    exact⟨X.toV,rfl,rfl,rfl,rfl⟩
  | true=>
    simp only[aU,zA]at g;subst g;refine⟨⟨_,rfl,rfl,fun i c hi=> ?_⟩,rfl,rfl,rfl,rfl⟩
    match i,hi with
    | 0,hi=>simp at hi;subst hi;exact⟨q,rfl,X⟩
    | 1,hi=>simp at hi;subst hi;exact⟨.bool r.isSome,rfl,(RepC.t (.bool _)).toV1⟩
    | i+2,hi=>simp at hi
 cases r with
 | none=>
   have h:=K.1;refine⟨_,?_,J zv false (P0 w) rfl⟩;rcases L with⟨rfl,rfl⟩ | ⟨r,n,rfl,f⟩
   ·simp only[Instr.lookup,Sem.run_bind,bi u,Result.andThen_ok,Sem.run_pure,l,h,Q]
   ·simp only[Instr.lookup,Sem.run_bind,bi u,Result.andThen_ok,Sem.run_pure,uh f,l,h,Q]
 | some q=>
   obtain⟨i,m,f,T,D,h4,h5⟩:=K;have h:=f;refine⟨_,?_,J m.val true D rfl⟩;rcases L with⟨rfl,rfl⟩ | ⟨r,n,rfl,f⟩
   ·simp only[Instr.lookup,Sem.run_bind,bi u,Result.andThen_ok,Sem.run_pure,l,h]
   ·simp only[Instr.lookup,Sem.run_bind,bi u,Result.andThen_ok,Sem.run_pure,uh f,l,h]
theorem QL (X:I.Ok N) (R:Rel N c ns A μ lam s a w) {t Y et:TypeId} {kd:Nat} {x y v:Operand} {x' y' v':Opd} (hx:opd I x=some x') (hy:opd I y=some y') (hv:opd I v=some v')
 (hu:P.underlying t=some (.map Y et)) (Lq:rR P Y kd) (M:o.op= .mapUpdate t x y v\/o.op= .insert t x y v)
 (f:ao N.G p s (.mapupd kd x' y' v')=some e) (Bt:o.dst=none):eT P N c ns o a w (s.apply o.dst e):=by
 simp only[ao,zC,zB]at f;obtain⟨kv,Eh,key,Ck,u,Es,mv,FU,f⟩:=f;obtain⟨G,Z⟩:=OU Ck (bx X R hy Eh);have Ju:=bx X R hx FU;have E5:=bx X R hv Es;split at f
 ·rename_i j;split at f
  ·rename_i es L;simp only[zB]at f;obtain⟨h,J,f⟩:=f;split at f
   ·rename_i Nu;simp only[zA]at f;subst f
    have AX:cu w A N.nm μ s.heap (a.eval v) u:=by
     cases u<;>first | exact E5 | simp[V.one]at Nu
    have MQ:=aO.mm_inv L Ju;obtain⟨ms,n,C,K,h3⟩:=R.heap _ _ L
    have T:mY w A N.nm μ s.heap ms.toList es:=⟨al K,fun i k x hi=>by
     obtain⟨m,D,Q⟩:=h3 i k x hi
     exact⟨m,al D,Q⟩⟩
    have Ad:μ j<w.heap.size:=R.lt_live L rfl
    have DE: ∃r,dK key es=some r:=by
     cases hq:dK key es with
     | some r=>exact⟨r,rfl⟩
     | none=>rw[Jy hq]at J;simp at J
    obtain⟨r,l⟩:=DE;have FG: ∀b,(Instr.checkKey b 10000 Y (a.eval y)).run P w= .ok () w:=fun b=>JK b Lq Z G
    have S:=RY (P:=P) (w:=w) Lq Z G T l
    have Cf: ∀(d:Array MapEntry) (z:Nat),(Instr.mapUpdate t (a.eval x) (a.eval y) (a.eval v)).run P w= .ok () (World.setMap w (μ j) (.map d z))->
     (∀F,Evo w A μ s.heap (World.setMap w (μ j) (.map d z)) A μ F->mY (World.setMap w (μ j) (.map d z)) A N.nm μ F d.toList h)->eT P N c ns o a w (s.apply o.dst { hp:=[(j,.map h)] }):=by
     intro d z Am Ae
     have R1:=R.changeH (o':= .map h) (w':=World.setMap w (μ j) (.map d z)) L (by simp[O.le]) rfl af af rfl (by simp[World.setMap])
      (fun r l=>by simp only[World.setMap,AW];rw[ac (bX l)])
      (fun r x l=>by
        by_cases OW:r=μ j
        ·subst OW;simp[World.shape?,C]at l
        ·simp only[World.shape?,World.setMap,AW]at l⊢
         rw[ac (bX OW)];exact l)
      (fun E=>by
        obtain⟨B,W⟩:=Ae _ E;refine⟨d,z,by simp[World.setMap,Ad],al B,fun i k x hi=> ?_⟩;obtain⟨m,D,Q⟩:=W i k x hi
        exact⟨m,al D,Q⟩)
     refine⟨undef,World.setMap w (μ j) (.map d z),A,μ,lam,.inr ⟨?_,rfl⟩,?_⟩
     ·rcases M with M | M<;>simp only[execOp,M,Sem.run_bind,Am,Result.andThen_ok,Sem.run_pure]
     ·rw[Bt];exact R1
    cases r with
    | none=>
      have U:=S.1;have g:=S.2 u;rw[J]at g;simp only[zA]at g;subst g;refine Cf (ms.push { key:=a.eval y,val:=a.eval v,born:=n }) (n+1) ?_ ?_
      ·simp only[Instr.mapUpdate,Sem.run_bind,bi hu,Result.andThen_ok,MQ,uh C,FG,U,LI _ C]
      ·intro F E;refine⟨by simp[K],fun i k x hi=> ?_⟩;rw[mK]at hi;split at hi
       ·rename_i AV;obtain⟨m,D,B,g3⟩:=T.2 i k x hi;have:i<ms.size:=aa
        refine⟨m,by rw[Array.toList_push,bU (al this)];exact D,B,g3.evo E⟩
       ·rename_i AV
        have:i=es.length:=by
         have:=(zH.1 hi).1;simp at this;omega
        subst this;simp at hi;obtain⟨rfl,rfl⟩:=hi
        exact⟨{ key:=a.eval y,val:=a.eval v,born:=n },by simp[<- K],G,AX.evo E⟩
    | some q=>
      obtain⟨i,m,B,W,g3,g4,g5⟩:=S;have U:=B;have g:=g5 u;rw[J]at g;simp only[zA]at g;subst g;have Pc:ms[i]? =some m:=al W
      refine Cf (ms.modify i fun e=>{ e with key:=a.eval y,val:=a.eval v }) n ?_ ?_
      ·simp only[Instr.mapUpdate,Sem.run_bind,bi hu,Result.andThen_ok,MQ,uh C,FG,U,LI _ C,Pc,cZ,gx,Instr.keyThatStays,g4,aU,Sem.run_pure]
      ·intro F E;refine⟨by simp[K],fun i' k x hi=> ?_⟩;rcases sp hi with⟨rfl,ND⟩ | ⟨Az,hi⟩
       ·simp only[dx]at ND;obtain⟨rfl,rfl⟩:=ND;exact⟨{ m with key:=a.eval y,val:=a.eval v },by simp[Pc],G,AX.evo E⟩
       ·obtain⟨m',Fm,j1,j3⟩:=T.2 i' k x hi;exact⟨m',by simpa[vx,bX Az]using Fm,j1,j3.evo E⟩
   ·simp at f
  ·simp at f
 ·simp at f
end
def sC (H:ae) (k:Nat):Prop:= ∃b rs f,H k=some (.rows b rs f)
section
variable {w:World} {A:Nat->Prop} {N:Nam} {μ:Nat->Nat} {H:Nat->Option O}
theorem IN {d k:Nat} {m:Nat} {rs:List (List V)} {b:Bool} (h:H k=some (.rows m rs b)) {i j:Nat} {row:List V} {x:V} (f:rs[i]? =some row) (g:row[j]? =some x) {q:Nat} (l:q∈cn H d x):
 q∈(match H k with | some (.rows _ rs _)=>rs.flatMap (fun(row:List V)=>row.flatMap (cn H d)) | _=>([]:List Nat)):=by
 rw[h];exact dk.2 ⟨row,zL f,dk.2 ⟨x,zL g,l⟩⟩
theorem tY (hH: ∀k o,H k=some o->i7 w A N μ H (μ k) o): ∀(d:Nat) (x:V) (t:T) (v:Value),toT H d x=some t->RepC w A N.nm μ H v x->
 RepT w (fun r=>A r\/ ∃k∈cn H d x,sC H k/\μ k=r) N.nm v t:=by
 intro d
 induction d with
 | zero=>
   intro x t v g B
   cases x with
   | t y=>
     simp only[toT,zA]at g;subst g
     exact(aO.t_inv (w:=w) B.toV).norm.mono (fun _ _=>rfl) (fun _ h=> .inl h)
   | _=>simp[toT]at g
 | succ d W=>
   intro x t v g B
   cases x with
   | t y=>
     simp only[toT,zA]at g;subst g
     exact(aO.t_inv (w:=w) B.toV).norm.mono (fun _ _=>rfl) (fun _ h=> .inl h)
   | ms k i len=>
     simp only[toT]at g;split at g
     ·rename_i J rs Y D;simp only[zC,zB,zA]at g;obtain⟨r,S,es,Ey,rfl⟩:=g;obtain⟨AO,X⟩:=fU Ey
      cases B with
      | ms _ _ _ cap sz' rs' frz' ad C AK hc ha=>
        rw[D]at C;cases C;unfold rd at S;rw[ah AK]at S;simp only[zA]at S;subst S;have Ac:es.length=len:=by rw[<- AO];simp;omega
        rcases nh len with Z | Z
        ·subst Z;have:es=[]:=lx.1 Ac;subst this;exact .sl0 _ _
        ·obtain⟨rfl,e0,n0,FT,Cg⟩:=ha.resolve_left aa;obtain⟨cc,e1,z,G,K,h3,h4,h5⟩:=hH k _ D;subst Ac
         have F: ∀(m:Nat) (e:List T),es[m]? =some e-> ∃row,rs[i+m]? =some row/\row.length=e.length/\ ∀(j:Nat) (y:T),e[j]? =some y-> ∃x,row[j]? =some x/\toT H d x=some y:=by
          intro m e L;obtain⟨row,F,hm⟩:=X m e L;obtain⟨m1,m2⟩:=fU hm;rw[zO]at F;split at F
          ·rw[fx]at F;exact⟨row,F,m1,m2⟩
          ·simp at F
         have R: ∀(m:Nat) (e:List T) (j:Nat) (y:T),es[m]? =some e->e[j]? =some y-> ∃u x,w.cell? ⟨μ k,i*J+m*J+j,none⟩=some u/\RepC w A N.nm μ H u x/\toT H d x=some y/\
          (∀q∈cn H d x,q∈cn H (d+1) (.ms k i es.length)):=by
          intro m e j y L l;obtain⟨row,U,g2,g3⟩:=F m e L;obtain⟨x,n,g⟩:=g3 j y l;obtain⟨u,E,B⟩:=h5 _ row j x U n;refine⟨u,x,?_,B,g,fun q Q=> ?_⟩
          ·rw[fA]at E;simp[World.cell?,G,E]
          ·simp only[cn];exact gt _ (IN D U n Q)
         refine .sl (μ k) (i*J) cap J es (fun m j=>(w.cell? ⟨μ k,i*J+m*J+j,none⟩).getD undef) Z aa (.inr ⟨k,by simp[cn],⟨_,_,_,D⟩,rfl⟩) ?_ ?_ ?_
         ·intro m e L;obtain⟨row,U,g2,g3⟩:=F m e L;rw[<- g2];exact h4 _ row U
         ·intro m e j y L l;obtain⟨u,x,E,_⟩:=R m e j y L l;rw[E];rfl
         ·intro m e j y L l;obtain⟨u,x,E,B,g,Q⟩:=R m e j y L l;rw[E]
          exact(W x y u g B).mono (fun _ _=>rfl) (fun r h=>h.elim .inl fun⟨q,G,K⟩=> .inr ⟨q,Q q G,K⟩)
      | dms _ _ _ C=>rw[D]at C;cases C
     ·simp at g
   | mp k i M=>
     simp only[toT]at g;split at g
     ·rename_i J rs Y D;simp only[zC,zB,zA]at g;obtain⟨row,F,cs,AL,rfl⟩:=g;obtain⟨AO,X⟩:=fU AL
      cases B with
      | mp _ _ _ sz' rs' frz' C AK=>
        rw[D]at C;cases C;obtain⟨cc,e1,z,G,K,h3,h4,h5⟩:=hH k _ D
        have R: ∀(j:Nat) (y:T),cs[j]? =some y-> ∃u x,w.cell? ⟨μ k,i*J+M+j,none⟩=some u/\RepC w A N.nm μ H u x/\toT H d x=some y/\
         (∀q∈cn H d x,q∈cn H (d+1) (.mp k i M)):=by
         intro j y l;obtain⟨x,n,g⟩:=X j y l;rw[fx]at n;obtain⟨u,E,B⟩:=h5 _ row _ x F n;refine⟨u,x,?_,B,g,fun q Q=> ?_⟩
         ·rw[nr];simp[World.cell?,G,E]
         ·simp only[cn];exact gt _ (IN D F n Q)
        refine .ip (μ k) (i*J+M) cs (fun j=>(w.cell? ⟨μ k,i*J+M+j,none⟩).getD undef) (.inr ⟨k,by simp[cn],⟨_,_,_,D⟩,rfl⟩) ?_ ?_
        ·intro j y l;obtain⟨u,x,E,_⟩:=R j y l;rw[E];rfl
        ·intro j y l;obtain⟨u,x,E,B,g,Q⟩:=R j y l;rw[E]
         exact(W x y u g B).mono (fun _ _=>rfl) (fun r h=>h.elim .inl fun⟨q,G,K⟩=> .inr ⟨q,Q q G,K⟩)
      | mb _ _ C=>rw[D]at C;cases C
      | dmp _ _ _ C=>rw[D]at C;cases C
     ·simp at g
   | fn f a b=>
     simp only[toT,zC,zB,zA]at g;obtain⟨a',Gd,b',Bf,rfl⟩:=g;obtain⟨p1,p2⟩:=fU Gd;obtain⟨q1,q2⟩:=fU Bf
     cases B with
     | fn _ _ _ va vb fa fb ha hb Bu Cu Di Eb=>
       refine .fn f a' b' va vb fa fb aa aa ?_ ?_ ?_ ?_
       ·intro j y l;obtain⟨x,n,_⟩:=p2 j y l;exact Bu j x n
       ·intro j y l;obtain⟨x,n,g⟩:=p2 j y l;refine(W x y _ g (Cu j x n)).mono (fun _ _=>rfl) (fun r h=>h.elim .inl fun⟨q,G,K⟩=> .inr ⟨q,?_,K⟩);simp only[cn];exact ii _ (dk.2 ⟨x,zL n,G⟩)
       ·intro j y l;obtain⟨x,n,_⟩:=q2 j y l;exact Di j x n
       ·intro j y l;obtain⟨x,n,g⟩:=q2 j y l;refine(W x y _ g (Eb j x n)).mono (fun _ _=>rfl) (fun r h=>h.elim .inl fun⟨q,G,K⟩=> .inr ⟨q,?_,K⟩);simp only[cn]
        exact ta _ (dk.2 ⟨x,zL n,G⟩)
   | mm k=>
     simp only[toT]at g;split at g
     ·simp only[zA]at g;subst g;exact .opq _ B.one
     ·cases g
   | yl k=>simp[toT]at g
   | agg cs=>simp[toT]at g
   | tup cs=>simp[toT]at g
   | undef=>simp[toT]at g
   | lb=>simp[toT]at g
theorem xx (B: ∀k o,H k=some o->i7 w A N μ H (μ k) o) {x y:V} {v:Value} (d:toT1 H x=some y) (j:aO w A N.nm μ H v x) (μ':Nat->Nat) (G:ae):
 cu w (fun r=>A r\/ ∃k∈b_ H x,sC H k/\μ k=r) N.nm μ' G v y:=by
 have g: ∀{x:V} {t:T},toT H 1000 x=some t->RepC w A N.nm μ H v x->RepT w (fun r=>A r\/ ∃k∈cn H 1000 x,sC H k/\μ k=r) N.nm v t:=fun m n=>tY B 1000 _ _ _ m n
 cases x with
 | agg cs=>
   simp only[toT1,zE]at d;obtain⟨Q,F,rfl⟩:=d;obtain⟨vs,rfl,C⟩:=j;obtain⟨L,M⟩:=fU F;refine⟨vs,rfl,by rw[C.1];simp[L],fun i c hi=> ?_⟩;simp only[zJ,zE]at hi;obtain⟨t,d,rfl⟩:=hi;obtain⟨x,D,J⟩:=M i t d;obtain⟨u,K,E⟩:=C.2 i x D;refine⟨u,K,.t ((tY B 1000 x t u J E).mono (fun _ _=>rfl) (fun r h=>h.elim .inl fun⟨q,m,n⟩=> .inr ⟨q,?_,n⟩))⟩;simp only[b_]
   exact dk.2 ⟨x,zL D,m⟩
 | yl k=>simp[toT1,toT]at d
 | tup cs=>simp[toT1,toT]at d
 | undef=>simp[toT1,toT]at d
 | lb=>simp[toT1,toT]at d
 | t z=>
   simp only[toT1,zE]at d;obtain⟨t,d,rfl⟩:=d
   exact RepC.t (g d j)
 | ms k i l=>
   simp only[toT1,zE]at d;obtain⟨t,d,rfl⟩:=d
   exact RepC.t (g d j)
 | mp k i o=>
   simp only[toT1,zE]at d;obtain⟨t,d,rfl⟩:=d
   exact RepC.t (g d j)
 | mm k=>
   simp only[toT1,zE]at d;obtain⟨t,d,rfl⟩:=d
   exact RepC.t (g d j)
 | fn f a b=>
   simp only[toT1,zE]at d;obtain⟨t,d,rfl⟩:=d;exact RepC.t (g d j)
end
section
variable {N:Nam} {c:Ctx} {ns:Nat} {A:Nat->Prop} {μ lam:Nat->Nat} {s:St} {a:Act} {w:World}
theorem Rel.freezes (j:ae): ∀(l:List Nat) (A:Nat->Prop) (s:St),Rel N c ns A μ lam s a w->(∀k i rs f,j k=some (.rows i rs f)-> ∃B,s.heap k=some (.rows i rs B))->
 ∃m,Rel N c ns m μ lam { s with heap:=bl s.heap (freezes j l) } a w/\(∀r,A r->m r)/\(∀k∈l,∀i rs f,j k=some (.rows i rs f)->m (μ k))
 | [],A,s,R,_=>⟨A,R,fun _ h=>h,af⟩
 | k::l,A,s,R,h0=>by
   by_cases n: ∃i rs f,j k=some (.rows i rs f)
   ·obtain⟨i,rs,f,n⟩:=n;obtain⟨B,D⟩:=h0 k i rs f n;have E:=R.freeze D
    obtain⟨m,z,v,y⟩:=Rel.freezes j l _ _ E (fun u d b q g=>by
     by_cases e:u=k
     ·subst e;rw[n]at g;cases g;exact⟨true,af⟩
     ·obtain⟨F,t⟩:=h0 u d b q g
      exact⟨F,by simp only[aP _ _ e];exact t⟩)
    refine⟨m,?_,fun r h=>v r (.inl h),fun u g d b q t=> ?_⟩
    ·have:Rg.freezes j (k::l)=(k,.rows i rs true)::Rg.freezes j l:=by simp[Rg.freezes,n]
     rw[this];exact z
    ·rcases cj.1 g with rfl | g
     ·exact v _ (.inr rfl)
     ·exact y u g d b q t
   ·obtain⟨m,z,v,y⟩:=Rel.freezes j l A s R h0;refine⟨m,?_,v,fun u g d b q t=> ?_⟩
    ·have:Rg.freezes j (k::l)=Rg.freezes j l:=by
      simp only[Rg.freezes,s8];split
      ·rfl
      ·rename_i x C;split at C
       ·rename_i i rs f h;exact absurd ⟨i,rs,f,h⟩ n
       ·simp at C
     rw[this];exact z
    ·rcases cj.1 g with rfl | g
     ·exact absurd ⟨d,b,q,t⟩ n
     ·exact y u g d b q t
theorem RepC.scalar {w w':World} {A d:Nat->Prop} {nm μ μ':Nat->Nat} {H f:ae} {v:Value} {x:V} (h:RepC w A nm μ H v x) (b:x.scalar1=true):RepC w' d nm μ' f v x:=by
 cases x<;>simp[V.scalar1]at b
 exact .t ((aO.t_inv h.toV).scalar b)
theorem cu.scalar {w w':World} {A d:Nat->Prop} {nm μ μ':Nat->Nat} {H f:ae} {v:Value} {x:V} (h:cu w A nm μ H v x) (b:x.scalar2=true):cu w' d nm μ' f v x:=by
 cases x with
 | agg cs=>
   obtain⟨vs,rfl,g,j⟩:=h;refine⟨vs,rfl,g,fun i c hi=> ?_⟩;obtain⟨u,l,k⟩:=j i c hi
   exact⟨u,l,k.scalar (zN.1 b c (zL hi))⟩
 | t y=>exact RepC.scalar (x:=.t y) h b
 | _=>simp[V.scalar2,V.scalar1]at b
theorem aO.scalar {w w':World} {A d:Nat->Prop} {nm μ μ':Nat->Nat} {H f:ae} {v:Value} {x:V} (h:aO w A nm μ H v x) (b:x.scalar=true):aO w' d nm μ' f v x:=by
 cases x with
 | tup cs=>
   obtain⟨vs,rfl,g,j⟩:=h;refine⟨vs,rfl,g,fun i c hi=> ?_⟩;obtain⟨u,l,k⟩:=j i c hi
   exact⟨u,l,k.scalar (zN.1 b c (zL hi))⟩
 | agg cs=>exact(cu.scalar (x:=.agg cs) h b).toV
 | t y=>exact(cu.scalar (x:=.t y) h b).toV
 | _=>simp[V.scalar,V.scalar2,V.scalar1]at b
end
section
variable {P:Program} {N:Nam} {I:Inv} {c:Ctx} {ns p:Nat} {A:Nat->Prop} {μ lam:Nat->Nat} {s:St} {a:Act} {w:World} {e:Eff} {o:Oper}
theorem pQ (R:Rel N c ns A μ lam s a w) {v:Value} (d:(execOp a.eval o).run P w= .ok (.value v) w) (j:aO w A N.nm μ s.heap v e.val) (h:e.loc=none/\e.wloc=none/\e.hp=[])
 (f: ∀b o,e.adr=some (b,o)->(s.loc b).isSome=true/\v= .pointer (some ⟨lam b,o,none⟩))
 (g: ∀x,o.dst=some x->x<ns) (i:s.free o.dst e):eT P N c ns o a w (s.apply o.dst e):=
 ⟨v,w,A,μ,lam,.inl d,R.put o.dst e v g i h.1 h.2.1 h.2.2 j f⟩
theorem Xq {t:TypeId} {b:Nat} (h:gH P t=some b): ∃d,P.underlying t=some d/\nE d=some b:=by
 unfold gH at h;split at h<;>first | (simp at h;done) | (rename_i f;exact⟨_,f,by simpa[nE]using h⟩)
theorem wZ {t:TypeId} {f:Nat} (h:sc P t=some f):rR P t f:=by
 unfold sc at h;split at h
 ·rename_i k b;simp only[zA]at h;subst h;obtain⟨d,i,j⟩:=Xq b;exact .inl ⟨d,i,j,b⟩
 ·simp only[zE]at h;obtain⟨l,g,rfl⟩:=h;exact .inr ⟨l,g,rfl⟩
theorem KM {H:ae} {d:Nat}: ∀{l:List V} {b:List T},fJ l=some b->l.mapM (toT H d)=some b/\l.flatMap (cn H d)=[]
 | [],b,h=>by simp[fJ]at h;subst h;exact⟨rfl,rfl⟩
 | .t y::r,b,h=>by
   simp only[fJ,zE]at h;obtain⟨m,k,rfl⟩:=h;obtain⟨i,j⟩:=KM (H:=H) (d:=d) k;have f:toT H d (.t y)=some y.norm:=by cases d<;>rfl
   have g:cn H d (.t y)=[]:=by cases d<;>rfl
   rw[cQ,f,i,du,g,j]
   exact⟨rfl,rfl⟩
 | .ms _ _ _::_,_,h | .mp _ _ _::_,_,h | .mm _::_,_,h | .yl _::_,_,h | .fn _ _ _::_,_,h | .agg _::_,_,h | .tup _::_,_,h | .undef::_,_,h | .lb::_,_,h=>by simp[fJ]at h
theorem kb6 (M:I.Ok N) (R:Rel N c ns A μ lam s a w) {f k:Nat} {xs ys:Array Operand} {l:Opd} (y:I.fi f=some k) (Y:opds I xs=some []) (Z:opds I ys=some [l]) (W:o.op= .makeFunc (.func f) xs ys)
 (T: ∀x,o.dst=some x->x<ns) (U:s.free o.dst e) (b:ao N.G p s (.mkfnT k l)=some e):eT P N c ns o a w (s.apply o.dst e):=by
 simp only[ao,zC,zB]at b;obtain⟨v,X,b⟩:=b;split at b
 ·rename_i q i0 o0;split at b
  ·rename_i sz row J i;split at b
   case isFalse=>simp at b
   rename_i E;obtain⟨rfl,rfl⟩:=E;simp only[zB,zA]at b;obtain⟨j,B,rfl⟩:=b
   have D:ao N.G p s (.mkfn k [] [l])=some { val:=.fn k [] [.mp q 0 0] }:=by
    simp[ao,cY,X,qE,V.isCell]
   obtain⟨g,u,t,_⟩:=S_ (P:=P) M R y Y Z D;obtain⟨K,L⟩:=KM (H:=s.heap) (d:=998) B
   have S:toT s.heap 1000 (.fn k [] [.mp q 0 0])=some (.fn k [] [.ip j]):=by
    simp[toT,i,K]
   have Q:cn s.heap 1000 (.fn k [] [.mp q 0 0])=[q]:=by
    simp[cn,i,L]
   have F:=R.freeze i;have n:=tY R.heap 1000 _ _ g S t;rw[Q]at n
   have z:aO w (fun r=>A r\/r=μ q) N.nm μ (upd s.heap q (some (.rows sz [row] true))) g (.t (.fn k [] [.ip j])):=by
    refine RepC.toV (RepC.t (n.mono (fun _ _=>rfl) ?_));rintro r (h | ⟨k',m,_,rfl⟩)
    ·exact .inl h
    ·rw[bB]at m;subst m;exact .inr rfl
   have G:=F.put o.dst { val:=.t (.fn k [] [.ip j]) } g T (fun d C=>U d C) rfl rfl rfl z af;exact⟨g,w,_,μ,lam,.inl (by simp only[execOp,W,Sem.run_bind,Sem.run_pure,u];rfl),G⟩
  ·simp at b
 ·simp at b
theorem kan (G:I.Ok N) (R:Rel N c ns A μ lam s a w) {isL:Nat->Bool} {op:AOp} (g:cE P I isL o.dst o.op=some op) (D:ao N.G p s op=some e)
 (E: ∀x,o.dst=some x->x<ns) (C:s.free o.dst e) (hk:s.heap (s.bas+p)=none) (hn:s.bas+p<s.nxt):eT P N c ns o a w (s.apply o.dst e):=by
 generalize F:o.op=rop at g
 cases rop with
 | move x=>
   simp only[cE,zE]at g;obtain⟨y,B,rfl⟩:=g;obtain⟨M,Q,X,Z,h5⟩:=HS G R B D
   exact pQ R (by simp[execOp,F]) M ⟨X,Z,h5⟩ (by simp[Q]) E C
 | assign x=>
   simp only[cE,zE]at g;obtain⟨y,B,rfl⟩:=g;obtain⟨M,Q,X,Z,h5⟩:=HS G R B D
   exact pQ R (by simp[execOp,F]) M ⟨X,Z,h5⟩ (by simp[Q]) E C
 | pick c a' b=>
   simp only[cE,zC,zB,zA]at g;obtain⟨yc,Hs,ya,P6,yb,Ml,rfl⟩:=g;obtain⟨t,ht,M,Q,X,Z,h5⟩:=kbO G R Hs P6 Ml D
   exact pQ R (by simp[execOp,F,ht,asBool]) M ⟨X,Z,h5⟩ (by simp[Q]) E C
 | alloc t=>
   simp only[cE,zC,zB]at g;obtain⟨z,S,g⟩:=g;split at g
   ·rename_i MZ;split at g
    ·rename_i hl;simp only[zA]at g;subst g;exact kaY R S hl.2 (G.b _ MZ) F E C hk hn D
    ·cases g
   split at g
   ·rename_i hl;simp only[zA]at g;subst g
    cases AI:o.dst with
    | none=>simp[r0,AI]at hl
    | some d=>rw[<- AI];exact Z' R S F AI E C D
   ·simp only[zA]at g;subst g
    exact kaa R S F E C hk hn D
 | box t x=>
   simp only[cE,zC,zB,cw]at g;obtain⟨ag,n,K,y,B,g⟩:=g;split at g
   ·rename_i hl;simp only[zA]at g;subst g
    cases AI:o.dst with
    | none=>simp[r0,AI]at hl
    | some d=>rw[<- AI];exact kbD G R B F AI E C D
   ·simp only[zA]at g;subst g
    exact kbE G R B F E C hk hn D
 | build t parts=>
   simp only[cE,zC,zB]at g;obtain⟨z,S,g⟩:=g;split at g
   ·rename_i fields J;simp only[zB]at g;obtain⟨ps,Cd,g⟩:=g;split at g
    ·rename_i Aa;simp only[zA]at g;subst g;obtain⟨M,Q⟩:=fU Cd
     have hg:dq N A μ s w ((Instr.build t (parts.map fun(i,x)=>(i,a.eval x))).run P w) e:=by
      refine Ss G R S (.inl ⟨fields,J,Aa,rfl⟩) ⟨M,fun i q hi=> ?_⟩ D;obtain⟨⟨j,x⟩,L,C⟩:=Q i q hi;simp only[zB,zA,cw]at C;obtain⟨f,H6,ag,n,K,y,B,rfl⟩:=C;obtain⟨inf,g1,g2,_⟩:=fE K;exact⟨(j,x),L,by simp[H6,g1,g2],B⟩
     exact hg.sound R (by simp only[execOp,F,Sem.run_bind,Sem.run_pure]) E C
    ·simp at g
   ·rename_i len V J;simp only[zB,zA,cw]at g;obtain⟨ag,n,K,ps,Cd,rfl⟩:=g;obtain⟨M,Q⟩:=fU Cd
    have hg:dq N A μ s w ((Instr.build t (parts.map fun(i,x)=>(i,a.eval x))).run P w) e:=by
     refine Ss G R S (.inr ⟨len,V,ag,n,J,K,rfl⟩) ⟨M,fun i q hi=> ?_⟩ D;obtain⟨⟨j,x⟩,L,C⟩:=Q i q hi;simp only[zB,zA]at C;obtain⟨y,B,rfl⟩:=C;exact⟨(j,x),L,rfl,B⟩
    exact hg.sound R (by simp only[execOp,F,Sem.run_bind,Sem.run_pure]) E C
   ·simp at g
 | buildSlice t len parts=>
   simp only[cE]at g;split at g
   ·rename_i V J;simp only[zC,zB,cw]at g;obtain⟨ag,n,K,z,S,ps,Cd,g⟩:=g;split at g
    ·rename_i Bw;simp only[zA]at g;subst g;obtain⟨M,Q⟩:=fU Cd;refine Z9 G R J K S Bw.2.2 Bw.1 ⟨M,fun i q hi=> ?_⟩ F E C hk hn D;obtain⟨⟨j,x⟩,L,C⟩:=Q i q hi;simp only[zB,zA]at C;obtain⟨y,B,rfl⟩:=C;exact⟨(j,x),L,rfl,B⟩
    ·simp at g
   ·simp at g
 | load t x=>
   simp only[cE,zC,zB,cw]at g;obtain⟨ag,n,K,y,B,g⟩:=g;split at g
   ·simp only[zA]at g;subst g;exact(kb7 (P:=P) R B K D).sound R (by simp only[execOp,F,Sem.run_bind,Sem.run_pure]) E C
   ·simp only[zA]at g;subst g
    exact(kbP (P:=P) G R B K D).sound R (by simp only[execOp,F,Sem.run_bind,Sem.run_pure]) E C
 | store t x v=>
   simp only[cE,zC,zB,cw]at g;obtain⟨ag,n,K,y,B,z,S,g⟩:=g;split at g
   ·simp at g
   ·rename_i DQ;have LH:o.dst=none:=al DQ
    split at g
    ·simp only[zA]at g;subst g;exact Z3 G R B S K F D LH
    ·simp only[zA]at g;subst g
     exact kb3 G R B S K F D LH
 | nilCheck x=>
   simp only[cE,zE]at g;obtain⟨y,B,rfl⟩:=g;obtain⟨v,h0,M,Q,X,Z,h5⟩:=Z4 (P:=P) G R B D o F
   exact pQ R h0 M ⟨X,Z,h5⟩ (by simp[Q]) E C
 | binOp bop t x y yt=>
   simp only[cE,zC,zB]at g;obtain⟨x',L,y',B,g⟩:=g
   have Am:(execOp a.eval o).run P w=((do eqGuard bop t x y (a.eval x) (a.eval y);binOp bop t (a.eval x) (a.eval y):Sem Value).run P w).andThen fun v w'=> .ok (.value v) w':=by
    simp only[execOp,F,Sem.run_bind,Sem.run_pure]
   split at g
   ·simp only[zA]at g;subst g;exact(Tq (P:=P) G R L B D t).sound R Am E C
   ·simp only[zA]at g;subst g;exact(Tq (P:=P) G R L B D t).sound R Am E C
   ·rename_i J;split at g
    ·simp only[zA]at g;subst g;exact(Tl (P:=P) G R L B D J rfl).sound R Am E C
    ·simp only[zA]at g;subst g;exact(Tl (P:=P) G R L B D J rfl).sound R Am E C
    ·simp at g
   ·simp only[zB]at g;obtain⟨ks,Dn,g⟩:=g;split at g
    ·simp only[zA]at g;subst g;exact(Ti (P:=P) G R L B D Dn rfl).sound R Am E C
    ·simp only[zA]at g;subst g;exact(Ti (P:=P) G R L B D Dn rfl).sound R Am E C
    ·simp at g
   ·simp at g
 | unOp uop t x=>
   simp only[cE,zE]at g;obtain⟨y,B,rfl⟩:=g
   exact(U7 (P:=P) G R B D).sound R (by simp only[execOp,F,Sem.run_bind,Sem.run_pure]) E C
 | convert src dst x=>
   simp only[cE,zC,zB]at g;obtain⟨y,B,g⟩:=g;split at g
   ·rename_i M Q;simp only[zA]at g;subst g;exact(kbA (P:=P) G R B D M Q).sound R (by simp only[execOp,F,Sem.run_bind,Sem.run_pure]) E C
   ·rename_i M Q;split at g
    ·rename_i X;simp only[zA]at g;subst g;exact(kbC (P:=P) G R B D M Q X).sound R (by simp only[execOp,F,Sem.run_bind,Sem.run_pure]) E C
    ·cases g
   ·simp at g
 | makeFunc fn first cap=>
   cases fn with
   | func f=>
     simp only[cE,zC,zB]at g;obtain⟨k,Ah,xs,Ka,ys,FN,g⟩:=g;split at g
     ·simp only[zA]at g;subst g;exact kb6 G R Ah Ka FN F E C D
     simp only[zA]at g;subst g
     exact(S_ (P:=P) G R Ah Ka FN D).sound R (by simp only[execOp,F,Sem.run_bind,Sem.run_pure]) E C
   | _=>simp[cE]at g
 | makeSlice t l cp=>
   simp only[cE]at g;split at g
   ·rename_i V J;simp only[zC,zB,cw]at g;obtain⟨ag,n,K,z,S,i,hi,l',hl,c',Bz,g⟩:=g;split at g
    ·rename_i Bw;simp only[zA]at g;subst g;exact Zf G R hl Bz J K S hi F Bw.1 E C hk hn D
    ·simp at g
   ·simp at g
 | slice t x lo hi mx=>
   simp only[cE,zC,zB]at g;obtain⟨y,B,l,hl,h,hh,m,hm,g⟩:=g;split at g
   ·rename_i V J;simp only[zB,zA,cw]at g;obtain⟨ag,n,K,rfl⟩:=g;exact(kb5 (P:=P) G R B hl hh hm J K D).sound R (by simp only[execOp,F,Sem.run_bind,Sem.run_pure]) E C
   ·rename_i J;split at g
    ·rename_i N3;simp only[zA]at g;subst g
     have Km:mx=none:=by
      cases mx with
      | none=>rfl
      | some z=>
        simp only[hX,zE]at hm;obtain⟨_,_,rfl⟩:=hm;simp at N3
     subst Km;exact(kb4 (P:=P) G R B hl hh J D).sound R (by simp only[execOp,F,Sem.run_bind,Sem.run_pure,np]) E C
    ·simp at g
   ·simp at g
 | fieldAddr t x f=>
   simp only[cE,zC,zB]at g;obtain⟨y,B,g⟩:=g;split at g
   ·rename_i fields J;simp only[zB,cw]at g;obtain⟨fd,D3,ag,n,K,g⟩:=g;split at g
    ·rename_i CB;split at g
     ·simp only[zA]at g;subst g;obtain⟨v,h0,M,Q,X,Z,h5⟩:=Z8 (P:=P) R B J D3 K CB D;exact pQ R (v:=v) (by simp only[execOp,F,Sem.run_bind,h0,Result.andThen_ok,Sem.run_pure]) M ⟨Q,X,Z⟩ h5 E C
     ·simp only[zA]at g;subst g;exact(kb9 (P:=P) G R B J D3 K CB D).sound R (by simp only[execOp,F,Sem.run_bind,Sem.run_pure]) E C
    ·simp at g
   ·simp at g
 | field t x f=>
   simp only[cE,zC,zB]at g;obtain⟨y,B,g⟩:=g;split at g
   ·rename_i fields J;simp only[zB,zA,cw]at g;obtain⟨fd,D3,ag,n,K,rfl⟩:=g;exact(kb8 (P:=P) G R B J D3 K D).sound R (by simp only[execOp,F,Sem.run_bind,Sem.run_pure]) E C
   ·simp at g
 | indexAddr t x i=>
   simp only[cE,zC,zB]at g;obtain⟨y,B,j,hj,g⟩:=g;split at g
   ·rename_i V J;simp only[zB,zA,cw]at g;obtain⟨ag,n,K,rfl⟩:=g;exact(Z6 (P:=P) G R B hj J K D).sound R (by simp only[execOp,F,Sem.run_bind,Sem.run_pure]) E C
   ·rename_i len V J;simp only[zB,cw]at g;obtain⟨ag,n,K,g⟩:=g;split at g
    ·simp only[zA]at g;subst g;obtain⟨v,h0,M,Q,X,Z,h5⟩:=Zg (P:=P) G R B hj J K D;exact pQ R (v:=v) (by simp only[execOp,F,Sem.run_bind,h0,Result.andThen_ok,Sem.run_pure]) M ⟨Q,X,Z⟩ h5 E C
    ·simp only[zA]at g;subst g;exact(Z7 (P:=P) G R B hj J K D).sound R (by simp only[execOp,F,Sem.run_bind,Sem.run_pure]) E C
   ·simp at g
 | index t x i=>
   simp only[cE,zC,zB]at g;obtain⟨y,B,j,hj,g⟩:=g;split at g
   ·rename_i len V J;simp only[zB,zA,cw]at g;obtain⟨ag,n,K,rfl⟩:=g;exact(kbx (P:=P) G R B hj J K D).sound R (by simp only[execOp,F,Sem.run_bind,Sem.run_pure]) E C
   ·rename_i J;simp only[zA]at g;subst g;exact(kbR (P:=P) G R B hj J D).sound R (by simp only[execOp,F,Sem.run_bind,Sem.run_pure]) E C
   ·simp at g
 | extract x i=>
   simp only[cE,zC,zB,zA]at g;obtain⟨y,B,rfl⟩:=g
   exact(kby (P:=P) G R B D).sound R (by simp only[execOp,F,Sem.run_bind,Sem.run_pure]) E C
 | makeMap t r=>
   simp only[cE]at g;split at g
   ·rename_i J;simp only[zA]at g;subst g;exact Sr R J af F E C hk hn D
   ·rename_i k n J;simp only[zA]at g;subst g;exact Sr R J (fun x L=>by simp only[zA]at L;subst L;exact⟨k,n,rfl⟩) F E C hk hn D
   ·simp at g
 | lookup t x y ok=>
   simp only[cE,zC,zB]at g;obtain⟨x',L,y',B,g⟩:=g;split at g
   ·rename_i kt et J;simp only[zB,zA]at g;obtain⟨kd,EL,z,S,rfl⟩:=g;exact(Z5 (P:=P) G R L B J (wZ EL) S D).sound R (by simp only[execOp,F,Sem.run_bind,Sem.run_pure]) E C
   ·simp at g
 | mapUpdate t x y v=>
   simp only[cE,zC,zB]at g;obtain⟨x',L,y',B,v',hv,g⟩:=g;split at g
   ·rename_i kt et J;simp only[zB]at g;obtain⟨kd,EL,g⟩:=g;split at g
    ·simp at g
    ·rename_i DQ;simp only[zA]at g;subst g;exact QL G R L B hv J (wZ EL) (.inl F) D (al DQ)
   ·simp at g
 | insert t x y v=>
   simp only[cE,zC,zB]at g;obtain⟨x',L,y',B,v',hv,g⟩:=g;split at g
   ·rename_i kt et J;simp only[zB]at g;obtain⟨kd,EL,g⟩:=g;split at g
    ·simp at g
    ·rename_i DQ;simp only[zA]at g;subst g;exact QL G R L B hv J (wZ EL) (.inr F) D (al DQ)
   ·simp at g
 | call cl=>
   simp only[cE]at g;split at g
   ·simp at g
   ·rename_i W;split at g
    ·rename_i t x Y U;have If:cl.argTypes= #[t]:=gW.1 Y;have Oq:cl.args= #[x]:=gW.1 U;have T:=ZN (P:=P) (w:=w) (a:=a) F W;rw[If,Oq]at T;simp only[mR,aT,bc]at T;split at g
     ·rename_i V J;simp only[zE]at g;obtain⟨y,B,rfl⟩:=g;exact(Vd (P:=P) G R B J D).sound R T E C
     ·rename_i J;simp only[zE]at g;obtain⟨y,B,rfl⟩:=g;exact(kbN (P:=P) G R B J D).sound R T E C
     ·rename_i n V J;simp only[zA]at g;subst g;exact(kbQ (P:=P) J D).sound R T E C
     ·simp at g
    ·simp at g
   ·rename_i W;split at g
    ·rename_i t u x y Y U;simp only[zC,zB]at g;obtain⟨x',L,y',B,g⟩:=g;split at g
     ·rename_i V el' M Q;simp only[zB,cw]at g;obtain⟨ag,n,K,i,hi,z,S,g⟩:=g;split at g
      ·rename_i Bw;simp only[zA]at g;subst g;exact Z_ G R L B M Q K hi S Bw.2 Bw.1 F W (gW.1 Y) (gW.1 U) E C hk hn D
      ·simp at g
     ·rename_i V k M Q;simp only[zB,cw]at g;obtain⟨ag,n,K,i,hi,z,S,g⟩:=g;split at g
      ·rename_i Bw;simp only[zA]at g;subst g;exact kcO G R L B M Q K hi S Bw.1 F W (gW.1 Y) (gW.1 U) E C hk hn D
      ·simp at g
     ·simp at g
    ·simp at g
   ·rename_i W;split at g
    ·rename_i t u x y Y U;simp only[zC,zB]at g;obtain⟨x',L,y',B,g⟩:=g;split at g
     ·rename_i V M;simp only[zB,cw]at g;obtain⟨ag,n,K,g⟩:=g;split at g
      ·rename_i CB;simp only[zA]at g;subst g;exact kbz G R L B M K CB F W (gW.1 Y) (gW.1 U) E C D
      ·simp at g
     ·simp at g
    ·simp at g
   ·rename_i W;split at g
    ·rename_i t1 t2 x y Y U;simp only[zC,zB,zA]at g;obtain⟨x',L,y',B,rfl⟩:=g;have T:=ZM (P:=P) (w:=w) (a:=a) F W;rw[gW.1 (U:cl.args.toList= #[x,y].toList)]at T;simp only[mR,aT,bc]at T;exact(HL (P:=P) (mn:=false) G R L B D cl.argTypes o.type).sound R T E C
    ·simp at g
   ·rename_i W;split at g
    ·rename_i t1 t2 x y Y U;simp only[zC,zB,zA]at g;obtain⟨x',L,y',B,rfl⟩:=g;have T:=ZL (P:=P) (w:=w) (a:=a) F W;rw[gW.1 (U:cl.args.toList= #[x,y].toList)]at T;simp only[mR,aT,bc]at T;exact(HL (P:=P) (mn:=true) G R L B D cl.argTypes o.type).sound R T E C
    ·simp at g
   ·rename_i W;split at g
    ·rename_i t x Y U;simp only[zC,zB]at g;obtain⟨x',L,g⟩:=g;split at g
     ·rename_i V M;simp only[zB,cw]at g;obtain⟨ag,n,K,z,S,g⟩:=g;split at g
      ·rename_i CB;simp only[zA]at g;subst g;exact kca G R L M K CB.1 S CB.2 F W (gW.1 Y) (gW.1 U) E C D
      ·simp at g
     ·simp at g
    ·simp at g
   ·rename_i W;split at g
    ·rename_i t x Y U;have T:=ZO (P:=P) (w:=w) (a:=a) F W;rw[gW.1 (Y:cl.argTypes.toList= #[t].toList),gW.1 (U:cl.args.toList= #[x].toList)]at T;simp only[mR,aT,bc]at T;split at g
     ·rename_i V J;simp only[zE]at g;obtain⟨y,B,rfl⟩:=g;exact(kbB (P:=P) G R B J D).sound R T E C
     ·simp at g
    ·simp at g
   ·simp at g
 | panic x=>
   simp only[cE,zA]at g;subst g
   simp[ao]at D
 | makeInterface t x=>
   simp only[cE,zA]at g;subst g
   simp[ao]at D
 | _=>simp[cE]at g
end
def fD (w:World) (A:Nat->Prop) (nm μ:Nat->Nat) (H:ae) (vs:Array Value) (xs:List V):Prop:=
 vs.size=xs.length/\ ∀(i:Nat) (x:V),xs[i]? =some x-> ∃v,vs[i]? =some v/\aO w A nm μ H v x
theorem fD.append {w:World} {A:Nat->Prop} {nm μ:Nat->Nat} {H:ae} {vs f:Array Value} {xs ys:List V} (h:fD w A nm μ H vs xs) (h':fD w A nm μ H f ys):
 fD w A nm μ H (vs++f) (xs++ys):=by
 refine⟨by simp[h.1,h'.1],fun i x hi=> ?_⟩;rw[mK]at hi;split at hi
 ·rename_i g;obtain⟨v,d,b⟩:=h.2 i x hi;exact⟨v,by rw[rK (by rw[h.1];exact g)];exact d,b⟩
 ·rename_i j;obtain⟨v,d,b⟩:=h'.2 _ x hi;exact⟨v,by rw[Gn (by rw[h.1];omega),h.1];exact d,b⟩
def uP (N:Nam) (A:Nat->Prop) (w:World):Prop:=
 ∀(g j:Nat) (x:T),(N.G g)[j]? =some x->A (N.gm g)/\(∃e,w.shape? (N.gm g)=some (e,(N.G g).length))/\ ∃v,w.cell? ⟨N.gm g,j,none⟩=some v/\RepT w A N.nm v x
def ow (P:Program) (N:Nam) (g:Nat) (args:List V) (r:V):Prop:=
 ∀(A:Nat->Prop) (w:World) (vs:Array Value),(∀r,A r->r<w.heap.size)->uP N A w->fD w A N.nm (fun _=>0) (fun _=>none) vs args->
  Calls P (N.nm g) vs w fun e w'=> ∃v,e= .returned v/\(w'.os=w.os/\w'.output=w.output)/\w.heap.size<=w'.heap.size/\(∀q,q<w.heap.size->w'.heap[q]? =w.heap[q]?)/\
   aO w' (fun q=>A q\/(w.heap.size<=q/\q<w'.heap.size)) N.nm (fun _=>0) (fun _=>none) v r
def FW (ro:Option Nat):Fence:={ Fence.wide with round:=ro }
theorem sv {ro:Option Nat} {k:Nat}:(FW ro).room k:=fun _ h=>by simp[FW,Fence.wide]at h
theorem sg {ro:Option Nat} {n:Nat}:(FW ro).depth.isSome=true->1<=n:=fun h=>by simp[FW,Fence.wide]at h
theorem t_ {P:Program} {ro:Option Nat} {n f:Nat} {args:Array Value} {w:World} {R:Ending->World->Prop} (h:Calls P f args w R):CallsIn (FW ro) n P f args w R:=(callsIn_wide (n:=n)).2 h
def tK:Ex->Exit
 | .normal=> .normal
 | .exit id=> .exit id
 | .ret=> .ret
def j_ (N:Nam) (c:Ctx) (ns:Nat) (f:Ex) (g:St) (e:Exit) (d:Act) (w':World):Prop:=
 e=tK f/\ ∃b μ' lam',Rel N c ns b μ' lam' g d w'
def qO (P:Program) (N:Nam) (d:C) (s:St) (f:Ex) (g:St):Prop:=
 ∀b m,N.cr b m d-> ∀l c A μ lam a w,Rel N c m A μ lam s a w->b.wpIn (FW (some l)) 0 P (j_ N c m f g) a w
def dr:Act:={ tmps:= #[],defers:=[] }
def m0 (P:Program) (N:Nam) (g:Nat) (args:List V) (H:ae) (n:Nat) (r:V) (d:ae) (f:Nat):Prop:=
 ∀(c:Ctx) (A:Nat->Prop) (μ lam:Nat->Nat) (w:World) (vs:Array Value),Rel N c 0 A μ lam (.init [] H n) dr w->fD w A N.nm μ H vs args->
  Calls P (N.nm g) vs w fun e w'=> ∃v b μ' lam',e= .returned v/\Rel N c 0 b μ' lam' (.init [] d f) dr w'/\aO w' b N.nm μ' d v r
structure Real (P:Program) (F:Nat) (rf:Func):Prop where
 f:P.funcs[F]? =some rf
 b:rf.body.isSome=true
 n : (rf.name == "runtime.NumGoroutine") = false
section
variable {P:Program} {N:Nam} {I:Inv} {c:Ctx} {ns p:Nat} {A:Nat->Prop} {μ lam:Nat->Nat} {s:St} {a:Act} {w:World} {e:Eff} {o:Oper} {ro:Option Nat}
theorem xo {b:Call} {f:Operand} {F:Nat} {g vb:Array Value} {rf:Func} (l:o.op= .call b) (j:b.callee= .value f) (m:a.eval f= .func (.func F) g vb) (d:Real P F rf):
 (execOp a.eval o).run P w= .ok (.enter F (g++b.args.map a.eval++vb)) w:=by
 have i:rf.body.isNone=false:=by have:=d.b;cases h:rf.body<;>simp_all
 have k:=d.n;simp only[execOp,l,resolve,j,Sem.run_bind,m,Deferred.ofValue,Sem.run_pure,Result.andThen_ok,invoke,callFunc,run_program,d.f,k,i,zG,aX]
theorem uS {C:V} {v:Value} {g:Nat} {as bs:List V} (u:aO w A N.nm μ s.heap v C) (d:cG C=some (g,as,bs)):
 ∃f vb,v= .func (.func (N.nm g)) f vb/\fD w A N.nm μ s.heap f as/\fD w A N.nm μ s.heap vb bs:=by
 unfold cG at d;split at d
 ·simp only[zA,dx]at d;obtain⟨rfl,rfl,rfl⟩:=d
  cases(u:RepC w A N.nm μ s.heap v _)with
  | fn _ _ _ f vb fa q r t k l m n=>
    exact⟨f,vb,rfl,⟨r,fun i x hi=>⟨fa i,k i x hi,(l i x hi).toV⟩⟩,⟨t,fun i x hi=>⟨q i,m i x hi,(n i x hi).toV⟩⟩⟩
 ·simp only[zA,dx]at d;obtain⟨rfl,rfl,rfl⟩:=d
  cases u.t_inv with
  | fn _ a b f vb fa q r t k l m n=>
    refine⟨f,vb,rfl,⟨by simp[r],fun i x hi=> ?_⟩,⟨by simp[t],fun i x hi=> ?_⟩⟩
    ·simp only[zJ,zE]at hi;obtain⟨y,h,rfl⟩:=hi;exact⟨fa i,k i y h,(RepC.t (l i y h)).toV⟩
    ·simp only[zJ,zE]at hi;obtain⟨y,h,rfl⟩:=hi;exact⟨q i,m i y h,(RepC.t (n i y h)).toV⟩
 ·simp only[zA,dx]at d;obtain⟨rfl,rfl,rfl⟩:=d
  cases u.t_inv with
  | fa _ c B J K F G=>
    refine⟨#[.agg B],#[],rfl,⟨rfl,fun i x hi=> ?_⟩,⟨rfl,fun i x hi=>by simp at hi⟩⟩
    cases i with
    | succ i=>simp at hi
    | zero=>
      simp only[dv,zA]at hi;subst hi;refine⟨.agg B,rfl,?_⟩;refine⟨B,rfl,by simp[K],fun j y D=> ?_⟩;simp only[zJ,zE]at D;obtain⟨z,E,rfl⟩:=D;exact⟨J j,al (F j z E),.t (G j z E)⟩
 ·simp at d
theorem cu.mono {w:World} {A b:Nat->Prop} {nm μ:Nat->Nat} {H:ae} {v:Value} {x:V} (h:cu w A nm μ H v x) (d: ∀r,A r->b r):cu w b nm μ H v x:=
 h.evo ⟨fun _ _=>rfl,d,fun _ o h=>⟨o,h,O.le_refl o,fun _=>rfl⟩,fun _ _ h=>h⟩
theorem aO.mono {w:World} {A b:Nat->Prop} {nm μ:Nat->Nat} {H:ae} {v:Value} {x:V} (h:aO w A nm μ H v x) (d: ∀r,A r->b r):aO w b nm μ H v x:=
 h.evo ⟨fun _ _=>rfl,d,fun _ o h=>⟨o,h,O.le_refl o,fun _=>rfl⟩,fun _ _ h=>h⟩
theorem aO.noheap {w:World} {A:Nat->Prop} {nm μ μ':Nat->Nat} {b:ae} {v:Value} {x:V} (h:aO w A nm μ (fun _=>none) v x):aO w A nm μ' b v x:=
 h.evo ⟨fun _ _=>rfl,fun _ h=>h,fun _ _ h=>by simp at h,fun _ _ h=>h⟩
theorem w8 (b:ae): ∀(l:List Nat) (h:ae) (k:Nat) (o:O),bl h (Rg.freezes b l) k=some o->h k=some o\/ ∃d rs f,b k=some (.rows d rs f)
 | [],h,k,o,hk=> .inl hk
 | q::l,h,k,o,hk=>by
   by_cases g: ∃d rs f,b q=some (.rows d rs f)
   ·obtain⟨d,rs,f,g⟩:=g;have:Rg.freezes b (q::l)=(q,.rows d rs true)::Rg.freezes b l:=by simp[Rg.freezes,g]
    rw[this]at hk;rcases w8 b l _ k o hk with i | i
    ·by_cases e:k=q
     ·subst e;exact .inr ⟨d,rs,f,g⟩
     ·rw[aP _ _ e]at i;exact .inl i
    ·exact .inr i
   ·have:Rg.freezes b (q::l)=Rg.freezes b l:=by
     simp only[Rg.freezes,s8];split
     ·rfl
     ·rename_i x j;split at j
      ·rename_i d rs f h;exact absurd ⟨d,rs,f,h⟩ g
      ·simp at j
    rw[this]at hk;exact w8 b l h k o hk
theorem YK (X:I.Ok N) (R:Rel N c ns A μ lam s a w) {m:Call} {f:Operand} {U:Opd} {args':List Opd} {W:V} {g:Nat} {as bs vs rs:List V} {r:V} {rf:Func} {Q:Exit->Act->World->Prop}
 (Z:o.op= .call m) (hb:m.callee= .value f) (hf:opd I f=some U) (B0:opds I m.args=some args') (As:evl N.G s U=some W) (Ax:cG W=some (g,as,bs))
 (An:Real P (N.nm g) rf) (Au:cY N.G s args'=some vs) (AD:(as++vs++bs).mapM (toT1 s.heap)=some rs) (hc:ow P N g rs r)
 (Y: ∀x,o.dst=some x->x<ns) (L:s.free o.dst {}):
 o.wpIn (FW ro) 0 P a w (fun a' w'=> ∃z μ' lam',Rel N c ns z μ' lam' (s.apply o.dst { val:=r,hp:=if r.scalar then []else freezes s.heap ((as++vs++bs).flatMap (b_ s.heap)) }) a' w') Q:=by
 obtain⟨va,vb,u,ha,Bf⟩:=uS (bx X R hf As) Ax;have BE:fD w A N.nm μ s.heap (m.args.map a.eval) vs:=nv X R B0 Au;have K:=(ha.append BE).append Bf;obtain⟨m1,m2⟩:=fU AD
 let B:Nat->Prop:=fun r=>A r\/ ∃k∈(as++vs++bs).flatMap (b_ s.heap),sC s.heap k/\μ k=r
 have Mc: ∀r,B r->r<w.heap.size:=by
  rintro r (h | ⟨k,_,⟨C,rs,f,b⟩,rfl⟩)
  ·exact R.alt r h
  ·exact R.lt_live b rfl
 have JI:uP N B w:=by
  intro g j x h;obtain⟨D,F1,v,u,n⟩:=R.glob g j x h;exact⟨.inl D,F1,v,u,n.mono (fun _ _=>rfl) (fun _ h=> .inl h)⟩
 have Ae:fD w B N.nm (fun _=>0) (fun _=>none) (va++m.args.map a.eval++vb) rs:=by
  refine⟨by rw[K.1,m1],fun i x hi=> ?_⟩;obtain⟨y,hy,J⟩:=m2 i x hi;obtain⟨v,u,n⟩:=K.2 i y hy;refine⟨v,u,((xx R.heap J n (fun _=>0) (fun _=>none)).mono ?_).toV⟩;rintro q (h | ⟨k,b,E⟩)
  ·exact .inl h
  ·exact .inr ⟨k,dk.2 ⟨y,zL hy,b⟩,E⟩
 have Da:=hc B w _ Mc JI Ae;refine⟨fun _ _=>trivial,?_⟩;rw[o.semAt_eq _ _ (by rw[Z];simp),xo Z hb u An,Oper.uponIn_enter];refine⟨sg,t_ (Da.mono ?_)⟩;rintro e w' ⟨v,rfl,De,AS,d,M⟩
 have Nh: ∀r x,w.shape? r=some x->w'.shape? r=some x:=by
  intro r x h
  have Ad:r<w.heap.size:=by
   rcases bw r w.heap.size with h' | h'
   ·exact h'
   ·simp[World.shape?,jR h']at h
  simpa[World.shape?,d r Ad]using h
 have S:Rel N c ns A μ lam s a w':=by
  refine R.world AS ?_ (fun r n _=>d r (fw n R.csize)) Nh (R.defers.evo (fun r h=>d r (gQ.1 h).1) (fun _ _ h=>h)) De;rintro r (h | ⟨t,h,rfl⟩ | ⟨k,o',h,F,rfl⟩)
  ·exact d r (R.alt r h)
  ·exact d _ (R.lt_loc h)
  ·exact d _ (R.lt_live h F)
 by_cases G:r.scalar=true
 ·refine⟨A,μ,lam,?_⟩;have:=S.put o.dst { val:=r } v Y L rfl rfl rfl (M.scalar G) af;simpa[G]using this
 ·obtain⟨z,T,D5,Aj⟩:=Rel.freezes (μ:=μ) s.heap ((as++vs++bs).flatMap (b_ s.heap)) A s S (fun k C rs f h=>⟨f,h⟩)
  have R3:=T.growA (fun q=>w.heap.size<=q/\q<w'.heap.size) (fun q l t J=>by have:=R.lt_loc J;omega)
   (fun q l k o b F=>by
     have : ∃o',s.heap k=some o'/\o'.live=true:=by
      rcases w8 s.heap _ _ k o b with h | ⟨C,rs,f,h⟩
      ·exact⟨o,h,F⟩
      ·exact⟨_,h,rfl⟩
     obtain⟨o',D,E⟩:=this
     have:=R.lt_live D E;omega)
   (fun q l=> .inr (by have:=R.csize;omega)) (fun q l=>l.2) (R.defers.join T.defers (fun q l=>l.1))
  refine⟨fun q=>z q\/(w.heap.size<=q/\q<w'.heap.size),μ,lam,?_⟩
  have Cf:aO w' (fun q=>z q\/(w.heap.size<=q/\q<w'.heap.size)) N.nm μ (bl s.heap (Rg.freezes s.heap ((as++vs++bs).flatMap (b_ s.heap)))) v r:=by
   refine(aO.noheap M).mono ?_;rintro q ((h | ⟨k,b,⟨C,rs,f,AF⟩,rfl⟩) | h)
   ·exact .inl (D5 q h)
   ·exact .inl (Aj k b C rs f AF)
   ·exact .inr h
  have:=R3.put o.dst { val:=r } v Y L rfl rfl rfl Cf af;rw[ac G];exact this
end
end Rg
end

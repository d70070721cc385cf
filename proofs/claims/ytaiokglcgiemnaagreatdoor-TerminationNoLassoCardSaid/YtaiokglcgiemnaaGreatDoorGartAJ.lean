/- Part of the proof of laws of relyguardlaw36. No condition. -/
import Derived.ChangeSame
import Derived.WideKeyArgs
import Derived.RowKit
import Derived.LaidLaws
import Derived.Stop.Joined
import Derived.Test.YtaiokglcgiemnaaGreatDoorGartAI
import Derived.OpenShut
import Derived.MakeChecks
import Derived.FnData
import Derived.Test.YtaiokglcgiemnaaGreatDoorGartAG
set_option linter.unusedVariables false
set_option linter.defProp false
set_option linter.unusedSimpArgs false
section
namespace Rg
open Go Go.ChangeShapes
section
variable {H:Type} {enc:TypeId×Value->H} {P:Program}
theorem I' {W g:World} {j:Nat->Bool} (i:laidOutB P=true): ∀{e:List TypeId} {vs:List Value} {f:List (DataW H)} {c:List MemPlace},
 (∀t∈e,P.readableRec t=true/\t<P.types.size)->DataW.TrodAll enc P W 0 (fun _=>true) true e vs f c->(∀p∈c,W.sameAt g p)->(∀p∈c,j p.block=true)->DataW.TrodAll enc P g 0 j true e vs f c
 | [],[],[],c,_,h,_,_=>h
 | t::e,v::vs,d::f,c,hr,h,hs,hp=>by
   obtain⟨p,q,k,m,rfl⟩:=h
   exact⟨p,q,WideElems.Trod_stays i (hr t fh).1 (hr t fh).2 k (fun x a=>hs x (ii _ a)) (fun x a=>hp x (ii _ a)),
    I' i (fun t o=>hr t (gt _ o)) m (fun x a=>hs x (ta _ a)) (fun x a=>hp x (ta _ a)),rfl⟩
 | [],[],_::_,_,_,h,_,_=>by cases h
 | [],_::_,_,_,_,h,_,_=>by cases h
 | _::_,[],_,_,_,h,_,_=>by cases h
 | _::_,_::_,[],_,_,h,_,_=>by cases h
theorem Xj {W a:World} (h: ∀q,q<W.heap.size->a.heap[q]? =W.heap[q]?) {p:MemPlace} (hp:p.block<W.heap.size):W.sameAt a p:=by
 cases p with
 | cell b c=>exact cell?_eq (h b hp)
 | map b=>exact h b hp
theorem Xf {W c:World} (g:c.os=W.os) (j:c.output=W.output) (h: ∀q,q<W.heap.size->c.heap[q]? =W.heap[q]?) (f:MemPlace->Prop):W.keptBut c f:=by
 refine⟨g,j,fun i hi=> ?_⟩;rw[h i hi];split
 ·rename_i e a;rw[e]at a;cases a;exact⟨rfl,rfl,rfl,fun _ _=>rfl⟩
 ·rename_i e a;rw[e]at a;cases a;exact .inr ⟨rfl,rfl⟩
 ·rfl
theorem XY {N:Nam} {g f:Nat} {fn:Func} {s:ChangeSpec} {W:World} {args:Array Value} {a c:List (DataW H)} {before:List MemPlace} {z:List V} {tb:TypeId}
 (hp:ow P N g z (vb true)) (Z:N.nm g=f) (U:uP N (fun r=>r<W.heap.size) W) (X:fD W (fun r=>r<W.heap.size) N.nm (fun _=>0) (fun _=>none) args z)
 (hl:laidOutB P=true) (hr: ∀t∈fn.params.toList,P.readableRec t=true/\t<P.types.size) (D:fn.resultTypes= #[tb]) (L:P.underlying tb=some .bool)
 (C:s.vars=[]) (j:DataW.Whole enc P fn.params.toList s.vars false W args.toList a c before)
 (k:c=[]->s.fn H (a++c)= { results:=[.lit (.bool true)],args:=a }):
 Calls P f args W fun e i=> ∃v,e= .returned v/\s.post enc P fn false true false false W args v i:=by
 subst Z;refine(hp _ W args (fun r h=>h) U X).mono fun e i ⟨v,Y,⟨ho,hu⟩,AS,w,E⟩=>⟨v,Y,?_⟩
 have I:v= .bool true:=by
  have R:RepT i _ N.nm v (.bool true):=aO.t_inv E;cases R;rfl
 subst I;have o:=j.lt;have K:=j;obtain⟨p,q,S,B,rfl,RL,Bt⟩:=K;have J:c=[]/\q=[]:=by rw[C]at B;exact trodVars_none B
 obtain⟨rfl,rfl⟩:=J;refine⟨a,[],p++[],[],p,[],j,?_,?_,?_,Xf ho hu w _,fun h=>by cases h⟩
 ·rw[k rfl,D];exact trodAll_mk1 ⟨1,by simp[DataW.trod,L,Value.cells]⟩
 ·rw[k rfl];refine I' hl hr S (fun x m=>Xj w (o x (al m))) (fun x m=> ?_);simpa using o x (al m)
 ·rw[k rfl,C];rfl
end
section
variable {W:World} {nm:Nat->Nat} {A:Nat->Prop} {μ:Nat->Nat} {HO:Nat->Option O}
theorem Xk: ∀{vs:List Value} {xs:List V},vs.length=xs.length->(∀(i:Nat) (x:V) (v:Value),xs[i]? =some x->vs[i]? =some v->aO W A nm μ HO v x)->fD W A nm μ HO vs.toArray xs
 | vs,xs,hl,h=>⟨al hl,fun i x a=>by
    have:i<vs.length:=by rw[hl];exact(zH.1 a).1
    exact⟨vs[i],af,h i x _ a af⟩⟩
theorem ka4 {cs:Array Value} {xs:List T} (h:j9 W nm cs.toList xs):aO W (fun r=>r<W.heap.size) nm μ HO (.agg cs) (.agg (xs.map V.t)):=by
 refine⟨cs,rfl,by rw[cP];exact h.1,fun i c a=> ?_⟩;rw[zJ,zE]at a;obtain⟨x,g,rfl⟩:=a;obtain⟨v,f,e⟩:=h.2 i x g;exact⟨v,f,.t e⟩
theorem ka3 {v:Value} {x:T} (h:j9 W nm [v] [x]):aO W (fun r=>r<W.heap.size) nm μ HO v (.t x):=by
 obtain⟨u,a,c⟩:=h.2 0 x rfl;simp at a;subst a;exact RepC.toV (.t c)
end
end Rg
end
section
namespace Rg
open Go
def vw:Lit->T
 | .int k n=> .int k n
 | .string s=> .str ⟨s.toArray⟩
 | .bool b=> .bool b
 | _=> .nilp
theorem Iv {P:Program} {W:World}: ∀{laid:List (String×DataW Unit)} {e:List MemPlace},DataW.LaidVars P W laid e-> ∀{nm:String} {d:DataW Unit},(nm,d)∈laid->
 ∃g t cs f q,P.globalNamed nm=some g/\(P.globals[g]?).map (·.type)=some t/\W.var? P nm=some cs/\DataW.trod (fun _=>()) P W 0 (fun _=>true) false f t cs.toList=some (d,q)
 | [],_,_,_,_,c=>by cases c
 | (a,b)::r,e,h,nm,d,c=>by
   obtain⟨g,t,cs,f,s,w,i,j,k,m,o,v⟩:=h;rcases cj.1 c with c | c
   ·cases c;exact⟨g,t,cs,f,s,i,j,k,m⟩
   ·exact Iv o c
theorem RV {P:Program} {W:World} {N:Nam} {laid:List (String×DataW Unit)} {nm:String} {g k:Nat} {t e:TypeId} {ls:List Lit}
 (BL:(laid.all fun x=>x.2.handleName?.isNone)=true) (h:laidMetH P laid W) (Ce:(nm,.agg (ls.map DataW.lit))∈laid)
 (S:P.globalNamed nm=some g) (ht:(P.globals[g]?).map (·.type)=some t) (hu:P.underlying t=some (.array ls.length e)) (f:P.underlying e=some .string\/ ∃k,P.underlying e=some (.int k)) (hc:P.cellsOf e=1) (hn:P.cellsOf t=ls.length)
 (Ku:N.gm k=g) (R:N.G k=ls.map vw) (j:Nat) (x:T) (V:(N.G k)[j]? =some x):
 N.gm k<W.heap.size/\(∃e,W.shape? (N.gm k)=some (e,(N.G k).length))/\ ∃v,W.cell? ⟨N.gm k,j,none⟩=some v/\RepT W (fun r=>r<W.heap.size) N.nm v x:=by
 rw[MakeChecks.laidMetH_plain _ _ _ BL]at h;obtain⟨ps,hv,_⟩:=h;obtain⟨g0,t0,c,f0,q0,I,Mo,a,QI⟩:=Iv hv Ce;obtain rfl:=pa (S.symm.trans I);obtain rfl:=pa (ht.symm.trans Mo);obtain⟨xs,m1,rfl,E,Y,Iq,M2⟩:=DataW.trod_array hu QI;simp only[dx,DataW.agg.injEq]at E;rw[R,zJ,zE]at V;obtain⟨m,U,rfl⟩:=V;have hj:j<ls.length:=(zH.1 U).1;obtain⟨y,X⟩: ∃y,xs[j]? =some y:=⟨_,zI aa⟩
 have i:y.1= .lit m:=by
  have J:=bz (·[j]?) E.1;simp only[zJ,U,X,cZ,zA]at J;exact J.symm
 have o:=M2 j hj;rw[X,hc,jF]at o
 have D: ∀v:Value,(c.toList.drop j).take 1=[v]->c[j]? =some v:=by
  intro v w;have K:=bz (·[0]?) w;simp only[zO,fx,gV]at K;simpa using K
 have BP: ∃v,c[j]? =some v/\RepT W (fun r=>r<W.heap.size) N.nm v (vw m):=by
  rcases f with f | ⟨B,f⟩
  ·obtain⟨s,hs,FN,_⟩:=DataW.trod_string f o;have:m= .string s.data.toList:=by rw[FN]at i;simpa using i.symm
   subst this;refine⟨.string s,D _ hs,?_⟩;have:vw (.string s.data.toList)= .str s:=by simp[vw]
   rw[this];exact .str s
  ·obtain⟨q,w,P5,_⟩:=DataW.trod_int f o;have:m= .int B q:=by rw[P5]at i;simpa using i.symm
   subst this;exact⟨.int B q,D _ w,.int B q⟩
 obtain⟨v,PJ,Z⟩:=BP;have C:W.cell? ⟨g,j,none⟩=some v:=by rw[World.var?_cell I a j];exact PJ
 rw[Ku];refine⟨(cell?_spot C).2,?_,v,C,Z⟩;unfold World.var? at a;rw[S]at a;simp only[zD]at a;unfold World.shape?;split at a
 ·rename_i cs e0 z hb;simp only[zA]at a;subst a;rw[hb];refine⟨e0,?_⟩;simp only[zA,dx,nN];have L:=Y;rw[qX]at L;rw[L,R,cP,hn]
 ·cases a
theorem kcL {tbl:List Nat} {a:Nat->Option Nat} {c:Nat->Nat} {G:Nat->List T} {i:Code->Nat->C->Prop} {e o:Nat} (m: ∀q k,a q=some k->c k=q/\G k≠[]):
 Inv.Ok ⟨fun f=>tbl.findIdx? (· ==f),a,some e⟩ ⟨fun k=>tbl.getD k 0,c,G,i,e,o⟩:=by
 refine⟨fun f k h=> ?_,m,fun t h=>by cases h;rfl⟩;obtain⟨g,j,_⟩:=rz.1 h;show tbl.getD k 0=f;rw[zK,zI g];simpa using j
theorem Li {α:Type} {k:Nat} {v:α}: ∀{l:List (Nat×α)},l.lookup k=some v->(k,v)∈l
 | [],h=>by simp at h
 | (a,b)::r,h=>by
   rw[List.lookup_cons]at h;split at h
   ·rename_i c;simp only[oZ]at c;cases h;subst c;exact fh
   ·exact gt _ (Li h)
end Rg
end
section
namespace Rg
open Go
theorem VP {a b:Bool} (h:a=true) (g:b=true):(a&&b)=true:=by rw[h,g];rfl
section
variable {H:Type} {enc:TypeId×Value->H} {P:Program} {W:World} {nm μ:Nat->Nat} {HO:Nat->Option O} {y:Tys}
theorem trodAll_nil {e:Nat->Bool} {vs:List Value} {a:List (DataW H)} {c:List MemPlace} (h:DataW.TrodAll enc P W 0 e true [] vs a c):vs=[]/\a=[]:=by
 cases vs<;>cases a<;>first | exact⟨rfl,rfl⟩ | cases h
theorem trodAll_cons {f:Nat->Bool} {t:TypeId} {g:List TypeId} {vs:List Value} {a:List (DataW H)} {k:List MemPlace} (h:DataW.TrodAll enc P W 0 f true (t::g) vs a k):
 ∃v e d c p q,vs=v::e/\a=d::c/\DataW.Trod enc P W 0 f true t v d p/\DataW.TrodAll enc P W 0 f true g e c q:=by
 cases vs with
 | nil=>cases h
 | cons v vs=>
   cases a with
   | nil=>cases h
   | cons d a=>
     obtain⟨p,q,i,j,_⟩:=h;exact⟨v,vs,d,a,p,q,rfl,rfl,i,j⟩
theorem vn {t:TypeId} {c:List TypeId} {d:DataW H} {a:List (DataW H)} (h:(DataW.weightsEach P (t::c) (d::a)).all (· <=reachBytes)=true):
 (d.weights P t).all (· <=reachBytes)=true/\(DataW.weightsEach P c a).all (· <=reachBytes)=true:=by
 rw[DataW.weightsEach,nq,zF]at h;exact h
theorem kcA {α:Type} {t:TypeId} {e:Nat} {k:List (TypeId×Nat)} {f:α->List T} {good:α->Prop} {v:Value} {d:DataW H} {p:List MemPlace} {base:Nat} (i:dQ P t e k=true) (q: ∀n,Rd enc P W nm n t f good)
 (c:Value.okWide P W .any base t v) (s:DataW.Trod enc P W 0 (fun _=>true) true t v d p) (x:(d.weights P t).all (· <=reachBytes)=true):
 ∃a,good a/\aO W (fun r=>r<W.heap.size) nm μ HO v (.agg ((f a).map V.t)):=by
 obtain⟨n,o⟩:=s;obtain⟨a,m,j⟩:=q n _ _ o x;refine⟨a,m,?_⟩;simp only[dQ,zF]at i;have g:=i.1;split at g
 ·rename_i u w;unfold Value.okWide at c;rw[w]at c;obtain⟨cs,rfl,_⟩:=c;exact ka4 (by simpa[Value.cells]using j)
 ·simp at g
theorem zu {α:Type} {t:TypeId} {k:IntKind} {f:α->T} {good:α->Prop} {v:Value} {d:DataW H} {p:List MemPlace} {base:Nat} (m:dn P t k=true) (j: ∀n,Rd enc P W nm n t (fun a=>[f a]) good)
 (c:Value.okWide P W .any base t v) (o:DataW.Trod enc P W 0 (fun _=>true) true t v d p) (s:(d.weights P t).all (· <=reachBytes)=true):
 ∃a,good a/\aO W (fun r=>r<W.heap.size) nm μ HO v (.t (f a)):=by
 obtain⟨n,i⟩:=o;obtain⟨a,g,e⟩:=j n _ _ i s;refine⟨a,g,?_⟩;have q:=dn.u m;unfold Value.okWide Cell.okWide Cell.ok at c;rw[q]at c;cases v<;>first | exact ka3 (by simpa[Value.cells]using e) | exact absurd c af
theorem Prog.inMem.lite {p:Prog} (h:p.inMem):(∀x∈p.threads,x.steps.length<2^50)/\(∀c∈p.cells,c.name.size<2^50)/\(∀m∈p.modules,m.name.size<2^50/\m.owner.size<2^50)/\(∀t∈p.threads,t.name.size<2^50):=by
 have a:reachBytes<2^50:=aG
 exact⟨fun x e=>p6 (h.threads x e).steps a,fun c g=>p6 (h.cells c g) a,
  fun m f=>⟨p6 (h.modules m f).1 a,p6 (h.modules m f).2.1 a⟩,fun x e=>p6 (h.threads x e).name a⟩
end
end Rg
end
section
namespace Rg
open Go
section
variable {Γ:Nat->Option F} {G:Nat->List T}
theorem Big.det {t:Task} {o:Out} (h:Big Γ G t o): ∀{o':Out},Big Γ G t o'->o=o':=by
 induction h with
 | skip=>intro o' h';cases h';rfl
 | ret=>intro o' h';cases h';rfl
 | exit=>intro o' h';cases h';rfl
 | region _ g=>intro o' h';cases h' with | region h=>have:=g h;cases this;rfl
 | regionD _ _ g=>intro o' h';cases h' with | regionD h _=>have:=g h;cases this;rfl
 | seqN _ _ D S=>
   intro o' h'
   cases h' with
   | seqN v B=>have:=D v;cases this;exact S B
   | seqX v i=>have:=D v;cases this;exact absurd rfl i
 | seqX _ i g=>
   intro o' h'
   cases h' with
   | seqN v B=>have:=g v;cases this;exact absurd rfl i
   | seqX v i=>exact g v
 | cond X _ g=>
   intro o' h'
   cases h' with
   | cond s h=>rw[X]at s;cases s;exact g h
 | block _ g=>
   intro o' h'
   cases h' with
   | block h=>have:=g h;cases this;rfl
 | loop _ g=>
   intro o' h'
   cases h' with
   | loop h=>exact g h
 | loopN _ _ D S=>
   intro o' h'
   cases h' with
   | loopN v B=>have:=D v;cases this;exact S B
   | loopX v i=>have:=D v;cases this;exact absurd rfl i
 | loopX _ i g=>
   intro o' h'
   cases h' with
   | loopN v B=>have:=g v;cases this;exact absurd rfl i
   | loopX v i=>exact g v
 | opsNil=>intro o' h';cases h';rfl
 | opsSkip x Y _ g=>
   intro o' h'
   cases h' with
   | opsSkip a V h=>exact g h
   | opsEff a _ _ _=>rw[x]at a;cases a
   | opsPure a _ _ _ _ _ _ _ _ _ _ _=>rw[x]at a;cases a
   | opsRaw a _ _ _ _ _ _ _ _ _=>rw[x]at a;cases a
   | opsFresh a _ _ _ _ _ _ _ _ _ _ _ _=>rw[x]at a;cases a
   | opsYield a _ _ _ _ _ _ _ _ _ _ _=>rw[x]at a;cases a
 | rangeF C I w R X hl i z=>
   intro o' h'
   cases h' with
   | rangeF j m e r s CE k=>
     rw[C]at j;cases j;rw[I]at m;cases m;have:=z s;cases this;rw[hl]at CE;cases CE;rw[i]at k;cases k
     rfl
 | opsYield x Y f C hk L Ac Bi AT CL AF _ iha ihb g=>
   intro o' h'
   cases h' with
   | opsSkip a V h=>rw[x]at a;cases a
   | opsEff a _ k h=>rw[f]at k;simp[ao]at k
   | opsPure a _ c j m e r q J s Z h=>rw[f]at c;cases c
   | opsFresh a _ c _ _ _ _ _ _ _ _ _ _=>rw[f]at c;cases c
   | opsRaw a _ c j m e r q s h=>
     rw[f]at c;cases c;rw[C]at j;cases j
     simp[cG]at m
   | opsYield a _ c j Ah q BS Og EM Of HX h=>
     rw[f]at c;cases c;rw[C]at j;cases j;rw[hk]at Ah;cases Ah;rw[L]at q;cases q;have:=iha Og;cases this;rw[AT]at EM;cases EM;have:=ihb Of;cases this;rw[AF]at HX;cases HX
     exact g h
 | opsEff x Y i _ g=>
   intro o' h'
   cases h' with
   | opsSkip a V h=>rw[x]at a;cases a
   | opsEff a _ k h=>rw[i]at k;cases k;exact g h
   | opsPure a _ f _ _ _ _ _ _ _ _ _=>rw[f]at i;simp[ao]at i
   | opsRaw a _ f _ _ _ _ _ _ _=>rw[f]at i;simp[ao]at i
   | opsFresh a _ f _ _ _ _ _ _ _ _ _ _=>rw[f]at i;simp[ao]at i
   | opsYield a _ f _ _ _ _ _ _ _ _ _=>rw[f]at i;simp[ao]at i
 | opsPure x Y f C I w R L AD X hd _ z g=>
   intro o' h'
   cases h' with
   | opsSkip a V h=>rw[x]at a;cases a
   | opsEff a _ k h=>rw[f]at k;simp[ao]at k
   | opsPure a _ c j m e r q J s Z h=>
     rw[f]at c;cases c;rw[C]at j;cases j;rw[I]at m;cases m;rw[L]at q;cases q;rw[AD]at J;cases J;have:=z s;cases this
     exact g h
   | opsRaw a _ c _ _ _ _ _ _ _=>rw[f]at c;cases c
   | opsFresh a _ c _ _ _ _ _ _ _ _ _ _=>rw[f]at c;cases c
   | opsYield a _ c _ _ _ _ _ _ _ _ _=>rw[f]at c;cases c
 | opsRaw x Y f C I w R L X _ z g=>
   intro o' h'
   cases h' with
   | opsSkip a V h=>rw[x]at a;cases a
   | opsEff a _ k h=>rw[f]at k;simp[ao]at k
   | opsPure a _ c j m e r q J s Z h=>rw[f]at c;cases c
   | opsFresh a _ c _ _ _ _ _ _ _ _ _ _=>rw[f]at c;cases c
   | opsYield a _ c j _ _ _ _ _ _ _ _=>
     rw[f]at c;cases c;rw[C]at j;cases j
     simp[cG]at I
   | opsRaw a _ c j m e r q s h=>
     rw[f]at c;cases c;rw[C]at j;cases j;rw[I]at m;cases m;rw[L]at q;cases q;have:=z s;cases this
     exact g h
 | opsFresh x Y f C I w R L AD hd X i _ z g=>
   intro o' h'
   cases h' with
   | opsSkip a V h=>rw[x]at a;cases a
   | opsEff a _ k h=>rw[f]at k;simp[ao]at k
   | opsPure a _ c j m e r q J s Z h=>rw[f]at c;cases c
   | opsRaw a _ c j m e r q s h=>rw[f]at c;cases c
   | opsYield a _ c _ _ _ _ _ _ _ _ _=>rw[f]at c;cases c
   | opsFresh a _ c j m e r q J Z s k h=>
     rw[f]at c;cases c;rw[C]at j;cases j;rw[I]at m;cases m;rw[L]at q;cases q;rw[AD]at J;cases J;have:=z s;cases this;rw[i]at k;cases k
     exact g h
 | pcall w R IC i hv Bh g=>
   intro o' h'
   cases h' with
   | pcall e r h k N Jf=>
     rw[w]at e;cases e;have:=g h;cases this;rw[hv]at N;cases N;rw[Bh]at Jf;cases Jf
     rfl
   | pext e r E B=>
     rw[w]at e;cases e;rw[E]at IC
     cases IC
 | rcall w R K i hv g=>
   intro o' h'
   cases h' with
   | rcall e r h k N=>
     rw[w]at e;cases e;have:=g h;cases this;rw[hv]at N;cases N
     rfl
   | rext e r E h=>
     rw[w]at e;cases e
     rw[E]at K;cases K
 | pext w R E h=>
   intro o' h'
   cases h' with
   | pcall e r K k N Jf=>
     rw[w]at e;cases e
     rw[E]at K;cases K
   | pext e r U B=>
     rw[w]at e;cases e;rw[E]at U;cases U;rw[h]at B;cases B
     rfl
 | rext w R E h=>
   intro o' h'
   cases h' with
   | rcall e r K k N=>
     rw[w]at e;cases e
     rw[E]at K;cases K
   | rext e r U B=>
     rw[w]at e;cases e;rw[E]at U;cases U;rw[h]at B;cases B;rfl
variable (Γ G)
open Classical in
noncomputable def Den (g:Nat) (args:List V):Option V:=if h: ∃r,PC Γ G g args r then some h.choose else none
open Classical in
noncomputable def DenR (g:Nat) (args:List V) (h:Nat->Option O) (n:Nat):Option (V×(Nat->Option O)×Nat):=
 if h: ∃r:V×(Nat->Option O)×Nat,RC Γ G g args h n r.1 r.2.1 r.2.2 then some h.choose else none
open Classical in
noncomputable def DenY (k:Nat) (args:List V) (h:Nat->Option O) (n:Nat):Option (V×(Nat->Option O)×Nat):=
 if h: ∃r:V×(Nat->Option O)×Nat,YC Γ G k args h n r.1 r.2.1 r.2.2 then some h.choose else none
variable {Γ G}
theorem kcB {k:Nat} {args:List V} {h:ae} {n:Nat} {r s:V} {g i:ae} {j m:Nat} (a:YC Γ G k args h n r g j) (b:YC Γ G k args h n s i m):r=s/\g=i/\j=m:=by
 obtain⟨env,Y,S,cb,s1,enva,K,w,env',I,t,e,s2,C,X,D,f,g3'',E,rfl,rfl,rfl⟩:=a;obtain⟨env0,ps0,z,B,R,envb,L,x,env1,J,v,U,s0,o,Z,N,c,q3'',q,rfl,rfl,rfl⟩:=b;rw[C]at o;cases o;have:=D.det N;cases this;rw[f]at c;cases c;have:=g3''.det q3'';cases this;rw[E]at q;cases q;exact⟨rfl,rfl,rfl⟩
theorem xB {k:Nat} {args:List V} {h:ae} {n:Nat} {r:V} {h':ae} {c:Nat}:DenY Γ G k args h n=some (r,h',c)<->YC Γ G k args h n r h' c:=by
 unfold DenY;split
 ·rename_i h;have a:=h.choose_spec;constructor
  ·intro e;simp only[zA]at e;rw[e]at a;exact a
  ·intro e;obtain⟨f,g,i⟩:=kcB a e;simp only[zA];exact sZ f (sZ g i)
 ·rename_i h;constructor
  ·intro e;cases e
  ·intro e;exact absurd ⟨(r,h',c),e⟩ h
theorem pV {g:Nat} {args:List V} {r:V}:Den Γ G g args=some r<->PC Γ G g args r:=by
 unfold Den;split
 ·rename_i h;have a:=h.choose_spec;constructor
  ·intro e;cases e;exact a
  ·intro e;have:=Big.det a e;cases this;congr 1
 ·rename_i h;constructor
  ·intro e;cases e
  ·intro e;exact absurd ⟨r,e⟩ h
theorem jy {g:Nat} {args:List V} {h:ae} {n:Nat} {r:V} {h':ae} {c:Nat}:DenR Γ G g args h n=some (r,h',c)<->RC Γ G g args h n r h' c:=by
 unfold DenR;split
 ·rename_i h;have a:=h.choose_spec;constructor
  ·intro e;simp only[zA]at e;rw[e]at a;exact a
  ·intro e;have:=Big.det a e;simp only[Out.vals.injEq]at this;obtain⟨f,i,j⟩:=this;simp only[zA];exact sZ f (sZ i j)
 ·rename_i h;constructor
  ·intro e;cases e
  ·intro e;exact absurd ⟨(r,h',c),e⟩ h
theorem pN {g:Nat} {fn:F} {e:Ext} {args:List V} {hp h':ae} {n a:Nat} {r:V} (f:Γ g=some fn) (i:fn.raw=true) (c:fn.body= .ext e)
 (h:jo e args hp n=some (r,h',a)):DenR Γ G g args hp n=some (r,h',a):=jy.2 (.rext f i c h)
theorem SK {g:Nat} {fn:F} {e:Ext} {args:List V} {r:V} (c:Γ g=some fn) (f:fn.raw=false) (a:fn.body= .ext e)
 (h:nI e args=some r):Den Γ G g args=some r:=pV.2 (.pext c f a h)
theorem Vy {g:Nat} {args:List V} {r:V} (h:PC Γ G g args r): ∃fn,Γ g=some fn/\fn.raw=false:=by
 cases h with
 | pcall a c _ _ _ _=>exact⟨_,a,c⟩
 | pext a c _ _=>exact⟨_,a,c⟩
theorem zm {g:Nat} {args:List V} {h:ae} {n:Nat} {r:V} {h':ae} {e:Nat} (h:RC Γ G g args h n r h' e): ∃fn,Γ g=some fn/\fn.raw=true:=by
 cases h with
 | rcall a c _ _ _=>exact⟨_,a,c⟩
 | rext a c _ _=>exact⟨_,a,c⟩
@[go_sem]theorem kaN (d:Bool) (m:M) (a:Option Nat) (g:Nat) (l:List V) (K:M->Prop):
 uA Γ G d m a g l K=(m.free a {}=true/\match l.mapM (toT1 m.heap)with
  | none=>False
  | some rs=>match Den Γ G g rs with
    | none=>False
    | some r=>uG d m a l r K):=by
 apply propext;unfold uA;constructor
 ·rintro⟨e,rs,c,r,i,k,j⟩;refine⟨e,?_⟩;rw[c];simp only;rw[pV.2 i];exact j
 ·rintro⟨e,h⟩;refine⟨e,?_⟩;split at h
  ·exact h.elim
  ·rename_i rs c;split at h
   ·exact h.elim
   ·rename_i r f;exact⟨rs,c,r,pV.1 f,Vy (pV.1 f),h⟩
@[go_sem]theorem kaM (m:M) (a:Option Nat) (g:Nat) (l:List V) (K:M->Prop):
 uz Γ G m a g l K=(m.free a {}=true/\match DenR Γ G g l m.heap m.nxt with
  | none=>False
  | some (r,h',c)=>K ({ m with heap:=h',nxt:=c }.apply a { val:=r })):=by
 apply propext;unfold uz;constructor
 ·rintro⟨e,r,h',c,i,k,j⟩;refine⟨e,?_⟩;rw[jy.2 i];exact j
 ·rintro⟨e,h⟩;refine⟨e,?_⟩;split at h
  ·exact h.elim
  ·rename_i r h' c f;exact⟨r,h',c,jy.1 f,zm (jy.1 f),h⟩
theorem kbw (m:M) (a:Option Nat) (k:Nat) (l:List V) (K:M->Prop):
 vh Γ G m a k l K=(m.free a {}=true/\match DenY Γ G k l m.heap m.nxt with
  | none=>False
  | some (r,h',c)=>K ({ m with heap:=h',nxt:=c }.apply a { val:=r })):=by
 apply propext;unfold vh;constructor
 ·rintro⟨e,r,h',c,f,g⟩;refine⟨e,?_⟩;rw[xB.2 f];exact g
 ·rintro⟨e,h⟩;refine⟨e,?_⟩;split at h
  ·exact h.elim
  ·rename_i r h' c i;exact⟨r,h',c,xB.1 i,h⟩
def V.tree:V->Bool
 | .t _=>true
 | .agg cs=>cs.all fun c=>match c with | .t _=>true | _=>false
 | _=>false
theorem LW {h:ae} {v:V} (a:v.tree=true):b_ h v=[]:=by
 cases v with
 | agg cs=>
   simp only[V.tree,zN]at a;simp only[b_,no];intro c e;have:=a c e;cases c<;>simp at this
   rfl
 | t x=>rfl
 | _=>simp[V.tree]at a
attribute [go_sem] V.tree List.all_cons List.all_nil Bool.and_self
theorem kcM {g:Nat} {args:List V} {fn:F} {r:V} (a:Γ g=some fn) (c:fn.raw=false)
 (h:wpC Γ G fn.body ⟨slots args 0,fun _=>false,fun _=>none,0,0⟩ (Fin fn.results r)):Den Γ G g args=some r:=pV.2 (kcw a c h)
def qG (rs:List Res) (P:V->ae->Nat->Prop) (e:Ex) (m:M):Prop:=(∀id,e≠ .exit id)/\ ∃v,jk m.st rs=some v/\P v m.heap m.nxt
theorem kaL {g:Nat} {args:List V} {fn:F} {hp:ae} {n:Nat} {P:V->ae->Nat->Prop} (k:Γ g=some fn) (m:fn.raw=true)
 (h:wpC Γ G fn.body ⟨slots args 0,fun _=>false,hp,n,n⟩ (qG fn.results P)): ∃r h' f,DenR Γ G g args hp n=some (r,h',f)/\P r h' f:=by
 obtain⟨e,c,a,j,v,o,i⟩:=jO h;refine⟨v,c.heap,c.nxt,jy.2 ?_,i⟩;have:M.st ⟨slots args 0,fun _=>false,hp,n,n⟩=St.init args hp n:=by rw[kb1,SH]
 rw[this]at a;exact .rcall k m a j o
@[go_sem]theorem kbu (rs:List Res) (P:V->ae->Nat->Prop) (sl:Nat->Slot) (u:Nat->Bool) (h:ae) (n b:Nat):
 qG rs P .ret ⟨sl,u,h,n,b⟩= ∃v,jk (M.st ⟨sl,u,h,n,b⟩) rs=some v/\P v h n:=by simp[qG]
@[go_sem]theorem kbv (rs:List Res) (P:V->ae->Nat->Prop) (sl:Nat->Slot) (u:Nat->Bool) (h:ae) (n b:Nat):
 qG rs P .normal ⟨sl,u,h,n,b⟩= ∃v,jk (M.st ⟨sl,u,h,n,b⟩) rs=some v/\P v h n:=by simp[qG]
theorem Vw {b:C} {sl:Nat->Slot} {s:Nat->Bool} {nx a:Nat} {Q:Ex->M->Prop} (W:List Nat) (n:Nat) (Inv:Nat->(Nat->Slot)->Prop) (o:b.wrIn W=true) (g:b.noH=true)
 (c:Inv 0 sl)
 (h: ∀i f u k bs,i<=n->Inv i f->wpC Γ G b ⟨ovr W f sl,u,fun _=>none,k,bs⟩ (g_ (fun r=>SpN (i<n/\Inv (i+1) r.sl) ⟨0⟩) Q)):WL Γ G b ⟨sl,s,fun _=>none,nx,a⟩ Q:=by
 refine kc7 W o g (fun k f=> ∃i,k=n-i/\i<=n/\Inv i f) n ⟨0,aa,aa,c⟩ ?_;rintro k f u q bs ⟨i,rfl,hi,j⟩;refine yF (jO (h i f u q bs hi j)) ?_;apply yj;rintro m ⟨t,e⟩;exact⟨n-(i+1),aa,i+1,rfl,aa,e⟩
theorem kcE {b:C} {sl:Nat->Slot} {r:Nat->Bool} {hp:ae} {nx c:Nat} {Q:Ex->M->Prop} (W:List Nat) (n:Nat) (Inv:Nat->(Nat->Slot)->ae->Nat->Prop) (o:b.wrIn W=true)
 (e:Inv 0 sl hp nx)
 (h: ∀i f u h k bs,i<=n->Inv i f h k->wpC Γ G b ⟨ovr W f sl,u,h,k,bs⟩ (g_ (fun a=>SpN (i<n/\Inv (i+1) a.sl a.heap a.nxt) ⟨0⟩) Q)):WL Γ G b ⟨sl,r,hp,nx,c⟩ Q:=by
 refine Lr W o (fun k f h x=> ∃i,k=n-i/\i<=n/\Inv i f h x) n ⟨0,aa,aa,e⟩ ?_;rintro k f u h' q bs ⟨i,rfl,hi,j⟩;refine yF (jO (h i f u h' q bs hi j)) ?_;apply yj;rintro m ⟨s,g⟩;exact⟨n-(i+1),aa,i+1,rfl,aa,g⟩
end
end Rg
end
section
namespace Rg
open Go
structure W3 (c:C) (Q:Ex->M->Prop) (m:M)where
 n:Nat
structure W4 (p:Nat) (l:List ROp) (Q:M->Prop) (m:M)where
 n:Nat
structure WK {α:Type} {β:Sort _} (K:α->β)where
 n:Nat
structure WV {α:Type} (x y:α)where
 n:Nat
def pk {α:Type} (b:Bool) (x y:α) (_:WV x y):α:=match b with
 | true=>x
 | false=>y
@[go_sem]theorem zFr {α:Type} (x y:α) (w:WV x y):pk true x y w=x:=rfl
@[go_sem]theorem zFs {α:Type} (x y:α) (w:WV x y):pk false x y w=y:=rfl
theorem qD {α:Type} (i j:Nat) (x y:α) (w:WV x y):pk (j==i) x y w=if j=i then x else y:=by
 by_cases h:j=i
 ·simp[h,pk]
 ·have:(j==i)=false:=al h
  rw[this,ac h];rfl
noncomputable def updC {α:Type}:(Nat->α)->Nat->α->Nat->α:=(Classical.choice (⟨⟨@upd α,rfl⟩⟩:Nonempty {g:(Nat->α)->Nat->α->Nat->α// g= @upd α})).1
theorem cq {α:Type}: @updC α= @upd α:=(Classical.choice (⟨⟨@upd α,rfl⟩⟩:Nonempty {g:(Nat->α)->Nat->α->Nat->α// g= @upd α})).2
noncomputable def begC:(Nat->Slot)->Nat->Slot:=(Classical.choice (⟨⟨beg,rfl⟩⟩:Nonempty {g:(Nat->Slot)->Nat->Slot// g=beg})).1
theorem ss:begC=beg:=(Classical.choice (⟨⟨beg,rfl⟩⟩:Nonempty {g:(Nat->Slot)->Nat->Slot// g=beg})).2
noncomputable def ovrC:List Nat->(Nat->Slot)->(Nat->Slot)->Nat->Slot:=(Classical.choice (⟨⟨ovr,rfl⟩⟩:Nonempty {g:List Nat->(Nat->Slot)->(Nat->Slot)->Nat->Slot// g=ovr})).1
theorem uJ:ovrC=ovr:=(Classical.choice (⟨⟨ovr,rfl⟩⟩:Nonempty {g:List Nat->(Nat->Slot)->(Nat->Slot)->Nat->Slot// g=ovr})).2
def ou (k:Nat):List Nat:=(List.range (k.log2+1)).filter fun t=>(k>>> t) % 2==1
theorem Ht (k t:Nat):(ou k).contains t=((k>>> t) % 2==1):=by
 by_cases a:t<k.log2+1
 ·cases h:((k>>> t) % 2==1)with
  | true=>simp only[nQ,ou,f_,dS,a,h,kx,lE]
  | false=>simp only[nQ,ou,f_,dS,a,h,zG,sY,pX]
 ·have c:k>>> t=0:=by
   rw[Nat.shiftRight_eq_div_pow];exact Nat.div_eq_of_lt (fw Nat.lt_log2_self (rB aa aa))
  rw[c];simp only[nQ,ou,f_,dS,a,p',pX];rfl
noncomputable def slotsC:List V->Nat->Nat->Slot:=(Classical.choice (⟨⟨slots,rfl⟩⟩:Nonempty {g:List V->Nat->Nat->Slot// g=slots})).1
theorem xU:slotsC=slots:=(Classical.choice (⟨⟨slots,rfl⟩⟩:Nonempty {g:List V->Nat->Nat->Slot// g=slots})).2
noncomputable def At:(Nat->Option O)->List (Nat×O)->Nat->Option O:=(Classical.choice (⟨⟨bl,rfl⟩⟩:Nonempty {g:(Nat->Option O)->List (Nat×O)->Nat->Option O// g=bl})).1
theorem iQ:At=bl:=(Classical.choice (⟨⟨bl,rfl⟩⟩:Nonempty {g:ae->List (Nat×O)->ae// g=bl})).2
noncomputable def addC:Nat->List ROp->Nat:=(Classical.choice (⟨⟨fun n l=>n+l.length,rfl⟩⟩:Nonempty {g:Nat->List ROp->Nat// g=fun n l=>n+l.length})).1
theorem nB:addC=fun n l=>n+l.length:=(Classical.choice (⟨⟨fun n l=>n+l.length,rfl⟩⟩:Nonempty {g:Nat->List ROp->Nat// g=fun n l=>n+l.length})).2
theorem qJ (n:Nat) (l:List ROp):n<=addC n l:=by rw[nB];exact Nat.le_add_right n _
@[go_sem]theorem zAR (n:Nat) (l:List ROp):addC n l=n+l.length:=by rw[nB]
@[go_sem ↓]theorem zCq (f:Nat->Bool) (i j:Nat):updC f i true j=pk (j==i) true (f j) ⟨0⟩:=by rw[cq,qD];rfl
@[go_sem]theorem aq {α:Type} (f:Nat->α) (i j:Nat) (v:α):updC f i v j=if j=i then v else f j:=by rw[cq];rfl
@[go_sem ↓]theorem bE (h:ae):At h []=h:=by rw[iQ];rfl
@[go_sem ↓]theorem cD (h:ae) (k:Nat) (o:O) (r:List (Nat×O)):At h ((k,o)::r)=At (updC h k (some o)) r:=by rw[iQ,cq];rfl
def ob {α β:Type} (o:Option α) (K:α->Option β) (_:WK K):Option β:=o.bind K
@[go_sem]theorem zBv {α β:Type} (a:α) (K:α->Option β) (w:WK K):ob (some a) K w=K a:=rfl
def bt {α:Type} (a:Bool) (o:Option α) (K:α->Prop) (_:WK K):Prop:=match o with
 | none=>False
 | some v=>a=false/\K v
@[go_sem]theorem zym {α:Type} (v:α) (K:α->Prop) (w:WK K):bt false (some v) K w=K v:=by simp[bt]
def eE {α β:Type} (c:Bool) (o:Option (α×β)) (K:α->β->Prop) (_:WK K):Prop:=match o with
 | none=>False
 | some (a,b)=>c=false/\K a b
@[go_sem]theorem jC {α β:Type} (a:α) (b:β) (K:α->β->Prop) (w:WK K):eE false (some (a,b)) K w=K a b:=by simp[eE]
theorem vm {α β:Type} (a:Bool) (o:Option (α×β)) (K:α->β->Prop) (w:WK K) (w':WK fun y:α×β=>K y.1 y.2):eE a o K w=bt a o (fun y=>K y.1 y.2) w':=by
 cases o<;>rfl
def r7 {α β γ δ:Type} (o:Option (α×β×γ×δ)) (K:α->β->γ->δ->Prop) (_:WK K):Prop:=match o with
 | none=>False
 | some (a,b,c,d)=>K a b c d
@[go_sem]theorem zyp {α β γ δ:Type} (a:α) (b:β) (c:γ) (d:δ) (K:α->β->γ->δ->Prop) (w:WK K):r7 (some (a,b,c,d)) K w=K a b c d:=rfl
def valOf:V->Option V
 | .undef=>none
 | .lb=>none
 | v=>some v
@[go_sem]theorem zBd (x:T):valOf (.t x)=some (.t x):=rfl
@[go_sem]theorem zzw (k i l:Nat):valOf (.ms k i l)=some (.ms k i l):=rfl
@[go_sem]theorem zzx (k i l:Nat):valOf (.mp k i l)=some (.mp k i l):=rfl
@[go_sem]theorem zzy (k:Nat):valOf (.mm k)=some (.mm k):=rfl
@[go_sem]theorem zzv (k:Nat):valOf (.yl k)=some (.yl k):=rfl
@[go_sem]theorem zzz (f:Nat) (a b:List V):valOf (.fn f a b)=some (.fn f a b):=rfl
@[go_sem]theorem zxK (c:List V):valOf (.agg c)=some (.agg c):=rfl
@[go_sem]theorem zxJ (c:List V):valOf (.tup c)=some (.tup c):=rfl
abbrev tyC:=(Nat->Option F)->(Nat->List T)->C->M->(Ex->M->Prop)->Prop
abbrev tyO:=(Nat->Option F)->(Nat->List T)->Bool->Nat->List ROp->M->(M->Prop)->Prop
noncomputable def wpCo:tyC:=(Classical.choice (⟨⟨@wpC,rfl⟩⟩:Nonempty {g:tyC// g= @wpC})).1
theorem fp:wpCo= @wpC:=(Classical.choice (⟨⟨@wpC,rfl⟩⟩:Nonempty {g:tyC// g= @wpC})).2
noncomputable def WLo:tyC:=(Classical.choice (⟨⟨@WL,rfl⟩⟩:Nonempty {g:tyC// g= @WL})).1
theorem jH:WLo= @WL:=(Classical.choice (⟨⟨@WL,rfl⟩⟩:Nonempty {g:tyC// g= @WL})).2
noncomputable def wpOo:tyO:=(Classical.choice (⟨⟨@wpO,rfl⟩⟩:Nonempty {g:tyO// g= @wpO})).1
theorem cR:wpOo= @wpO:=(Classical.choice (⟨⟨@wpO,rfl⟩⟩:Nonempty {g:tyO// g= @wpO})).2
section
variable (Γ:Nat->Option F) (G:Nat->List T)
noncomputable def wC (c:C) (Q:Ex->M->Prop) (m:M) (_:W3 c Q m):Prop:=wpCo Γ G c m Q
noncomputable def wL (c:C) (Q:Ex->M->Prop) (m:M) (_:W3 c Q m):Prop:=WLo Γ G c m Q
noncomputable def wO (d:Bool) (p:Nat) (l:List ROp) (Q:M->Prop) (m:M) (_:W4 p l Q m):Prop:=wpOo Γ G d p l m Q
def aE (sl:Nat->Slot):Opd->Option V
 | .s t=>valOf (sl t).v
 | .c v=>some v
 | .g k=>some (.t (.ip (G k)))
end
section
variable {Γ:Nat->Option F} {G:Nat->List T}
@[go_sem ↓]theorem zCJ (sl:Nat->Slot) (t:Nat):aE G sl (.s t)=valOf (sl t).v:=rfl
@[go_sem ↓]theorem zCL (sl:Nat->Slot) (v:V):aE G sl (.c v)=some v:=rfl
@[go_sem ↓]theorem zCK (sl:Nat->Slot) (k:Nat):aE G sl (.g k)=some (.t (.ip (G k))):=rfl
theorem bQ (sl:Nat->Slot) (u:Nat->Bool) (h:ae) (n b:Nat) (x:Opd):evl G (M.st ⟨sl,u,h,n,b⟩) x=aE G sl x:=by
 cases x with
 | s t=>simp only[evl,M.st,aE];cases(sl t).v<;>rfl
 | c v=>rfl
 | g k=>rfl
@[go_sem ↓]theorem zAS (f:Nat->Slot) (i j:Nat) (v:V) (c:Option (List V)) (a:Option (Nat×Nat)):(updC f i ⟨v,c,a⟩ j).v=pk (j==i) v (f j).v ⟨0⟩:=by rw[cq,qD];unfold upd;split<;>rfl
@[go_sem ↓]theorem zxB (f:Nat->Slot) (i j:Nat) (v:V) (a:Option (List V)) (c:Option (Nat×Nat)):(updC f i ⟨v,a,c⟩ j).box=pk (j==i) a (f j).box ⟨0⟩:=by rw[cq,qD];unfold upd;split<;>rfl
@[go_sem ↓]theorem zze (f:Nat->Slot) (i j:Nat) (v:V) (c:Option (List V)) (a:Option (Nat×Nat)):(updC f i ⟨v,c,a⟩ j).ad=pk (j==i) a (f j).ad ⟨0⟩:=by rw[cq,qD];unfold upd;split<;>rfl
@[go_sem ↓]theorem zBc (f:Nat->Slot) (t:Nat):(begC f t).v=(f t).v:=by rw[ss];rfl
@[go_sem ↓]theorem zxH (f:Nat->Slot) (t:Nat):(begC f t).box=(f t).box:=by rw[ss];rfl
@[go_sem ↓]theorem zzr (f:Nat->Slot) (t:Nat):(begC f t).ad=none:=by rw[ss];rfl
noncomputable def ovrM (k:Nat) (f g:Nat->Slot):Nat->Slot:=ovrC (ou k) f g
theorem Sw {α:Type} (b:Bool) (x y:α) (w:WV x y):pk b x y w=if b=true then x else y:=by cases b<;>rfl
@[go_sem ↓]theorem zA0 (k:Nat) (f g:Nat->Slot) (t:Nat):(ovrM k f g t).v=pk ((k>>> t) % 2==1) (f t).v (g t).v ⟨0⟩:=by
 rw[ovrM,uJ,U_,Ht,Sw]
@[go_sem ↓]theorem zxE (k:Nat) (f g:Nat->Slot) (t:Nat):(ovrM k f g t).box=pk ((k>>> t) % 2==1) (f t).box (g t).box ⟨0⟩:=by
 rw[ovrM,uJ,kaS,Ht,Sw]
@[go_sem ↓]theorem zxC (v:V) (l:List V) (i t:Nat):(slotsC (v::l) i t).v=pk (t==i) v (slotsC l (i+1) t).v ⟨0⟩:=by rw[xU,qD];simp only[slots,upd];split<;>rfl
inductive Kf where
 | seq (y:C)
 | blk (id:Nat)
variable (Γ G) in
def i_:List Kf->(Ex->M->Prop)->Ex->M->Prop
 | [],Q=>Q
 | .seq y::ks,Q=>g_ (fun a=>wpC Γ G y a (i_ ks Q)) (i_ ks Q)
 | .blk id::ks,Q=>ot id (i_ ks Q)
abbrev tyQ:=(Nat->Option F)->(Nat->List T)->List Kf->(Ex->M->Prop)->Ex->M->Prop
noncomputable def qOf:tyQ:=(Classical.choice (⟨⟨@i_,rfl⟩⟩:Nonempty {g:tyQ// g= @i_})).1
theorem eP:qOf= @i_:=(Classical.choice (⟨⟨@i_,rfl⟩⟩:Nonempty {g:tyQ// g= @i_})).2
@[go_sem ↓]theorem zC4 (Q:Ex->M->Prop) (e:Ex) (m:M):qOf Γ G [] Q e m=Q e m:=by(try unfold wC);(try rw[fp]);rw[eP];rfl
@[go_sem ↓]theorem zCA (y:C) (a:List Kf) (Q:Ex->M->Prop) (m:M):qOf Γ G (.seq y::a) Q .normal m=wC Γ G y (qOf Γ G a Q) m ⟨0⟩:=by(try unfold wC);(try rw[fp]);rw[eP];rfl
@[go_sem ↓]theorem zCz (y:C) (a:List Kf) (Q:Ex->M->Prop) (m:M):qOf Γ G (.seq y::a) Q .ret m=qOf Γ G a Q .ret m:=by(try unfold wC);(try rw[fp]);rw[eP];rfl
@[go_sem ↓]theorem zCy (y:C) (a:List Kf) (Q:Ex->M->Prop) (m:M) (id:Nat):qOf Γ G (.seq y::a) Q (.exit id) m=qOf Γ G a Q (.exit id) m:=by(try unfold wC);(try rw[fp]);rw[eP];rfl
@[go_sem ↓]theorem zCD (i:Nat) (a:List Kf) (Q:Ex->M->Prop) (m:M):qOf Γ G (.blk i::a) Q .normal m=qOf Γ G a Q .normal m:=by rw[eP];simp[i_,ot]
@[go_sem ↓]theorem zCC (i:Nat) (a:List Kf) (Q:Ex->M->Prop) (m:M):qOf Γ G (.blk i::a) Q .ret m=qOf Γ G a Q .ret m:=by rw[eP];simp[i_,ot]
structure W6 (P R:Prop)where
 n:Nat
def ifX (b:Bool) (P R:Prop) (_:W6 P R):Prop:=match b with
 | true=>P
 | false=>R
@[go_sem]theorem zC7 (P R:Prop) (w:W6 P R):ifX true P R w=P:=rfl
@[go_sem]theorem zC8 (P R:Prop) (w:W6 P R):ifX false P R w=R:=rfl
@[go_sem ↓]theorem zCB (i id:Nat) (a:List Kf) (Q:Ex->M->Prop) (m:M):qOf Γ G (.blk i::a) Q (.exit id) m=ifX (id==i) (qOf Γ G a Q .normal m) (qOf Γ G a Q (.exit id) m) ⟨0⟩:=by
 rw[eP]
 by_cases h:id=i
 ·simp[i_,ot,h,ifX]
 ·have:(id==i)=false:=al h
  simp[i_,ot,h,this,ifX]
@[go_sem ↓]theorem zB7 (Q:Ex->M->Prop) (m:M) (w:W3 .skip Q m):wC Γ G .skip Q m w=Q .normal m:=by(try unfold wC wO);(try unfold wC);(try unfold wL);(try rw[fp]);(try rw[cR]);(try rw[jH]);(try rw[eP]);rfl
@[go_sem ↓]theorem zCS (Q:Ex->M->Prop) (m:M) (w:W3 .ret Q m):wC Γ G .ret Q m w=Q .ret m:=by(try unfold wC wO);(try unfold wC);(try unfold wL);(try rw[fp]);(try rw[cR]);(try rw[jH]);(try rw[eP]);rfl
@[go_sem ↓]theorem zCg (id:Nat) (Q:Ex->M->Prop) (m:M) (w:W3 (.exit id) Q m):wC Γ G (.exit id) Q m w=Q (.exit id) m:=by(try unfold wC wO);(try unfold wC);(try unfold wL);(try rw[fp]);(try rw[cR]);(try rw[jH]);(try rw[eP]);rfl
@[go_sem ↓]theorem zzh (d:Bool) (l:List ROp) (Q:Ex->M->Prop) (sl:Nat->Slot) (u:Nat->Bool) (h:ae) (n b:Nat) (w:W3 (.region d l) Q ⟨sl,u,h,n,b⟩):
 wC Γ G (.region d l) Q ⟨sl,u,h,n,b⟩ w=wO Γ G d 0 l (Q .normal) ⟨begC sl,fun _=>false,h,addC n l,n⟩ ⟨0⟩:=by(try unfold wC wO);(try unfold wC);(try unfold wL);(try rw[fp]);(try rw[cR]);(try rw[jH]);(try rw[eP]);rw[ss,nB];rfl
@[go_sem ↓]theorem zxD (ck:List (Nat×Nat)) (l:List ROp) (Q:Ex->M->Prop) (sl:Nat->Slot) (u:Nat->Bool) (h:ae) (n b:Nat) (w:W3 (.regionD ck l) Q ⟨sl,u,h,n,b⟩):
 wC Γ G (.regionD ck l) Q ⟨sl,u,h,n,b⟩ w=wO Γ G true 0 l (fun a=>mI G a.st l ck=true/\Q .normal a) ⟨begC sl,fun _=>false,h,addC n l,n⟩ ⟨0⟩:=by(try unfold wC wO);(try unfold wC);(try unfold wL);(try rw[fp]);(try rw[cR]);(try rw[jH]);(try rw[eP]);rw[ss,nB];rfl
@[go_sem ↓]theorem zCR (x y:C) (a:List Kf) (Q:Ex->M->Prop) (m:M) (w:W3 (.seq x y) (qOf Γ G a Q) m):wC Γ G (.seq x y) (qOf Γ G a Q) m w=wC Γ G x (qOf Γ G (.seq y::a) Q) m ⟨0⟩:=by(try unfold wC wO);(try unfold wC);(try unfold wL);(try rw[fp]);(try rw[cR]);(try rw[jH]);(try rw[eP]);rfl
@[go_sem ↓]theorem zCj (t:Nat) (x y:C) (Q:Ex->M->Prop) (sl:Nat->Slot) (u:Nat->Bool) (h:ae) (n b:Nat) (w:W3 (.cond (.s t) x y) Q ⟨sl,u,h,n,b⟩):
 wC Γ G (.cond (.s t) x y) Q ⟨sl,u,h,n,b⟩ w=qz (sl t).v (wC Γ G x Q ⟨sl,u,h,n,b⟩ ⟨0⟩) (wC Γ G y Q ⟨sl,u,h,n,b⟩ ⟨0⟩) ⟨0⟩:=by(try unfold wC wO);(try unfold wC);(try unfold wL);(try rw[fp]);(try rw[cR]);(try rw[jH]);(try rw[eP]);exact kcU sl u h n b t x y Q
@[go_sem ↓]theorem zBb (id:Nat) (x:C) (a:List Kf) (Q:Ex->M->Prop) (m:M) (w:W3 (.block id x) (qOf Γ G a Q) m):wC Γ G (.block id x) (qOf Γ G a Q) m w=wC Γ G x (qOf Γ G (.blk id::a) Q) m ⟨0⟩:=by(try unfold wC wO);(try unfold wC);(try unfold wL);(try rw[fp]);(try rw[cR]);(try rw[jH]);(try rw[eP]);rfl
@[go_sem ↓]theorem zCa (x:C) (Q:Ex->M->Prop) (m:M) (w:W3 (.loop x) Q m):wC Γ G (.loop x) Q m w=wL Γ G x Q m ⟨0⟩:=by(try unfold wC wO);(try unfold wC);(try unfold wL);(try rw[fp]);(try rw[cR]);(try rw[jH]);(try rw[eP]);rfl
@[go_sem ↓]theorem zAV (K:M->Prop) (Q:Ex->M->Prop) (m:M):g_ K Q .normal m=K m:=rfl
@[go_sem ↓]theorem zAU (K:M->Prop) (Q:Ex->M->Prop) (m:M):g_ K Q .ret m=Q .ret m:=rfl
@[go_sem ↓]theorem zAT (K:M->Prop) (Q:Ex->M->Prop) (m:M) (id:Nat):g_ K Q (.exit id) m=Q (.exit id) m:=rfl
theorem kaV {v:V} {g:Bool} {A B a:Prop} {w:Wit A B} {w':Wit A a} (h:B=a):lK v g A B w=lK v g A a w':=by
 subst h;rfl
@[go_sem ↓]theorem zCT (d:Bool) (p:Nat) (Q:M->Prop) (m:M) (w:W4 p [] Q m):wO Γ G d p [] Q m w=Q m:=by unfold wO;rw[cR];rfl
@[go_sem ↓]theorem zA3 (d:Bool) (p g:Nat) (want:Bool) (t:Nat) (op:AOp) (l:List ROp) (Q:M->Prop) (sl:Nat->Slot) (u:Nat->Bool) (h:ae) (n b:Nat)
 (w:W4 p (⟨some (g,want),some t,op⟩::l) Q ⟨sl,u,h,n,b⟩):
 wO Γ G d p (⟨some (g,want),some t,op⟩::l) Q ⟨sl,u,h,n,b⟩ w=lK (sl g).v want (wO Γ G d p (⟨none,some t,op⟩::l) Q ⟨sl,u,h,n,b⟩ ⟨0⟩)
  (bt (u t) (some V.undef) (fun v=>wO Γ G d (p+1) l Q ⟨updC sl t ⟨v,none,none⟩,u,h,n,b⟩ ⟨0⟩) ⟨0⟩) ⟨0⟩:=by
 (try rw[cq (α:=Slot)])
 (try rw[cq (α:=Bool)])
 (try rw[iQ])
 unfold wO;rw[cR];rw[WS,iI];refine kaV ?_;simp[M.free,M.apply,eO,bt,bl]
def AOp.isCall:AOp->Bool
 | .call _ _ _=>true
 | .fcall _ _=>true
 | _=>false
theorem nw {d:Bool} {p:Nat} {m:M} {a:Option Nat} {op:AOp} {K:M->Prop} (c:op.isCall=false):
 j0 Γ G d p m a op K=match ao G p m.st op with | none=>False | some e=>m.free a e=true/\K (m.apply a e):=by
 cases op<;>first | rfl | simp[AOp.isCall]at c
theorem dA {d:Bool} {p t:Nat} {op:AOp} {l:List ROp} {Q:M->Prop} {sl:Nat->Slot} {u:Nat->Bool} {h:ae} {n b:Nat} {w:W4 p (⟨none,some t,op⟩::l) Q ⟨sl,u,h,n,b⟩} {ov:Option V}
 (c:op.isCall=false) (a:ao G p (M.st ⟨sl,u,h,n,b⟩) op=ov.map fun v=>({ val:=v }:Eff)):
 wO Γ G d p (⟨none,some t,op⟩::l) Q ⟨sl,u,h,n,b⟩ w=bt (u t) ov (fun v=>wO Γ G d (p+1) l Q ⟨updC sl t ⟨v,none,none⟩,u,h,n,b⟩ ⟨0⟩) ⟨0⟩:=by
 (try rw[cq (α:=Slot)])
 (try rw[cq (α:=Bool)])
 (try rw[iQ])
 unfold wO;rw[cR];rw[iI,nw c,a]
 cases ov with
 | none=>rfl
 | some v=>simp[M.free,M.apply,eO,bt,bl]
theorem mZ {d:Bool} {p t:Nat} {op:AOp} {l:List ROp} {Q:M->Prop} {sl:Nat->Slot} {u:Nat->Bool} {h:ae} {n b:Nat} {w:W4 p (⟨none,some t,op⟩::l) Q ⟨sl,u,h,n,b⟩} {ov:Option (V×List (Nat×O))}
 (c:op.isCall=false) (a:ao G p (M.st ⟨sl,u,h,n,b⟩) op=ov.map fun v=>({ val:=v.1,hp:=v.2 }:Eff)):
 wO Γ G d p (⟨none,some t,op⟩::l) Q ⟨sl,u,h,n,b⟩ w=eE (u t) ov (fun v hp=>wO Γ G d (p+1) l Q ⟨updC sl t ⟨v,none,none⟩,u,At h hp,n,b⟩ ⟨0⟩) ⟨0⟩:=by
 rw[vm (w':=⟨0⟩)]
 (try rw[cq (α:=Slot)])
 (try rw[cq (α:=Bool)])
 (try rw[iQ])
 unfold wO;rw[cR];rw[iI,nw c,a]
 cases ov with
 | none=>rfl
 | some v=>simp[M.free,M.apply,eO,bt]
theorem yp {d:Bool} {p:Nat} {op:AOp} {l:List ROp} {Q:M->Prop} {sl:Nat->Slot} {u:Nat->Bool} {h:ae} {n b:Nat} {w:W4 p (⟨none,none,op⟩::l) Q ⟨sl,u,h,n,b⟩} {ov:Option (V×List (Nat×O))}
 (c:op.isCall=false) (a:ao G p (M.st ⟨sl,u,h,n,b⟩) op=ov.map fun v=>({ val:=v.1,hp:=v.2 }:Eff)):
 wO Γ G d p (⟨none,none,op⟩::l) Q ⟨sl,u,h,n,b⟩ w=eE false ov (fun _ hp=>wO Γ G d (p+1) l Q ⟨sl,u,At h hp,n,b⟩ ⟨0⟩) ⟨0⟩:=by
 rw[vm (w':=⟨0⟩)]
 (try rw[cq (α:=Slot)])
 (try rw[cq (α:=Bool)])
 (try rw[iQ])
 unfold wO;rw[cR];rw[iI,nw c,a]
 cases ov with
 | none=>rfl
 | some v=>simp[M.free,M.apply,eO,bt]
def wP (op:BinOp):V->V->Option V
 | .t a,.t b=>(mQ op a b).map V.t
 | _,_=>none
def mxS (mn:Bool):V->V->Option V
 | .t a,.t b=>(mxT mn a b).map V.t
 | _,_=>none
def unS (op:UnOp):V->Option V
 | .t a=>(unT op a).map V.t
 | _=>none
def l6:V->Option Bool
 | .t (.bool b)=>some b
 | _=>none
def eF:V->Option Int
 | .t (.int _ n)=>some n
 | _=>none
def wN (c:Bool) (e:List Nat):V->V->Option V
 | .agg a,.agg b=>(dB e a b).map fun r=> .t (.bool (r != c))
 | _,_=>none
def uZ (h:ae) (ag:Bool) (n:Nat):V->Option V
 | .mp k i a=>match h k with
   | some (.rows _ rs _)=>(rs[i]?).bind fun row=>(rd row a n).bind (dW ag)
   | _=>none
 | .t (.ip cs)=>(rd cs 0 n).bind fun r=>dW ag (r.map V.t)
 | _=>none
def wU (h:ae):V->Option V
 | .mp k i e=>match h k with
   | some (.rows _ _ _)=>some (.mp k i e)
   | _=>none
 | .t (.ip cs)=>some (.t (.ip cs))
 | .fn f a b=>some (.fn f a b)
 | .t (.fn f a b)=>some (.t (.fn f a b))
 | .t (.fa f c)=>some (.t (.fa f c))
 | _=>none
def yy (h:ae) (a:Nat):V->Option V
 | .mp k i o=>match h k with
   | some (.rows _ _ _)=>some (.mp k i (o+a))
   | _=>none
 | .t (.ip cs)=>some (.t (.ip (cs.drop a)))
 | _=>none
def yx (ag:Bool) (a n:Nat):V->Option V
 | .agg cs=>(rd cs a n).bind (dW ag)
 | _=>none
def uL (h:ae) (a:Nat) (n:Int):V->Option V
 | .t (.sl es)=>if 0<=n then(es[n.toNat]?).bind fun row=>if row.length=a then some (.t (.ip row))else none else none
 | .ms k j len=>match h k with
   | some (.rows sz' _ _)=>if 0<=n/\n<len/\sz'=a then some (.mp k (j+n.toNat) 0)else none
   | _=>none
 | _=>none
def yY (h:ae) (len a:Nat) (n:Int) (v:V):Option V:=
 if 0<=n/\n<len then match v with
  | .mp k j o=>match h k with
    | some (.rows _ _ _)=>some (.mp k j (o+n.toNat*a))
    | _=>none
  | .t (.ip cs)=>some (.t (.ip (cs.drop (n.toNat*a))))
  | _=>none
 else none
def zj (ag:Bool) (len a:Nat) (n:Int):V->Option V
 | .agg cs=>if 0<=n/\n<len then(rd cs (n.toNat*a) a).bind (dW ag)else none
 | _=>none
def yK (n:Int):V->Option V
 | .t (.str b)=>if 0<=n then(b[n.toNat]?).map fun c=> .t (.int .u8 c.toNat)else none
 | _=>none
def yH (i:Nat):V->Option V
 | .tup cs=>cs[i]?
 | _=>none
def lenS (h:ae):V->Option Nat
 | .t .nils=>some 0
 | .t (.sl es)=>some es.length
 | .t (.slc es)=>some es.length
 | .ms k _ len=>match h k with
   | some (.rows _ _ _)=>some len
   | _=>none
 | _=>none
def Tr:V->Option V
 | .t (.str b)=>some (.t (.int .i64 b.size))
 | _=>none
def rowsS (h:ae):V->Option (List (List V))
 | .t .nils=>some []
 | .t (.sl es)=>some (es.map (·.map V.t))
 | .t (.slc es)=>some (es.map (·.map V.t))
 | .ms k i len=>match h k with
   | some (.rows _ rs _)=>rd rs i len
   | _=>none
 | _=>none
attribute [go_sem] wP mxS unS l6 eF wN uZ wU yy yx uL yY zj yK yH Tr
@[go_sem]theorem zyE (h:ae):lenS h (.t .nils)=some 0:=rfl
@[go_sem]theorem zBC (h:ae) (es:List (List T)):lenS h (.t (.sl es))=some es.length:=rfl
@[go_sem]theorem zBD (h:ae) (k i len:Nat):lenS h (.ms k i len)=match h k with
 | some (.rows _ _ _)=>some len
 | _=>none:=rfl
@[go_sem]theorem zxs (h:ae):rowsS h (.t .nils)=some []:=rfl
@[go_sem]theorem zzC (h:ae) (es:List (List T)):rowsS h (.t (.sl es))=some (es.map (·.map V.t)):=rfl
@[go_sem]theorem zzD (h:ae) (k i len:Nat):rowsS h (.ms k i len)=match h k with
 | some (.rows _ rs _)=>rd rs i len
 | _=>none:=rfl
variable (G) in
def dY (sl:Nat->Slot):List Opd->Option (List V)
 | []=>some []
 | x::xs=>ob (aE G sl x) (fun v=>ob (dY sl xs) (fun vs=>some (v::vs)) ⟨0⟩) ⟨0⟩
@[go_sem ↓]theorem zyS (sl:Nat->Slot):dY G sl []=some []:=rfl
@[go_sem ↓]theorem XN (sl:Nat->Slot) (x:Opd) (xs:List Opd):dY G sl (x::xs)=ob (aE G sl x) (fun v=>ob (dY G sl xs) (fun vs=>some (v::vs)) ⟨0⟩) ⟨0⟩:=rfl
theorem oe (sl:Nat->Slot) (u:Nat->Bool) (h:ae) (n b:Nat): ∀xs:List Opd,cY G (M.st ⟨sl,u,h,n,b⟩) xs=dY G sl xs
 | []=>rfl
 | x::xs=>by
   rw[cY,XN,bQ,oe sl u h n b xs];rfl
theorem lI (sl:Nat->Slot) (u:Nat->Bool) (h:ae) (n b:Nat) (x:Opd):eZ G (M.st ⟨sl,u,h,n,b⟩) x=(aE G sl x).bind eF:=by
 rw[eZ,bQ]
 cases aE G sl x with
 | none=>rfl
 | some v=>cases v with
   | t x=>cases x<;>rfl
   | _=>rfl
theorem NP (sl:Nat->Slot) (u:Nat->Bool) (h:ae) (n b:Nat) (x:Opd):ib G (M.st ⟨sl,u,h,n,b⟩) x=(aE G sl x).bind l6:=by
 rw[ib,bQ]
 cases aE G sl x with
 | none=>rfl
 | some v=>cases v with
   | t x=>cases x<;>rfl
   | _=>rfl
variable (d:Bool) (p:Nat) (l:List ROp) (Q:M->Prop) (sl:Nat->Slot) (u:Nat->Bool) (h:Nat->Option O) (n b:Nat)
@[go_sem ↓]theorem zFm (t:Nat) (x:Opd) (w:W4 _ _ _ _):
 wO Γ G d p (⟨none,some t,.mv x⟩::l) Q ⟨sl,u,h,n,b⟩ w=bt (u t) (aE G sl x) (fun v=>wO Γ G d (p+1) l Q ⟨updC sl t ⟨v,none,none⟩,u,h,n,b⟩ ⟨0⟩) ⟨0⟩:=by
 refine dA rfl ?_;simp only[ao,bQ];cases aE G sl x<;>rfl
@[go_sem ↓]theorem zzj (t:Nat) (x:Opd) (w:W4 _ _ _ _):
 wO Γ G d p (⟨none,some t,.nilchk x⟩::l) Q ⟨sl,u,h,n,b⟩ w=bt (u t) (ob (aE G sl x) (wU h) ⟨0⟩) (fun v=>wO Γ G d (p+1) l Q ⟨updC sl t ⟨v,none,none⟩,u,h,n,b⟩ ⟨0⟩) ⟨0⟩:=by
 refine dA rfl ?_;simp only[ao,bQ,ob]
 cases aE G sl x with
 | none=>rfl
 | some v=>cases v with
   | mp k i a=>simp only[zC,zD,wU,M.st];cases h k with
     | none=>rfl
     | some o=>cases o<;>rfl
   | t x=>cases x<;>rfl
   | _=>rfl
@[go_sem ↓]theorem zCZ (t:Nat) (op:BinOp) (x y:Opd) (w:W4 _ _ _ _):
 wO Γ G d p (⟨none,some t,.bin op x y⟩::l) Q ⟨sl,u,h,n,b⟩ w=bt (u t) (ob (aE G sl x) (fun a=>ob (aE G sl y) (wP op a) ⟨0⟩) ⟨0⟩) (fun v=>wO Γ G d (p+1) l Q ⟨updC sl t ⟨v,none,none⟩,u,h,n,b⟩ ⟨0⟩) ⟨0⟩:=by
 refine dA rfl ?_;simp only[ao,bQ,ob]
 cases aE G sl x with
 | none=>rfl
 | some v=>cases aE G sl y with
   | none=>rfl
   | some e=>cases v<;>cases e<;>simp only[zC,zD,wP,np]
             rename_i a c;cases mQ op a c<;>rfl
@[go_sem ↓]theorem zFl (t:Nat) (mn:Bool) (x y:Opd) (w:W4 _ _ _ _):
 wO Γ G d p (⟨none,some t,.mx mn x y⟩::l) Q ⟨sl,u,h,n,b⟩ w=bt (u t) (ob (aE G sl x) (fun a=>ob (aE G sl y) (mxS mn a) ⟨0⟩) ⟨0⟩) (fun v=>wO Γ G d (p+1) l Q ⟨updC sl t ⟨v,none,none⟩,u,h,n,b⟩ ⟨0⟩) ⟨0⟩:=by
 refine dA rfl ?_;simp only[ao,bQ,ob]
 cases aE G sl x with
 | none=>rfl
 | some v=>cases aE G sl y with
   | none=>rfl
   | some e=>cases v<;>cases e<;>simp only[zC,zD,mxS,np]
             rename_i a c;cases mxT mn a c<;>rfl
@[go_sem ↓]theorem zFk (t:Nat) (op:UnOp) (x:Opd) (w:W4 _ _ _ _):
 wO Γ G d p (⟨none,some t,.un op x⟩::l) Q ⟨sl,u,h,n,b⟩ w=bt (u t) (ob (aE G sl x) (unS op) ⟨0⟩) (fun v=>wO Γ G d (p+1) l Q ⟨updC sl t ⟨v,none,none⟩,u,h,n,b⟩ ⟨0⟩) ⟨0⟩:=by
 refine dA rfl ?_;simp only[ao,bQ,ob]
 cases aE G sl x with
 | none=>rfl
 | some v=>cases v<;>simp only[zC,zD,unS,np]
           rename_i a;cases unT op a<;>rfl
@[go_sem ↓]theorem zCX (t:Nat) (c:Bool) (x y:Opd) (w:W4 _ _ _ _):
 wO Γ G d p (⟨none,some t,.eqb c x y⟩::l) Q ⟨sl,u,h,n,b⟩ w=bt (u t) (ob (aE G sl x) (fun a=>ob (l6 a) (fun a=>ob (aE G sl y) (fun b=>ob (l6 b) (fun b=>some (.t (.bool ((a==b) != c)))) ⟨0⟩) ⟨0⟩) ⟨0⟩) ⟨0⟩) (fun v=>wO Γ G d (p+1) l Q ⟨updC sl t ⟨v,none,none⟩,u,h,n,b⟩ ⟨0⟩) ⟨0⟩:=by
 refine dA rfl ?_;simp only[ao,NP,ob]
 cases aE G sl x with
 | none=>rfl
 | some v=>simp only[zC,zD];cases l6 v with
   | none=>rfl
   | some a=>cases aE G sl y with
     | none=>rfl
     | some e=>simp only[zC,zD];cases l6 e<;>rfl
@[go_sem ↓]theorem zCY (t:Nat) (e:Bool) (f:List Nat) (x y:Opd) (w:W4 _ _ _ _):
 wO Γ G d p (⟨none,some t,.eqa e f x y⟩::l) Q ⟨sl,u,h,n,b⟩ w=bt (u t) (ob (aE G sl x) (fun a=>ob (aE G sl y) (wN e f a) ⟨0⟩) ⟨0⟩) (fun v=>wO Γ G d (p+1) l Q ⟨updC sl t ⟨v,none,none⟩,u,h,n,b⟩ ⟨0⟩) ⟨0⟩:=by
 refine dA rfl ?_;simp only[ao,bQ,ob]
 cases aE G sl x with
 | none=>rfl
 | some v=>cases aE G sl y with
   | none=>rfl
   | some g=>cases v<;>cases g<;>simp only[zC,zD,wN,np]
             rename_i a c;cases dB f a c<;>rfl
@[go_sem ↓]theorem zCi (t:Nat) (k:IntKind) (x:Opd) (w:W4 _ _ _ _):
 wO Γ G d p (⟨none,some t,.conv k x⟩::l) Q ⟨sl,u,h,n,b⟩ w=bt (u t) (ob (aE G sl x) (fun v=>ob (eF v) (fun n=>some (.t (.int k (k.wrap n)))) ⟨0⟩) ⟨0⟩) (fun v=>wO Γ G d (p+1) l Q ⟨updC sl t ⟨v,none,none⟩,u,h,n,b⟩ ⟨0⟩) ⟨0⟩:=by
 refine dA rfl ?_;simp only[ao,lI,ob]
 cases aE G sl x with
 | none=>rfl
 | some v=>simp only[zC,zD];cases eF v<;>rfl
@[go_sem ↓]theorem zCb (t:Nat) (ag:Bool) (k:Nat) (x:Opd) (w:W4 _ _ _ _):
 wO Γ G d p (⟨none,some t,.load ag k x⟩::l) Q ⟨sl,u,h,n,b⟩ w=bt (u t) (ob (aE G sl x) (uZ h ag k) ⟨0⟩) (fun v=>wO Γ G d (p+1) l Q ⟨updC sl t ⟨v,none,none⟩,u,h,n,b⟩ ⟨0⟩) ⟨0⟩:=by
 refine dA rfl ?_;simp only[ao,bQ,ob]
 cases aE G sl x with
 | none=>rfl
 | some v=>cases v with
   | mp j i a=>simp only[zC,zD,uZ,M.st];cases h j with
     | none=>rfl
     | some o=>cases o with
       | rows s rs z=>
         simp only
         cases rs[i]? with
         | none=>rfl
         | some row=>simp only[zD];cases rd row a k with
           | none=>rfl
           | some r=>simp only[zD];cases dW ag r<;>rfl
       | _=>rfl
   | t x=>cases x with
     | ip cs=>simp only[zC,zD,uZ];cases rd cs 0 k with
       | none=>rfl
       | some r=>simp only[zD];cases dW ag (r.map V.t)<;>rfl
     | _=>rfl
   | _=>rfl
@[go_sem ↓]theorem zA8 (t:Nat) (a:Nat) (x:Opd) (w:W4 _ _ _ _):
 wO Γ G d p (⟨none,some t,.faddr a x⟩::l) Q ⟨sl,u,h,n,b⟩ w=bt (u t) (ob (aE G sl x) (yy h a) ⟨0⟩) (fun v=>wO Γ G d (p+1) l Q ⟨updC sl t ⟨v,none,none⟩,u,h,n,b⟩ ⟨0⟩) ⟨0⟩:=by
 refine dA rfl ?_;simp only[ao,bQ,ob]
 cases aE G sl x with
 | none=>rfl
 | some v=>cases v with
   | mp k i o=>simp only[zC,zD,yy,M.st];cases h k with
     | none=>rfl
     | some o=>cases o<;>rfl
   | t x=>cases x<;>rfl
   | _=>rfl
@[go_sem ↓]theorem zA6 (t:Nat) (ag:Bool) (a k:Nat) (x:Opd) (w:W4 _ _ _ _):
 wO Γ G d p (⟨none,some t,.field ag a k x⟩::l) Q ⟨sl,u,h,n,b⟩ w=bt (u t) (ob (aE G sl x) (yx ag a k) ⟨0⟩) (fun v=>wO Γ G d (p+1) l Q ⟨updC sl t ⟨v,none,none⟩,u,h,n,b⟩ ⟨0⟩) ⟨0⟩:=by
 refine dA rfl ?_;simp only[ao,bQ,ob]
 cases aE G sl x with
 | none=>rfl
 | some v=>cases v with
   | agg cs=>simp only[zC,zD,yx];cases rd cs a k with
     | none=>rfl
     | some r=>simp only[zD];cases dW ag r<;>rfl
   | _=>rfl
@[go_sem ↓]theorem zzm (t:Nat) (a:Nat) (x i:Opd) (w:W4 _ _ _ _):
 wO Γ G d p (⟨none,some t,.iaddrS a x i⟩::l) Q ⟨sl,u,h,n,b⟩ w=bt (u t) (ob (aE G sl i) (fun v=>ob (eF v) (fun k=>ob (aE G sl x) (uL h a k) ⟨0⟩) ⟨0⟩) ⟨0⟩) (fun v=>wO Γ G d (p+1) l Q ⟨updC sl t ⟨v,none,none⟩,u,h,n,b⟩ ⟨0⟩) ⟨0⟩:=by
 refine dA rfl ?_;simp only[ao,bQ,lI,ob]
 cases aE G sl i with
 | none=>rfl
 | some v=>simp only[zC,zD];cases eF v with
   | none=>rfl
   | some k=>cases aE G sl x with
     | none=>rfl
     | some v=>cases v with
       | ms q j len=>simp only[zD,uL,M.st];cases h q with
         | none=>rfl
         | some o=>cases o with
           | rows s rs z=>simp only;split<;>rfl
           | _=>rfl
       | t x=>cases x with
         | sl es=>
           simp only[zD,uL];split
           ·cases es[k.toNat]? with
            | none=>rfl
            | some row=>simp only[zD];split<;>rfl
           ·rfl
         | _=>rfl
       | _=>rfl
@[go_sem ↓]theorem zzn (t:Nat) (len a:Nat) (x i:Opd) (w:W4 _ _ _ _):
 wO Γ G d p (⟨none,some t,.iaddrA len a x i⟩::l) Q ⟨sl,u,h,n,b⟩ w=bt (u t) (ob (aE G sl i) (fun v=>ob (eF v) (fun k=>ob (aE G sl x) (yY h len a k) ⟨0⟩) ⟨0⟩) ⟨0⟩) (fun v=>wO Γ G d (p+1) l Q ⟨updC sl t ⟨v,none,none⟩,u,h,n,b⟩ ⟨0⟩) ⟨0⟩:=by
 refine dA rfl ?_;simp only[ao,bQ,lI,ob]
 cases aE G sl i with
 | none=>rfl
 | some v=>simp only[zC,zD];cases eF v with
   | none=>rfl
   | some k=>cases aE G sl x with
     | none=>simp
     | some v=>simp only[zD,yY];split
               ·cases v with
                | mp q j o=>simp only[M.st];cases h q with
                  | none=>rfl
                  | some o=>cases o<;>rfl
                | t x=>cases x<;>rfl
                | _=>rfl
               ·rfl
@[go_sem ↓]theorem zCd (t:Nat) (ag:Bool) (len a:Nat) (x i:Opd) (w:W4 _ _ _ _):
 wO Γ G d p (⟨none,some t,.idxA ag len a x i⟩::l) Q ⟨sl,u,h,n,b⟩ w=bt (u t) (ob (aE G sl i) (fun v=>ob (eF v) (fun k=>ob (aE G sl x) (zj ag len a k) ⟨0⟩) ⟨0⟩) ⟨0⟩) (fun v=>wO Γ G d (p+1) l Q ⟨updC sl t ⟨v,none,none⟩,u,h,n,b⟩ ⟨0⟩) ⟨0⟩:=by
 refine dA rfl ?_;simp only[ao,bQ,lI,ob]
 cases aE G sl i with
 | none=>rfl
 | some v=>simp only[zC,zD];cases eF v with
   | none=>rfl
   | some k=>cases aE G sl x with
     | none=>rfl
     | some v=>cases v with
       | agg cs=>
         simp only[zD,zj];split
         ·cases rd cs (k.toNat*a) a with
          | none=>rfl
          | some r=>simp only[zD];cases dW ag r<;>rfl
         ·rfl
       | _=>rfl
@[go_sem ↓]theorem zCc (t:Nat) (x i:Opd) (w:W4 _ _ _ _):
 wO Γ G d p (⟨none,some t,.idxS x i⟩::l) Q ⟨sl,u,h,n,b⟩ w=bt (u t) (ob (aE G sl i) (fun v=>ob (eF v) (fun k=>ob (aE G sl x) (yK k) ⟨0⟩) ⟨0⟩) ⟨0⟩) (fun v=>wO Γ G d (p+1) l Q ⟨updC sl t ⟨v,none,none⟩,u,h,n,b⟩ ⟨0⟩) ⟨0⟩:=by
 refine dA rfl ?_;simp only[ao,bQ,lI,ob]
 cases aE G sl i with
 | none=>rfl
 | some v=>simp only[zC,zD];cases eF v with
   | none=>rfl
   | some k=>cases aE G sl x with
     | none=>rfl
     | some v=>cases v with
       | t x=>cases x with
         | str s=>
           simp only[zD,yK];split
           ·cases s[k.toNat]? <;>rfl
           ·rfl
         | _=>rfl
       | _=>rfl
@[go_sem ↓]theorem zCf (t:Nat) (x:Opd) (i:Nat) (w:W4 _ _ _ _):
 wO Γ G d p (⟨none,some t,.extr x i⟩::l) Q ⟨sl,u,h,n,b⟩ w=bt (u t) (ob (aE G sl x) (yH i) ⟨0⟩) (fun v=>wO Γ G d (p+1) l Q ⟨updC sl t ⟨v,none,none⟩,u,h,n,b⟩ ⟨0⟩) ⟨0⟩:=by
 refine dA rfl ?_;simp only[ao,bQ,ob]
 cases aE G sl x with
 | none=>rfl
 | some v=>cases v with
   | tup cs=>simp only[zC,zD,yH];cases cs[i]? <;>rfl
   | _=>rfl
theorem yN (sl:Nat->Slot) (u:Nat->Bool) (h:ae) (n b:Nat) (v:V):lenOf (M.st ⟨sl,u,h,n,b⟩) v=lenS h v:=by
 cases v with
 | t x=>cases x<;>rfl
 | ms k i len=>simp only[lenOf,lenS,M.st];cases h k with
   | none=>rfl
   | some o=>cases o<;>rfl
 | _=>rfl
theorem x6 (sl:Nat->Slot) (u:Nat->Bool) (h:ae) (n b:Nat) (v:V):gJ (M.st ⟨sl,u,h,n,b⟩) v=rowsS h v:=by
 cases v with
 | t x=>cases x<;>rfl
 | ms k i len=>simp only[gJ,rowsS,M.st];cases h k with
   | none=>rfl
   | some o=>cases o<;>rfl
 | _=>rfl
@[go_sem ↓]theorem zCU (t:Nat) (x:Opd) (w:W4 _ _ _ _):
 wO Γ G d p (⟨none,some t,.len x⟩::l) Q ⟨sl,u,h,n,b⟩ w=bt (u t) (ob (aE G sl x) (fun v=>ob (lenS h v) (fun k=>some (.t (.int .i64 k))) ⟨0⟩) ⟨0⟩) (fun v=>wO Γ G d (p+1) l Q ⟨updC sl t ⟨v,none,none⟩,u,h,n,b⟩ ⟨0⟩) ⟨0⟩:=by
 refine dA rfl ?_;simp only[ao,bQ,ob,yN]
 cases aE G sl x with
 | none=>rfl
 | some v=>simp only[zC,zD];cases lenS h v<;>rfl
@[go_sem ↓]theorem zCm (t:Nat) (x:Opd) (w:W4 _ _ _ _):
 wO Γ G d p (⟨none,some t,.bstr x⟩::l) Q ⟨sl,u,h,n,b⟩ w=bt (u t) (ob (aE G sl x) (fun v=>ob (rowsS h v) (fun c=>ob (bytesOf c) (fun y=>some (.t (.str ⟨y.toArray⟩))) ⟨0⟩) ⟨0⟩) ⟨0⟩) (fun v=>wO Γ G d (p+1) l Q ⟨updC sl t ⟨v,none,none⟩,u,h,n,b⟩ ⟨0⟩) ⟨0⟩:=by
 refine dA rfl ?_;simp only[ao,bQ,ob,x6]
 cases aE G sl x with
 | none=>rfl
 | some v=>
   simp only[zC,zD]
   cases rowsS h v with
   | none=>rfl
   | some c=>simp only[zD];cases bytesOf c<;>rfl
@[go_sem ↓]theorem zB6 (t:Nat) (x:Opd) (w:W4 _ _ _ _):
 wO Γ G d p (⟨none,some t,.slen x⟩::l) Q ⟨sl,u,h,n,b⟩ w=bt (u t) (ob (aE G sl x) Tr ⟨0⟩) (fun v=>wO Γ G d (p+1) l Q ⟨updC sl t ⟨v,none,none⟩,u,h,n,b⟩ ⟨0⟩) ⟨0⟩:=by
 refine dA rfl ?_;simp only[ao,bQ,ob]
 cases aE G sl x with
 | none=>rfl
 | some v=>cases v with
   | t x=>cases x<;>rfl
   | _=>rfl
def Cb (v:V):Option V:=match v with
 | .t .nils=>some (.t (.int .i64 0))
 | _=>none
@[go_sem]theorem zCN:Cb (.t .nils)=some (.t (.int .i64 0)):=rfl
@[go_sem ↓]theorem zCk (t:Nat) (x:Opd) (w:W4 _ _ _ _):
 wO Γ G d p (⟨none,some t,.capN x⟩::l) Q ⟨sl,u,h,n,b⟩ w=bt (u t) (ob (aE G sl x) Cb ⟨0⟩) (fun v=>wO Γ G d (p+1) l Q ⟨updC sl t ⟨v,none,none⟩,u,h,n,b⟩ ⟨0⟩) ⟨0⟩:=by
 refine dA rfl ?_;simp only[ao,bQ,ob]
 cases aE G sl x with
 | none=>rfl
 | some v=>cases v with
   | t x=>cases x<;>rfl
   | _=>rfl
def zq (o:Option V) (A B:Prop) (w:Wit A B):Prop:=match o with
 | some v=>qz v A B w
 | none=>False
@[go_sem]theorem zBS (b:Bool) (A B:Prop) (w:Wit A B):zq (some (.t (.bool b))) A B w=eS b A B w:=rfl
@[go_sem ↓]theorem zB8 (t:Nat) (c x y:Opd) (w:W4 _ _ _ _):
 wO Γ G d p (⟨none,some t,.pick c x y⟩::l) Q ⟨sl,u,h,n,b⟩ w=zq (aE G sl c)
  (bt (u t) (aE G sl x) (fun v=>wO Γ G d (p+1) l Q ⟨updC sl t ⟨v,none,none⟩,u,h,n,b⟩ ⟨0⟩) ⟨0⟩)
  (bt (u t) (aE G sl y) (fun v=>wO Γ G d (p+1) l Q ⟨updC sl t ⟨v,none,none⟩,u,h,n,b⟩ ⟨0⟩) ⟨0⟩) ⟨0⟩:=by
 rw[dA (ov:=((aE G sl c).bind l6).bind fun t=>aE G sl (if t then x else y)) rfl (by
  simp only[ao,bQ,NP]
  cases(aE G sl c).bind l6 with
  | none=>rfl
  | some v=>simp only[zC,zD];cases aE G sl (if v=true then x else y)<;>rfl)]
 cases aE G sl c with
 | none=>rfl
 | some v=>cases v with
   | t z=>cases z with
     | bool z=>cases z<;>simp[zq,qz,eS,l6]
     | _=>rfl
   | _=>rfl
@[go_sem ↓]theorem zzt (t:Nat) (cs:List V) (w:W4 _ _ _ _):
 wO Γ G d p (⟨none,some t,.allocL cs⟩::l) Q ⟨sl,u,h,n,b⟩ w=bt (u t) (some cs) (fun cs=>wO Γ G d (p+1) l Q ⟨updC sl t ⟨.lb,some cs,none⟩,u,h,n,b⟩ ⟨0⟩) ⟨0⟩:=by
 (try rw[cq (α:=Slot)])
 (try rw[cq (α:=Bool)])
 (try rw[iQ])
 unfold wO;rw[cR];rw[iI,nw rfl];simp[ao,M.free,M.apply,eO,bt,bl]
@[go_sem ↓]theorem zCn (t k:Nat) (x:Opd) (w:W4 _ _ _ _):
 wO Γ G d p (⟨none,some t,.boxL k x⟩::l) Q ⟨sl,u,h,n,b⟩ w=bt (u t) (ob (aE G sl x) (fun v=>ob v.cells (fun cs=>if cs.length=k then some cs else none) ⟨0⟩) ⟨0⟩)
  (fun cs=>wO Γ G d (p+1) l Q ⟨updC sl t ⟨.lb,some cs,none⟩,u,h,n,b⟩ ⟨0⟩) ⟨0⟩:=by
 (try rw[cq (α:=Slot)])
 (try rw[cq (α:=Bool)])
 (try rw[iQ])
 unfold wO;rw[cR];rw[iI,nw rfl];simp only[ao,bQ,ob]
 cases aE G sl x with
 | none=>rfl
 | some v=>
   simp only[zC,zD]
   cases v.cells with
   | none=>rfl
   | some cs=>
     simp only[zD]
     by_cases a:cs.length=k
     ·simp[M.free,M.apply,eO,bt,bl,a]
     ·simp[bt,a]
def m_ {β:Type} (a:Option (Nat×Nat)) (v:V) (t:Nat) (K:Nat->Nat->Option β) (_:WK K):Option β:=match a with
 | some r=>K r.1 r.2
 | none=>match v with
   | .lb=>K t 0
   | _=>none
@[go_sem]theorem zyh {β:Type} (a o:Nat) (v:V) (t:Nat) (K:Nat->Nat->Option β) (w:WK K):m_ (some (a,o)) v t K w=K a o:=rfl
@[go_sem]theorem zBq {β:Type} (t:Nat) (K:Nat->Nat->Option β) (w:WK K):m_ none .lb t K w=K t 0:=rfl
theorem vl (sl:Nat->Slot) (u:Nat->Bool) (h:ae) (n b t:Nat) {β:Type} (K:Nat->Nat->Option β) (w:WK K):
 ((bF (M.st ⟨sl,u,h,n,b⟩) (.s t)).bind fun r=>K r.1 r.2)=m_ (sl t).ad (sl t).v t K w:=by
 simp only[bF,M.st,m_]
 cases(sl t).ad with
 | some r=>rfl
 | none=>cases(sl t).v<;>rfl
@[go_sem ↓]theorem zA2 (t:Nat) (ag:Bool) (k a:Nat) (w:W4 _ _ _ _):
 wO Γ G d p (⟨none,some t,.loadL ag k (.s a)⟩::l) Q ⟨sl,u,h,n,b⟩ w=bt (u t) (m_ (sl a).ad (sl a).v a (fun r c=>ob (sl r).box (fun cs=>ob (rd cs c k) (dW ag) ⟨0⟩) ⟨0⟩) ⟨0⟩) (fun v=>wO Γ G d (p+1) l Q ⟨updC sl t ⟨v,none,none⟩,u,h,n,b⟩ ⟨0⟩) ⟨0⟩:=by
 refine dA rfl ?_;rw[<- vl sl u h n b a];simp only[ao,ob]
 cases bF (M.st ⟨sl,u,h,n,b⟩) (.s a)with
 | none=>rfl
 | some r=>
   simp only[zC,zD,M.st]
   cases(sl r.1).box with
   | none=>rfl
   | some cs=>simp only[zD];cases rd cs r.2 k with
     | none=>rfl
     | some x=>simp only[zD];cases dW ag x<;>rfl
@[go_sem ↓]theorem zzf (k a:Nat) (x:Opd) (w:W4 _ _ _ _):
 wO Γ G d p (⟨none,none,.storeL k (.s a) x⟩::l) Q ⟨sl,u,h,n,b⟩ w=
  r7 (m_ (sl a).ad (sl a).v a (fun r f=>ob (sl r).box (fun cs=>ob (aE G sl x) (fun v=>ob v.cells (fun c=>if c.length=k then ob (wr cs f c) (fun cs'=>some (r,(sl r).v,cs',(sl r).ad)) ⟨0⟩else none) ⟨0⟩) ⟨0⟩) ⟨0⟩) ⟨0⟩)
   (fun r v cs g=>wO Γ G d (p+1) l Q ⟨updC sl r ⟨v,some cs,g⟩,u,h,n,b⟩ ⟨0⟩) ⟨0⟩:=by
 (try rw[cq (α:=Slot)])
 (try rw[cq (α:=Bool)])
 (try rw[iQ])
 unfold wO;rw[cR];rw[iI,nw rfl,<- vl sl u h n b a];simp only[ao,ob,bQ]
 cases bF (M.st ⟨sl,u,h,n,b⟩) (.s a)with
 | none=>rfl
 | some r=>
   simp only[zC,zD,M.st]
   cases(sl r.1).box with
   | none=>rfl
   | some cs=>simp only[zD];cases aE G sl x with
     | none=>rfl
     | some v=>simp only[zD];cases v.cells with
       | none=>rfl
       | some c=>
         simp only[zD]
         by_cases e:c.length=k
         ·cases wr cs r.2 c with
          | none=>simp[r7,e]
          | some cs'=>simp[M.free,M.apply,eO,r7,bl,e]
         ·simp[r7,e]
@[go_sem ↓]theorem zzo (t c a:Nat) (w:W4 _ _ _ _):
 wO Γ G d p (⟨none,some t,.faddrL c (.s a)⟩::l) Q ⟨sl,u,h,n,b⟩ w=
  eE (u t) (m_ (sl a).ad (sl a).v a (fun r o=>if(sl r).box.isSome=true/\r≠t then some (r,o+c)else none) ⟨0⟩)
   (fun r o=>wO Γ G d (p+1) l Q ⟨updC sl t ⟨.lb,none,some (r,o)⟩,updC u r true,h,n,b⟩ ⟨0⟩) ⟨0⟩:=by
 rw[vm (w':=⟨0⟩)]
 (try rw[cq (α:=Slot)])
 (try rw[cq (α:=Bool)])
 (try rw[iQ])
 unfold wO;rw[cR];rw[iI,nw rfl,<- vl sl u h n b a];simp only[ao]
 cases bF (M.st ⟨sl,u,h,n,b⟩) (.s a)with
 | none=>rfl
 | some r=>
   simp only[zC,zD,M.st]
   cases(sl r.1).box with
   | none=>simp[bt]
   | some cs=>
     simp only[zD,qW,nN]
     by_cases e:r.1=t
     ·simp[M.free,bt,e]
     ·simp[M.free,M.apply,eO,bt,bl,e]
@[go_sem ↓]theorem zxG (t len f a:Nat) (i:Opd) (w:W4 _ _ _ _):
 wO Γ G d p (⟨none,some t,.iaddrAL len f (.s a) i⟩::l) Q ⟨sl,u,h,n,b⟩ w=
  eE (u t) (ob (aE G sl i) (fun v=>ob (eF v) (fun k=>m_ (sl a).ad (sl a).v a (fun r o=>if(sl r).box.isSome=true/\r≠t/\0<=k/\k<len then some (r,o+k.toNat*f)else none) ⟨0⟩) ⟨0⟩) ⟨0⟩)
   (fun r o=>wO Γ G d (p+1) l Q ⟨updC sl t ⟨.lb,none,some (r,o)⟩,updC u r true,h,n,b⟩ ⟨0⟩) ⟨0⟩:=by
 rw[vm (w':=⟨0⟩)]
 (try rw[cq (α:=Slot)])
 (try rw[cq (α:=Bool)])
 (try rw[iQ])
 unfold wO;rw[cR];rw[iI,nw rfl];simp only[ao,ob,lI]
 cases aE G sl i with
 | none=>rfl
 | some v=>
   simp only[zC,zD]
   cases eF v with
   | none=>rfl
   | some k=>
     simp only[zD];rw[<- vl sl u h n b a]
     cases bF (M.st ⟨sl,u,h,n,b⟩) (.s a)with
     | none=>rfl
     | some r=>
       simp only[zD,M.st]
       cases(sl r.1).box with
       | none=>simp[bt]
       | some cs=>
         simp only[zD,qW,nN]
         by_cases e:r.1=t
         ·by_cases c:0<=k/\k<len
          ·simp[M.free,bt,e,c]
          ·simp[M.free,bt,e,c]
         ·by_cases c:0<=k/\k<len
          ·simp[M.free,M.apply,eO,bt,bl,e,c]
          ·have : ¬(r.1≠t/\0<=k/\k<len):=fun h=>c h.2
           rw[ac c,ac this];rfl
end
end Rg
end

/- Part of the proof of laws of relyguardlaw36. No condition. -/
import Derived.Test.YtaiokglcgiemnaaGreatDoorGartAS
import Derived.Test.YtaiokglcgiemnaaGreatDoorGartAP
import Derived.Test.YtaiokglcgiemnaaGreatDoorGartAR
import Derived.Test.YtaiokglcgiemnaaGreatDoorGartAO
set_option linter.unusedSimpArgs false
set_option linter.unusedVariables false
set_option linter.defProp false
section
namespace Rg
open Go
def entW (e:Entry):List (List UInt8):=wl e.cells++wl e.values
def bufW (b:List Entry):List (List UInt8):=b.flatMap entW++[[47]]
def cfgW (c:Config):List (List UInt8):=wl c.mem++wl c.at_++c.buf.flatMap bufW
def lP (c:Config):ByteArray:=bs (Go.Lib.join (cfgW c) [32])
structure SmlC (c:Config):Prop where
 m: ∀n∈c.mem,inI n
 a: ∀n∈c.at_,inI n
 e: ∀b∈c.buf,b.length<=3/\ ∀e∈b,(∀n∈e.cells,inI n)/\(∀n∈e.values,inI n)/\e.cells.length<=32/\e.values.length<=32
 l:c.mem.length<=32/\c.at_.length<=4/\c.buf.length<=4
theorem SR {p:Prog} (f:aN p=true) {c:Config} (d:IsB p c):SmlC c:=by
 obtain⟨⟨H,I,J,L⟩,_⟩:=cS (cT f).1;obtain⟨z,q,_⟩:=mt f;have E:=d.lm;have F:=d.la;have G:=d.lb;have g:iX 1 c=c.mem++c.at_.map (· +1)++c.buf.flatMap d4:=rfl;have j: ∀n∈iX 1 c,0<=n/\n<256:=fun n a=>by have:=qi f (sh:=1) aa d n a;omega
 refine⟨fun n a=> ?_,fun n a=> ?_,fun b m=> ?_,aa,aa,aa⟩
 ·have:=j n (by rw[g];simp[a]);unfold inI;omega
 ·have:=j (n+1) (by rw[g];simp only[cz,cy];exact .inl (.inr ⟨n,a,rfl⟩));unfold inI;omega
 ·obtain⟨t,w⟩:=eH m;refine⟨(d.buf t b w).1,fun e v=> ?_⟩;have hp:=d.ent b m e v;have D:=gX hp;have u:=hp.len;refine⟨fun n a=> ?_,fun n a=> ?_,aa,aa⟩
  ·have:=lG hp a;unfold inI;omega
  ·obtain⟨i,hi⟩:=eH a;have o:i<e.cells.length:=by rw[<- u];exact(zH.1 hi).1
   obtain⟨C,y,r,A,_,B,s⟩:=hp.cell i _ n (zI o) hi;have:=yI (q y (zL r)) s;unfold inI;omega
theorem lg (l:List Int):(wl l).length=l.length+1:=by simp[wl]
theorem uV {l:List Int} (h: ∀n∈l,inI n): ∀w∈wl l,w.length<=21:=by
 intro w a;simp only[wl,cz,cy,bB]at a;rcases a with⟨n,b,rfl⟩ | rfl
 ·exact kck n (h n b)
 ·simp
theorem tT {α β:Type} {f:α->List β} {m:Nat}: ∀{l:List α},(∀x∈l,(f x).length<=m)->(l.flatMap f).length<=m*l.length
 | [],_=>af
 | x::l,h=>by
   have b:=h x af;have c:=tT (l:=l) fun y a=>h y (by simp[a])
   rw[du,zM,d_,xi];omega
theorem SmlC.entW {c:Config} (h:SmlC c) {b:List Entry} (g:b∈c.buf):(∀e∈b,(Rg.entW e).length<=66)/\(Rg.bufW b).length<=199:=by
 obtain⟨f,i⟩:=h.e b g
 have d: ∀e∈b,(Rg.entW e).length<=66:=fun e j=>by
  obtain⟨_,_,a,b⟩:=i e j;rw[Rg.entW,zM,lg,lg];omega
 refine⟨d,?_⟩;have:=tT d;have:66*b.length<=66*3:=rC _ f;rw[Rg.bufW,zM,gp];omega
theorem SmlC.bufs {c:Config} (h:SmlC c) (t:Nat):((c.buf.take t).flatMap Rg.bufW).length<=796:=by
 have:=tT (l:=c.buf.take t) fun b d=>(h.entW (lB d)).2
 have a:(c.buf.take t).length<=4:=by rw[bJ];have:=h.l.2.2;omega
 have:199*(c.buf.take t).length<=199*4:=rC _ a;omega
theorem SmlC.cfgW {c:Config} (h:SmlC c):(Rg.cfgW c).length<=850/\ ∀w∈Rg.cfgW c,w.length<=21:=by
 constructor
 ·have:=h.bufs c.buf.length;rw[be]at this;obtain⟨g,i,j⟩:=h.l;rw[Rg.cfgW,zM,zM,lg,lg];omega
 ·intro w a;simp only[Rg.cfgW,cz,dk,Rg.bufW,bB,Rg.entW]at a;rcases a with(a | a) | ⟨b,d,⟨e,f,a | a⟩ | rfl⟩
  ·exact uV h.m w a
  ·exact uV h.a w a
  ·exact uV ((h.e b d).2 e f).1 w a
  ·exact uV ((h.e b d).2 e f).2.1 w a
  ·simp
theorem SI {m:Nat}: ∀{l:List (List UInt8)},(∀w∈l,w.length<=m)->(l.map List.length).sum<=m*l.length
 | [],_=>af
 | x::l,h=>by
   have b:=h x af;have c:=SI (l:=l) fun y a=>h y (by simp[a])
   rw[aT,rh,d_,xi];omega
theorem SmlC.joinD {c:Config} (h:SmlC c):Den Γ G 259 [.t (.sl ((Rg.cfgW c).map fun x=>[.str (bs x)])),.t (.str (bs [32]))]=some (.t (.str (lP c))):=by
 obtain⟨a,b⟩:=h.cfgW;have d:=ZV (Rg.cfgW c);have e:=SI b;have:21*(Rg.cfgW c).length<=21*850:=rC _ a;exact kaT _ aa aa
theorem Mf (c:Config) (j:SmlC c):Den Γ G 377 [(.agg [.t (ints (c).mem),.t (ints (c).at_),.t (.sl ((c).buf.map (fun b=>[.sl (b.map Entry.enc)])))])]=some (.t (.str (lP c))):=by
 obtain⟨l1,l2,l3⟩:=j.l;have e0:eV []=[]:=rfl
 refine aD (q:=?_)
 simp -dsimp only[go_sem,seval];refine bf (tC (ws:=[]) am (.inl ⟨rfl,rfl⟩) aa (by simp;omega) j.m) ?_;rintro r h' n' ⟨g,d,a,q3⟩;rw[ff]at a;simp -dsimp only[go_sem,seval];refine bf (tC d (a.le aa) aa (by rw[lg];omega) j.a) ?_;clear d a;rintro r h' n2 ⟨g,d,a,q4⟩;simp -dsimp only[go_sem,seval]
 refine aS 17592183947584 c.buf.length (fun t f h x=>(f 21).v=vi t/\ ∃g,h 2=some (.rows 1 [[g]] false)/\ax h x g 1 (eV ((wl c.mem++wl c.at_)++(c.buf.take t).flatMap bufW))/\2<x) rfl
  ⟨am,g,ak d,by simp -dsimp only[go_sem,seval,fy,fR,bW];exact a.le aa,av⟩ ?_
 clear d a;rintro t f u h x bs H ⟨m,g,d,a,I⟩;have hw:=aB t aa;have D4:=j.bufs t
 by_cases o:t<c.buf.length
 ·have s:=aW o;obtain⟨b,E,C⟩:=au o;obtain⟨U,b2⟩:=j.entW C;obtain⟨b3,W⟩:=j.e b C;simp -dsimp only[go_sem,seval,m,s,E]
  refine aS 1099377410304 b.length (fun i f h x=>(f 27).v=vi i/\ ∃g,h 2=some (.rows 1 [[g]] false)/\ax h x g 1 (eV (((wl c.mem++wl c.at_)++(c.buf.take t).flatMap bufW)++(b.take i).flatMap entW))/\2<x) rfl
   ⟨am,g,ak d,by simp -dsimp only[go_sem,seval,fy,fR,bW];exact a.le aa,av⟩ ?_
  clear d a I;rintro i f u h x bs hi ⟨w,g,d,a,I⟩;have N:=aB i aa
  have R:((b.take i).flatMap entW).length<=198:=by
   have:=tT (l:=b.take i) fun e n=>U e (lB n)
   have:66*(b.take i).length<=66*3:=rC _ (by rw[bJ];omega);omega
  by_cases z:i<b.length
  ·have y:=aW z;obtain⟨e,n,Q⟩:=au z;obtain⟨Z,f2,f3,f4⟩:=W e Q
   generalize D:((wl c.mem++wl c.at_)++(c.buf.take t).flatMap bufW)++(b.take i).flatMap entW=L at *
   have Pu:L.length<=2000:=by
    rw[<- D,zM,zM,zM,lg,lg];omega
   simp -dsimp only[go_sem,seval,w,y,n,Entry.enc];refine bf (tC d (a.le aa) aa aa Z) ?_;clear d a;rintro r h' n3 ⟨g,d,a,q6⟩;simp -dsimp only[go_sem,seval];refine bf (tC d (a.le aa) aa (by rw[zM,lg];omega) f2) ?_;clear d a;rintro r h' n4 ⟨g,d,a,q7⟩;simp -dsimp only[go_sem,seval,w];refine⟨aa,ak N,g,ak d,?_,av⟩;simp -dsimp only[go_sem,seval];rw[a_ n,jc,<- zQ,D,show [e].flatMap entW=wl e.cells++wl e.values by simp[entW],<- zQ];exact a.le aa
  ·have y:=aI z;have:i=b.length:=aa
   subst this;rw[be]at a R;have v1:=a.valOf;have v2:=a.r2;have v3:=a.r3;have S:=OB a d;simp -dsimp only[go_sem,seval,w,y,m,d,v1,v2,v3];have n1:(2:Nat)≠x+1+1:=aa
   refine ce (a.upd aa _) aa (by rw[xX,zM,zM,zM,lg,lg];omega) aG rfl (xZ _) ?_;intro v hp A P M;have w1:=A.valOf;have J:=A.cellsV;unfold V.cells at J;have B:=M 2 aa S;rw[aq,ac n1,d]at B;simp -dsimp only[go_sem,seval,w1,J,B,m];refine⟨aa,ak hw,v,ak B,?_,av⟩;simp -dsimp only[go_sem,seval];rw[a_ E,jc,<- zQ,show [b].flatMap bufW=b.flatMap entW++[[47]]by simp[bufW],<- zQ,xY];refine ax.keep (h:=At (updC h (x+1+1) (some (O.rows 1 [[V.t (T.str (Rg.bs [47]))]] false))) hp) A aa fun q d a=> ?_
   have:q≠2:=by
    rintro rfl;exact a (P _ aa)
   simp -dsimp only[go_sem,seval,this]
 ·have s:=aI o;have:t=c.buf.length:=aa
  subst this;rw[be]at a;have F:=j.joinD;unfold cfgW at F;have H:=X4 h 999 ((wl c.mem++wl c.at_)++c.buf.flatMap bufW);rcases a with⟨rfl,X⟩ | ⟨k,rfl,e2,Y⟩
  ·simp[eV,wl]at X
  ·simp -dsimp only[go_sem,seval,m,s,d,Y];rw[ah (ay _),be,zD,H];simp -dsimp only[go_sem,seval,F]
end Rg
end
section
set_option maxRecDepth 100000
namespace Rg
open Go
theorem kbI {α:Type} (P:α->Bool) {y a b:List α}: ∀{x:List α},(∀c∈x,P c=true)->(∀c∈y,P c=true)->(∀c r,a=c::r->P c=false)->(∀c r,b=c::r->P c=false)->x++a=y++b->x=y/\a=b:=by
 intro x
 induction x generalizing y with
 | nil=>
   intro j m f g h
   cases y with
   | nil=>exact⟨rfl,h⟩
   | cons c y=>
     have e:=f c (y++b) (al h)
     rw[m c af]at e;cases e
 | cons d x o=>
   intro j m f g h
   cases y with
   | nil=>
     have e:=g d (x++a) (al h.symm)
     rw[j d af]at e;cases e
   | cons c y=>
     simp only[jd,gu]at h;obtain⟨e,n⟩:=o (fun c i=>j c (by simp[i])) (fun c i=>m c (by simp[i])) f g h.2;exact⟨by rw[h.1,e],n⟩
def qF (c:UInt8):Bool:=decide (48<=c.toNat/\c.toNat<=57)
def rS (l:List UInt8):Nat:=l.foldl (fun a c=>10*a+(c.toNat-48)) 0
theorem t6: ∀(u:Nat),∀c∈Go.Lib.decDigits u,qF c=true:=by
 intro u
 induction u using Nat.strongRecOn with
 | _ u b=>
 intro c a;rw[Go.Lib.decDigits]at a;split at a
 ·simp only[bB]at a;subst a;have:u<10:=bD
  simp only[qF,aQ,p5];omega
 ·rcases cz.1 a with a | a
  ·exact b (u/ 10) aa c a
  ·simp only[bB]at a;subst a;simp only[qF,aQ,p5];omega
theorem tZ: ∀(u:Nat),rS (Go.Lib.decDigits u)=u:=by
 intro u
 induction u using Nat.strongRecOn with
 | _ u b=>
 rw[Go.Lib.decDigits];split
 ·have:u<10:=bD
  simp only[rS,iy,o6,p5];omega
 ·have a:=b (u/ 10) aa;unfold rS at a⊢;rw[iD,a];simp only[iy,o6,p5];omega
theorem kcr (z:Int): ∀c∈num z,33<=c.toNat:=by
 intro c a;unfold num Go.Lib.itoa at a;split at a
 ·rcases cj.1 a with rfl | a
  ·decide
  ·have:=t6 _ c a;simp only[qF,aQ]at this;omega
 ·have:=t6 _ c a;simp only[qF,aQ]at this;omega
theorem kcl {a b:Int} (h:num a=num b):a=b:=by
 unfold num Go.Lib.itoa at h
 have c: ∀(u:Nat) (l:List UInt8),¬Go.Lib.decDigits u=45::l:=fun u l h=>by
  have:=t6 u 45 (by rw[h];simp)
  revert this;decide
 split at h<;>split at h
 ·simp only[gu,nN]at h;have:=bz rS h;rw[tZ,tZ]at this;omega
 ·exact absurd h.symm (c _ _)
 ·exact absurd h (c _ _)
 ·have:=bz rS h;rw[tZ,tZ]at this;omega
theorem M3 (s:UInt8): ∀(A B:List (List UInt8)),(∀x∈A,s∉ x)->(∀x∈B,s∉ x)->A.flatMap (fun x=>x++[s])=B.flatMap (fun x=>x++[s])->A=B
 | [],[],_,_,_=>rfl
 | [],b::B,_,_,h=>by simp at h
 | a::A,[],_,_,h=>by simp at h
 | a::A,b::B,ha,hb,h=>by
   simp only[du,zQ,vZ]at h
   obtain⟨i,g⟩:=kbI (fun c=> !decide (c=s)) (x:=a) (y:=b) (fun c e=>by have:=ha a af;simp;rintro rfl;exact this e) (fun c e=>by have:=hb b af;simp;rintro rfl;exact this e)
    (fun c t d=>by simp only[gu]at d;simp[d.1]) (fun c t d=>by simp only[gu]at d;simp[d.1]) h
   simp only[gu,nN]at g;rw[i,M3 s A B (fun x f=>ha x (by simp[f])) (fun x f=>hb x (by simp[f])) g]
theorem K9 (ws:List (List UInt8)) (h:ws≠[]):Go.Lib.join ws [32]++[32]=ws.flatMap fun x=>x++[32]:=by
 induction ws with
 | nil=>exact absurd rfl h
 | cons w r a=>
   cases r with
   | nil=>rw[Go.Lib.join_one];simp
   | cons v r=>
     have:=a af;rw[du,<- this,Go.Lib.join_cons,Go.Lib.join_cons];simp[Go.Lib.joinTail]
def yV (ws:List (List UInt8)):Prop:=ws≠[]/\ ∀w∈ws,∀c∈w,33<=c.toNat
theorem kbs {a b:List (List UInt8)} (e:yV a) (f:yV b) (h:Go.Lib.join a [32]=Go.Lib.join b [32]):a=b:=by
 refine M3 32 a b (fun x d c=> ?_) (fun x d c=> ?_) (by rw[<- K9 a e.1,<- K9 b f.1,h])
 ·have:=e.2 x d 32 c;revert this;decide
 ·have:=f.2 x d 32 c;revert this;decide
theorem y9 (z:Int):num z≠[59]/\num z≠[47]:=by
 have : ∀k:UInt8,qF k=false->k≠45->num z≠[k]:=by
  intro k b a h;unfold num Go.Lib.itoa at h;split at h
  ·simp only[gu]at h;exact a h.1.symm
  ·have:=t6 _ k (by rw[h];simp);rw[b]at this;cases this
 exact⟨this 59 aG aG,this 47 aG aG⟩
theorem sA: ∀{a b:List Int} {r s:List (List UInt8)},wl a++r=wl b++s->a=b/\r=s
 | [],[],r,s,h=>⟨rfl,by simpa[wl]using h⟩
 | [],z::b,r,s,h=>by
   simp only[wl,bc,ff,aT,jd,vZ,gu]at h
   exact absurd h.1.symm (y9 z).1
 | z::a,[],r,s,h=>by
   simp only[wl,bc,ff,aT,jd,vZ,gu]at h
   exact absurd h.1 (y9 z).1
 | y::a,z::b,r,s,h=>by
   have e: ∀(z:Int) (l:List Int) (r:List (List UInt8)),wl (z::l)++r=num z::(wl l++r):=fun z l r=>by simp[wl]
   rw[e,e,gu]at h;obtain⟨c,d⟩:=sA h.2;exact⟨by rw[kcl h.1,c],d⟩
theorem Sg (a:List Int) (r s:List (List UInt8)):wl a++r≠[47]::s:=by
 cases a with
 | nil=>intro h;simp[wl]at h
 | cons z a=>
   intro h;simp only[wl,aT,jd,gu]at h;exact(y9 z).2 h.1
theorem RF: ∀{a b:List Entry} {r s:List (List UInt8)},bufW a++r=bufW b++s->a=b/\r=s
 | [],[],r,s,h=>⟨rfl,by simpa[bufW]using h⟩
 | [],z::b,r,s,h=>by
   simp only[bufW,fR,ff,du,entW,zQ]at h
   exact absurd h.symm (Sg _ _ _)
 | z::a,[],r,s,h=>by
   simp only[bufW,fR,ff,du,entW,zQ]at h
   exact absurd h (Sg _ _ _)
 | y::a,z::b,r,s,h=>by
   have e: ∀(z:Entry) (l:List Entry) (r:List (List UInt8)),bufW (z::l)++r=wl z.cells++(wl z.values++(bufW l++r)):=fun z l r=>by simp[bufW,entW]
   rw[e,e]at h;obtain⟨c,f⟩:=sA h;obtain⟨d,g⟩:=sA f;obtain⟨i,j⟩:=RF g
   have:y=z:=by
    cases y;cases z;simp only at c d;rw[c,d]
   exact⟨by rw[this,i],j⟩
theorem SX (a:List Entry):bufW a≠[]:=by simp[bufW]
theorem PV: ∀{a b:List (List Entry)},a.flatMap bufW=b.flatMap bufW->a=b
 | [],[],h=>rfl
 | [],z::b,h=>by
   rw[fR,du]at h
   exact absurd (vY.1 h.symm).1 (SX z)
 | z::a,[],h=>by
   rw[fR,du]at h
   exact absurd (vY.1 h).1 (SX z)
 | y::a,z::b,h=>by
   rw[du,du]at h;obtain⟨c,d⟩:=RF h;rw[c,PV d]
theorem uW (l:List Int): ∀w∈wl l,∀c∈w,33<=c.toNat:=by
 intro w b c a;simp only[wl,cz,cy,bB]at b;rcases b with⟨n,_,rfl⟩ | rfl
 ·exact kcr n c a
 ·simp only[bB]at a;subst a;decide
theorem S4 (c:Config):yV (cfgW c):=by
 refine⟨by simp[cfgW,wl],fun w a f d=> ?_⟩;simp only[cfgW,cz,dk,bufW,bB,entW]at a;rcases a with(a | a) | ⟨b,_,⟨e,_,a | a⟩ | rfl⟩
 ·exact uW _ w a f d
 ·exact uW _ w a f d
 ·exact uW _ w a f d
 ·exact uW _ w a f d
 ·simp only[bB]at d;subst d;decide
theorem Pj {c d:Config} (h:lP c=lP d):c=d:=by
 have a:=kbs (S4 c) (S4 d) (kc8.1 h);unfold cfgW at a;rw[zQ,zQ]at a;obtain⟨b,g⟩:=sA a;obtain⟨e,i⟩:=sA g;have f:=PV i;cases c;cases d;simp only at b e f;rw[b,e,f]
structure RK where
 ky:Nat
 k3:Nat
 k4:Nat
 k5:Nat
 k6:Nat
 k7:Nat
 kL:Nat
 kS:Nat
 kSV:Nat
 kY:Nat
 kSe:Nat
 kM:Nat
structure RI (K:RK) (p:Prog) (k:Int) (lim:Nat) (env:Nat->V) (h:Nat->Option O) (x:Nat) (l lst:List Vis) (vV vL:V):Prop where
 hk:h K.ky=some (.loop env [11] jT .ready)
 e3:env 3= .mp K.k3 0 0
 e4:env 4= .mp K.k4 0 0
 e5:env 5= .mp K.k5 0 0
 e6:env 6= .mp K.k6 0 0
 e7:env 7= .mp K.k7 0 0
 h3:h K.k3=some (.rows 1 [[.mp K.kS 0 0]] false)
 h4:h K.k4=some (.rows 1 [[vi lim]] false)
 h5:h K.k5=some (.rows 1 [[.fn 376 [] [.mp K.kL 0 0]]] false)
 h6:h K.k6=some (.rows 1 [[vi 0]] false)
 h7:h K.k7=some (.rows 1 [[vi 0]] false)
 n67:K.k6≠K.k7
 hSV:h K.kSV=some (.rows 1 [[.mp K.kS 0 0]] false)
 hY:h K.kY=some (.rows 1 [[.yl K.ky]] false)
 hSe:h K.kSe=some (.rows 1 [[.mm K.kM]] false)
 hM:h K.kM=some (.map (mapL (fun v:Vis=>eD v.c) (fun _=>vb true) l))
 hS:h K.kS=some (.rows 6 [[.t (.sl (p.cells.map Cell.enc)),.t (.sl (p.modules.map Contract.enc)),.t (.sl (p.locks.map Lock.enc)),.t (.sl (p.threads.map Thread.enc)),vi k,vV]] false)
 oV:ax h x vV 7 (iV l)
 hL:h K.kL=some (.rows 1 [[vL]] false)
 oL:ax h x vL 3 (dE lst)
 bd:K.ky<x/\K.k3<x/\K.k4<x/\K.k5<x/\K.k6<x/\K.k7<x/\K.kL<x/\K.kS<x/\K.kSV<x/\K.kY<x/\K.kSe<x/\K.kM<x
theorem kcV {h:ae} {x:Nat} {v:V} {c:Nat} {rows:List (List V)} (o:ax h x v c rows):(∀k i j,v≠ .mp k i j)/\(∀n,v≠vi n)/\(∀f a b,v≠ .fn f a b)/\(∀k,v≠ .yl k)/\(∀k,v≠ .mm k):=by
 rcases o with⟨rfl,_⟩ | ⟨k,rfl,_⟩<;>simp
section
variable {K:RK} {p:Prog} {k:Int} {lim:Nat} {env:Nat->V} {h h' : Nat->Option O} {x x' : Nat} {l lst l' lst' : List Vis} {vV vL vV' vL' : V}
theorem RI.offL (R:RI K p k lim env h x l lst vV vL) {q:Nat} (a: ∀rs,h q≠some (.rows 3 rs false)):aK vL q:=R.oL.offAt a
theorem RI.offV (R:RI K p k lim env h x l lst vV vL) {q:Nat} (a: ∀rs,h q≠some (.rows 7 rs false)):aK vV q:=R.oV.offAt a
theorem RI.next (R:RI K p k lim env h x l lst vV vL) (L:x<=x') (C: ∀j,j<x->j≠K.kL->j≠K.kM->j≠K.kS->aK vL j->aK vV j->h' j=h j)
 (A:h' K.kM=some (.map (mapL (fun v:Vis=>eD v.c) (fun _=>vb true) l')))
 (B:h' K.kS=some (.rows 6 [[.t (.sl (p.cells.map Cell.enc)),.t (.sl (p.modules.map Contract.enc)),.t (.sl (p.locks.map Lock.enc)),.t (.sl (p.threads.map Thread.enc)),vi k,vV']] false)) (oV:ax h' x' vV' 7 (iV l'))
 (z:h' K.kL=some (.rows 1 [[vL']] false)) (oL:ax h' x' vL' 3 (dE lst')):RI K p k lim env h' x' l' lst' vV' vL':=by
 obtain⟨e,b2,g,i,m,n,I,J,q,c,d,f⟩:=R.bd;obtain⟨D,E,F,G,H⟩:=kcV R.oL
 have a: ∀j o,h j=o->j<x->(o≠some (.rows 1 [[vL]] false))->(∀es,o≠some (.map es))->(∀rs,o≠some (.rows 6 rs false))->(∀rs,o≠some (.rows 3 rs false))->(∀rs,o≠some (.rows 7 rs false))->h' j=o:=fun j o b r s t u w y=>by
  rw[C j r (dj b R.hL s) (dj b R.hM (t _)) (dj b R.hS (u _)) (R.offL fun rs=>b▸w rs) (R.offV fun rs=>b▸y rs),b]
 refine⟨a _ _ R.hk e ?_ ?_ ?_ ?_ ?_,R.e3,R.e4,R.e5,R.e6,R.e7,a _ _ R.h3 b2 ?_ ?_ ?_ ?_ ?_,a _ _ R.h4 g ?_ ?_ ?_ ?_ ?_,a _ _ R.h5 i ?_ ?_ ?_ ?_ ?_,a _ _ R.h6 m ?_ ?_ ?_ ?_ ?_,a _ _ R.h7 n ?_ ?_ ?_ ?_ ?_,R.n67,
  a _ _ R.hSV q ?_ ?_ ?_ ?_ ?_,a _ _ R.hY c ?_ ?_ ?_ ?_ ?_,a _ _ R.hSe d ?_ ?_ ?_ ?_ ?_,A,B,oV,z,oL,aa⟩
 all_goals(first | (intro rs h;simp at h;done) | (intro h;simp at h;done) | (intro h;simp at h;first | exact D _ _ _ h.symm | exact E _ h.symm | exact F _ _ _ h.symm | exact G _ h.symm | exact H _ h.symm))
theorem RI.le (R:RI K p k lim env h x l lst vV vL) (a:x<=x'):RI K p k lim env h x' l lst vV vL:=R.next a (fun _ _ _ _ _ _ _=>rfl) R.hM R.hS (R.oV.le a) R.hL (R.oL.le a)
theorem RI.yield {d:Vis} (R:RI K p k lim env h x (l++[d]) l vV vL) (D:l.length<2^30) (S:l.length≠lim):
 ∃h' b vL',DenY Γ G K.ky [vi l.length] h x=some (vb true,h',b)/\RI K p k lim env h' b (l++[d]) (l++[d]) vV vL'/\x<=b:=by
 obtain⟨v,b2,z,A,T,U,B,r,W,w,y,f⟩:=R.bd;rcases R.oV with⟨_,C⟩ | ⟨g,rfl,s,a⟩
 ·have:=bz List.length C;rw[my]at this;simp at this
 have t:=R.hS;rw[my]at t;obtain⟨h',b,M,N,⟨vL',P,Q,X⟩,u,c⟩:=kcQ (l:=l++[d]) (lst:=l) (d:=d) (i:=l.length) R.hk R.e3 R.e4 R.e5 R.h3 R.h4 R.h5 t a af R.hL R.oL D v b2 z A r s B aa;have J:K.kS≠K.kL:=dj R.hS R.hL af;have I:K.kM≠K.kL:=dj R.hM R.hL af;have n:K.kS≠K.ky:=dj R.hS R.hk af;have m:K.kM≠K.ky:=dj R.hM R.hk af;have L:g≠K.kL:=dj a R.hL af;have o:g≠K.ky:=dj a R.hk af;refine⟨h',b,vL',M,R.next u (fun j E F _ _ H _=> ?_) ?_ ?_ ?_ P Q,u⟩
 ·by_cases q:j=K.ky
  ·rw[q,N,R.hk]
  ·exact c j E q F H
 ·rw[c _ f m I (R.offL fun rs e=>by rw[R.hM]at e;cases e),R.hM]
 ·rw[c _ r n J (R.offL fun rs e=>by rw[R.hS]at e;cases e),R.hS]
 ·exact .inr ⟨g,rfl,aa,by rw[c _ s o L (R.offL fun rs e=>by rw[a]at e;cases e)];exact a⟩
def pm (K:RK) (env:Nat->V) (h:ae):Prop:=h K.ky=some (.loop env [11] jT (.done .ret))/\h K.k6=some (.rows 1 [[vi 0]] false)/\h K.k7=some (.rows 1 [[vi 2]] false)
theorem RI.stop (R:RI K p k lim env h x l lst vV vL): ∃h' a,DenY Γ G K.ky [vi lim] h x=some (vb false,h',a)/\pm K env h'/\x<=a:=by
 obtain⟨h',a,b,c,d,e,f⟩:=kcP (n:=x) R.hk R.e4 R.e6 R.e7 R.h4 R.h6 R.h7 R.n67;exact⟨h',a,b,⟨c,d,e⟩,f⟩
end
theorem Yx {K:RK} {p:Prog} (hf:aN p=true) {k:Int} {lim:Nat} {env:Nat->V} {H:ae} {nx:Nat} {l:List Vis} {vV vL:V} (R:RI K p k lim env H nx l l vV vL) (d:Vis) (hd:IsB p d.c) (Aa: ∀v∈l,IsB p v.c) (hl:l.length<2^29):
 ∃r h' f,DenR Γ G 393 [.agg (qH d),.mp K.kSe 0 0,.mp K.kSV 0 0,.mp K.kY 0 0] H nx=some (r,h',f)/\(nx<=f/\if hD l d.c then r=vb true/\ ∃vV' vL',RI K p k lim env h' f l l vV' vL'
  else if l.length=lim then r=vb false/\pm K env h' else r=vb true/\ ∃vV' vL',RI K p k lim env h' f (l++[d]) (l++[d]) vV' vL'):=by
 obtain⟨b1,b2,b3,b4,b5,b6,b7,b8,b9,b10,b11,b12⟩:=R.bd;have DA:=ZT p hf d.c hd;have D:=u_ (fun v:Vis=>eD v.c) (fun _=>vb true) (eD d.c) l;have C:=WM hf Aa hd (l:=l);have m:=R.hM;have u:=R.hSe;unfold qH me
 refine bO (q:=?_)
 cases Dx:hD l d.c
 ·rw[Dx]at C;have o:l.find? (fun a=>eD d.c==eD a.c)=none:=al C
  rw[o]at D
  have Jj:=vo (fun v:Vis=>eD v.c) (fun _=>vb true) (eD d.c) (vb true) l fun a ha=>by
   have:=p8.1 o a ha;simpa using this
  have g:=R.hSV;have n:=R.hS;have E:=R.hY;have w:K.kSV≠K.kM:=dj g m af;have S:K.kS≠K.kM:=dj n m af;have nY:K.kY≠K.kM:=dj E m af;have nSSV:K.kSV≠K.kS:=dj g n af;have U:K.kY≠K.kS:=dj E n af;have y:aK vV K.kM:=R.offV fun rs e=>by rw[m]at e;cases e
  have s:ax (updC H K.kM (some (O.map (mapL (fun v:Vis=>eD v.c) (fun _=>vb true) l++[(T.str (eD d.c),vb true)])))) nx vV 7 (iV l):=R.oV.keep (ay _) fun q _ h2=>by
   rw[aq,ac];rintro rfl;exact h2 y
  have w1:=s.valOf;have w5:=s.r5;have n1:K.kSV≠nx+2+4+3+3+6:=aa
  have n2:K.kS≠nx+2+4+3+3+6:=aa
  simp -dsimp only[go_sem,seval,DA,u,m,D,np,kf,Jj,w,S,g,n,w1,w5,n1,n2];refine ce (s.upd aa _) aa (by rw[my];omega) aG rfl (Zj _) ?_;intro c hp L Bn t;have w2:=L.valOf;have Y:=L.cellsV;unfold V.cells at Y;have oS:aK vV K.kS:=R.offV fun rs e=>by rw[n]at e;cases e
  have W:aK vV K.kSV:=R.offV fun rs e=>by rw[g]at e;cases e
  have oY:aK vV K.kY:=R.offV fun rs e=>by rw[E]at e;cases e
  have y1:=t K.kS aa oS;have y2:=t K.kSV aa W;have y3:=t K.kY aa oY;rw[aq,ac n2,aq,ac S,n]at y1;rw[aq,ac n1,aq,ac w,g]at y2;rw[aq,ac aa,aq,ac nY,E]at y3;refine dG w2 Y y1 y2 y3 nSSV U ?_;refine⟨?_,?_⟩
  ·simp only[mI,ey,qq,lz,dv,sep,AOp.looks,AOp.opds,AOp.wopd,jJ,bQ,du,fR];simp -dsimp only[go_sem,seval,V.top,w1];rcases R.oV with⟨e,_⟩ | ⟨kV,e,_,e2⟩
   ·rw[e];rfl
   ·have:K.kSV≠kV:=dj g e2 af;rw[e];simp[this]
  have oF: ∀z,nx+2+4+3+3+8<=z->ax (updC (At (updC (updC H K.kM (some (O.map (mapL (fun v:Vis=>eD v.c) (fun _=>vb true) l++[(T.str (eD d.c),vb true)])))) (nx+2+4+3+3+6) (some (O.rows 7 [[V.t (ints d.c.mem),V.t (ints d.c.at_),V.t (T.sl (d.c.buf.map fun b=>[T.sl (b.map Entry.enc)])),vi d.fr,vi d.x.thread,vi d.x.step,vi d.x.cell]] false))) hp) K.kS
   (some (O.rows 6 [[V.t (T.sl (p.cells.map Cell.enc)),V.t (T.sl (p.modules.map Contract.enc)),V.t (T.sl (p.locks.map Lock.enc)),V.t (T.sl (p.threads.map Thread.enc)),vi k,c]] false))) z c 7 (iV (l++[d])):=fun z o=>by
   rw[show iV (l++[d])=iV l++[[V.t (ints d.c.mem),V.t (ints d.c.at_),V.t (T.sl (d.c.buf.map fun b=>[T.sl (b.map Entry.enc)])),vi d.fr,vi d.x.thread,vi d.x.step,vi d.x.cell]]by simp[iV,qH,me]];refine L.keep o fun q _ i=> ?_
   rw[aq,ac];rintro rfl;exact i (Bn _ aa)
  have Z:=(oF _ (ay _)).lenS;rw[my,zM,gp]at Z;have Er:IntKind.i64.wrap (((l.length+1:Nat):Int)-1)=(l.length:Int):=by rw[show((l.length+1:Nat):Int)-1=(l.length:Int)by omega];exact bu aa
  refine bN w2 Y Z Er ?_;have nM:K.kM≠K.kS:=bX S;have nL:K.kL≠K.kS:=dj R.hL n af;have Q:K.kL≠K.kM:=dj R.hL m af;have X:aK vV K.kL:=R.offV fun rs e=>by rw[R.hL]at e;cases e
  have R2: ∀z,nx+2+4+3+3+8<=z->RI K p k lim env (updC (At (updC (updC H K.kM (some (O.map (mapL (fun v:Vis=>eD v.c) (fun _=>vb true) l++[(T.str (eD d.c),vb true)])))) (nx+2+4+3+3+6) (some (O.rows 7 [[V.t (ints d.c.mem),V.t (ints d.c.at_),V.t (T.sl (d.c.buf.map fun b=>[T.sl (b.map Entry.enc)])),vi d.fr,vi d.x.thread,vi d.x.step,vi d.x.cell]] false))) hp) K.kS
   (some (O.rows 6 [[V.t (T.sl (p.cells.map Cell.enc)),V.t (T.sl (p.modules.map Contract.enc)),V.t (T.sl (p.locks.map Lock.enc)),V.t (T.sl (p.threads.map Thread.enc)),vi k,c]] false))) z (l++[d]) l c vL:=fun z o=>by
   have J: ∀j,j<nx->j≠K.kM->j≠K.kS->aK vV j->updC (At (updC (updC H K.kM (some (O.map (mapL (fun v:Vis=>eD v.c) (fun _=>vb true) l++[(T.str (eD d.c),vb true)])))) (nx+2+4+3+3+6) (some (O.rows 7 [[V.t (ints d.c.mem),V.t (ints d.c.at_),V.t (T.sl (d.c.buf.map fun b=>[T.sl (b.map Entry.enc)])),vi d.fr,vi d.x.thread,vi d.x.step,vi d.x.cell]] false))) hp) K.kS
    (some (O.rows 6 [[V.t (T.sl (p.cells.map Cell.enc)),V.t (T.sl (p.modules.map Contract.enc)),V.t (T.sl (p.locks.map Lock.enc)),V.t (T.sl (p.threads.map Thread.enc)),vi k,c]] false)) j=H j:=fun j j1 j2 M N=>by
    rw[aq,ac M,t j aa N,aq,ac aa,aq,ac j2]
   refine R.next aa (fun j j1 _ M N _ j6=>J j j1 M N j6) ?_ (by rw[aq,ah rfl]) (oF z o) (by rw[J _ b7 Q nL X,R.hL]) (R.oL.keep aa fun q A i=> ?_)
   ·rw[aq,ac nM,t _ aa y,aq,ac aa,aq,ah rfl,xT]
   ·refine J q A ?_ ?_ (R.offV fun rs e=> ?_)
    ·rintro rfl;exact i (R.offL fun rs e=>by rw[m]at e;cases e)
    ·rintro rfl;exact i (R.offL fun rs e=>by rw[n]at e;cases e)
    ·exact i (R.offL fun rs' e'=>by rw[e]at e';cases e')
  generalize updC (At (updC (updC H K.kM (some (O.map (mapL (fun v:Vis=>eD v.c) (fun _=>vb true) l++[(T.str (eD d.c),vb true)])))) (nx+2+4+3+3+6) (some (O.rows 7 [[V.t (ints d.c.mem),V.t (ints d.c.at_),V.t (T.sl (d.c.buf.map fun b=>[T.sl (b.map Entry.enc)])),vi d.fr,vi d.x.thread,vi d.x.step,vi d.x.cell]] false))) hp) K.kS
   (some (O.rows 6 [[V.t (T.sl (p.cells.map Cell.enc)),V.t (T.sl (p.modules.map Contract.enc)),V.t (T.sl (p.locks.map Lock.enc)),V.t (T.sl (p.threads.map Thread.enc)),vi k,c]] false))=F at *
  have R3:=R2 (nx+2+4+3+3+11+9) aa
  by_cases I:l.length=lim
  ·obtain⟨h',f,A,i,B⟩:=R3.stop;rw[I];refine bf (P:=fun r h' f=>r=vb false/\pm K env h'/\nx+2+4+3+3+11+9<=f) ⟨_,h',f,A,rfl,i,B⟩ ?_;rintro r h' f ⟨rfl,i,B⟩;refine aA ?_;refine⟨aa,?_⟩;simp only[zG,aX,aU,eq_self_iff_true];exact⟨rfl,i⟩
  ·obtain⟨h',f,vL',A,i,B⟩:=R3.yield aa I;refine bf (P:=fun r h' f=>r=vb true/\(∃vL',RI K p k lim env h' f (l++[d]) (l++[d]) c vL')/\nx+2+4+3+3+11+9<=f) ⟨_,h',f,A,rfl,⟨vL',i⟩,B⟩ ?_;rintro r h' f ⟨rfl,⟨vL',i⟩,B⟩;refine aA ?_;refine⟨aa,?_⟩;simp only[zG,aX,I];exact⟨rfl,c,vL',i⟩
 ·rw[Dx]at C;obtain⟨z,o⟩:=rL.1 C;rw[o]at D;simp -dsimp only[go_sem,seval,DA,u,m,D,cZ,gx];refine⟨av,rfl,vV,vL,?_⟩;refine aA ?_;exact R.next aa (fun j _ _ _ _ _ _=>rfl) R.hM R.hS (R.oV.le aa) R.hL (R.oL.le aa)
theorem IsB.sane {p:Prog} (b:p.sane) {c:Config} (a:IsB p c):c.sane:=⟨by rw[a.lm];exact b.cells,by rw[a.la];exact b.threads,by rw[a.lb];exact b.threads⟩
theorem I5 (p:Prog) (e:p.sane) (g:aN p=true) (k:Int) (i:0<=k/\k<=2) (c:Config) (d:IsK p k c):Den Γ G 179 [(zP p),vi k,(.agg [.t (ints (c).mem),.t (ints (c).at_),.t (.sl ((c).buf.map (fun b=>[.sl (b.map Entry.enc)])))])]=some (.t (.sl ((bP p k c).map Choice.enc))):=by
 by_cases a:k=0
 ·have f:=Xb p e c (d.b.sane e);rw[X9 g (d.c a)]at f;rw[bP,ah a]
  exact aD (q:=bg a f)
 ·rw[bP,ac a];exact Xy p e g k aa c d.b
theorem xQ (p:Prog) (a:p.sane) (g:aN p=true) (k:Int) (i:0<=k/\k<=2) (c:Config) (e:IsK p k c) (x:Choice):Den Γ G 180 [(zP p),vi k,(.agg [.t (ints (c).mem),.t (ints (c).at_),.t (.sl ((c).buf.map (fun b=>[.sl (b.map Entry.enc)])))]),(.agg [.t (ti (x).thread),.t (ti (x).step),.t (ti (x).cell)])]=some (.tup [(.agg [.t (ints ((dy p k c x).1).mem),.t (ints ((dy p k c x).1).at_),.t (.sl (((dy p k c x).1).buf.map (fun b=>[.sl (b.map Entry.enc)])))]),vi (dy p k c x).2]):=by
 by_cases d:k=0
 ·have f:=kap p a c (e.b.sane a) x;rw[dy,ah d]
  exact aD (q:=bg d f)
 ·rw[dy,ac d];exact Zs p a g k aa c e.b x
def kM (m:Int):Int:=m % 3
def lq (l:List Vis) (n:Nat):List (T×V):=mapL (fun i:Nat=>lP (bm l i)) (fun i=>vi i) (List.range n)
theorem WX (l:List Vis) (n:Nat):lq l (n+1)=lq l n++[(T.str (lP (bm l n)),vi n)]:=by
 rw[lq,sW,xT];rfl
theorem Y7 {p:Prog} {k:Int} {l:List Vis} (b:VisOk p k l l.length) {n:Nat} (g:n<l.length):da (T.str (lP (bm l n))) (vi n) (lq l n)=some (lq l (n+1)):=by
 rw[WX];refine vo _ _ _ _ _ fun a c=>Tj fun e=> ?_
 have c:=dS.1 c;have d:=sL b g;have f:=sL b (show a<l.length from aa);rw[Pj e,f]at d;omega
theorem WY {p:Prog} {k:Int} {l:List Vis} (f:VisOk p k l l.length) {c:Config} (g: ∃v∈l,v.c=c):dK (T.str (lP c)) (lq l l.length)=some (some (vi (f8 l c))):=by
 rw[lq,u_];obtain⟨b,d⟩:=zh g
 have:(List.range l.length).find? (fun a=>lP c==lP (bm l a))=some (f8 l c):=by
  rw[List.find?_range_eq_some];refine⟨by rw[d];exact qw.2 rfl,dS.2 b,fun j i=> ?_⟩;rw[Tj fun e=> ?_]
  ·rfl
  ·have:=sL f (show j<l.length from aa);rw[<- Pj e]at this;omega
 rw[this];rfl
structure EdgT (h:Nat->Option O) (x kE:Nat) (vs:List V) (es:List (List (List V))):Prop where
 e:h kE=some (.rows 1 (vs.map fun v=>[v]) false)
 lt:kE<x
 len:vs.length=es.length
 own: ∀(i:Nat) (v:V) (rs:List (List V)),vs[i]? =some v->es[i]? =some rs->ax h x v 4 rs
 off: ∀(i j:Nat) (v w:V),i≠j->vs[i]? =some v->vs[j]? =some w-> ∀k,aK v k\/aK w k
def cA (l:List (Nat×Choice)):List (List V):=l.map fun e=>[vi e.1,vi e.2.thread,vi e.2.step,vi e.2.cell]
theorem EdgT.le {h:ae} {x y c:Nat} {vs:List V} {es:List (List (List V))} (T:EdgT h x c vs es) (d:x<=y):EdgT h y c vs es:=
 ⟨T.e,by have:=T.lt;omega,T.len,fun i v rs a b=>(T.own i v rs a b).le d,T.off⟩
theorem EdgT.set {h A:ae} {x y f u:Nat} {vs:List V} {es:List (List (List V))} {v s:V} {m:List (List V)} (T:EdgT h x f vs es) (E:vs[u]? =some v) (H:ax A y s 4 m) (t: ∀j,j<x->aK s j)
 (J: ∀j,j<x->aK v j->A j=h j) (G:x<=y):EdgT (updC A f (some (.rows 1 ((vs.set u s).map fun v=>[v]) false))) y f (vs.set u s) (es.set u m):=by
 have n:=(zH.1 E).1
 have I: ∀(i:Nat) (w:V),vs[i]? =some w-> ∃rs,es[i]? =some rs:=fun i w a=>by
  have:=(zH.1 a).1;rw[T.len]at this;exact⟨_,zI this⟩
 have B: ∀(i:Nat) (w:V),vs[i]? =some w->aK w f/\ ∀q,x<=q->aK w q:=fun i w a=>by
  obtain⟨rs,c⟩:=I i w a;have o:=T.own i w rs a c;exact⟨o.offAt fun rs e=>(by rw[T.e]at e;simp at e),fun q g=>o.off g⟩
 refine⟨by rw[aq,ah rfl],by have:=T.lt;omega,by rw[cL,cL,T.len],fun i w rs a c=> ?_,fun i j w z C a d q=> ?_⟩
 ·by_cases b:i=u
  ·subst b;rw[iz n]at a;rw[iz (by rw[<- T.len];exact n)]at c;cases a;cases c;refine H.keep (ay _) fun q F r=> ?_
   have:q≠f:=by rintro rfl;exact r (t _ T.lt)
   rw[aq,ac this]
  ·rw[gU (bX b)]at a c;refine(T.own i w rs a c).keep G fun q F r=> ?_
   have:q≠f:=by rintro rfl;exact r (B i w a).1
   rw[aq,ac this];exact J q F ((T.off i u w v b a E q).resolve_left r)
 ·by_cases b:i=u
  ·subst b;rw[iz n]at a;rw[gU C]at d;cases a
   by_cases g:q<x
   ·exact .inl (t q g)
   ·exact .inr ((B j z d).2 q aa)
  ·rw[gU (bX b)]at a
   by_cases D:j=u
   ·subst D;rw[iz n]at d;cases d
    by_cases g:q<x
    ·exact .inr (t q g)
    ·exact .inl ((B i w a).2 q aa)
   ·rw[gU (bX D)]at d;exact T.off i j w z C a d q
theorem ef (l:List (Nat×Choice)):(cA l).length=l.length:=by simp[cA]
theorem xM (l:List (Nat×Choice)):((cA l).all fun r=>decide (r.length=4))=true:=by simp[cA]
def ig (p:Prog) (k:Int) (l:List Vis) (u j:Nat):List (List (List V)):=(List.range l.length).map fun i=>if i<u then cA (bM p k l i)else if i=u then cA ((bM p k l u).take j)else []
theorem kao {p:Prog} {k:Int} {l:List Vis} {u j:Nat} (b:u<l.length):ig p k l u (j+1)=(ig p k l u j).set u (cA ((bM p k l u).take (j+1))):=by
 refine p_ fun i=> ?_
 by_cases h:i=u
 ·subst h;rw[iz (by simp[ig];exact b)];simp only[ig,zJ];rw[jt b,cZ,ac (lC i),ah rfl]
 ·rw[gU (bX h)];simp only[ig,zJ]
  cases c:(List.range l.length)[i]? with
  | none=>rfl
  | some a=>
    obtain⟨_,e⟩:=zH.1 c;rw[List.getElem_range]at e;subst e;simp only[cZ,ac h]
theorem Ya (p:Prog) (hs:p.sane) (C:aN p=true) (k:Int) (hk:0<=k/\k<=2) (l:List Vis) (I:VisOk p k l l.length) (hl:l.length<=20000) (H:ae) (nx:Nat):
 ∃r h' n',DenR Γ G 361 [(zP p),vi k,.t (.sl (l.map fun v=>Config.enc v.c))] H nx=some (r,h',n')/\(∃kG kE vs,r= .mp kG 0 0/\h' kG=some (.rows 3 [[.ms kE 0 l.length,.t .nils,vi 0]] false)/\kG<n'/\EdgT h' n' kE vs ((List.range l.length).map fun u=>cA (bM p k l u))):=by
 have F3: ∀{i:Nat},i<l.length->SmlC (bm l i):=fun hi=>SR C (nR I hi).b
 refine bO (q:=aA ?_);refine aS 4290773760 l.length (fun i f h x=>(f 22).v=vi i/\h (nx+2)=some (.map (lq l i))/\nx+2<x) rfl ⟨am,by simp -dsimp only[go_sem,seval];rfl,av⟩ ?_;rintro i f u h x bs hi ⟨DR,s,hx⟩;have P:=aB i aa
 by_cases m:i<l.length
 ·have t:=aW m;have L:=zI m;have B:=ia L;have ht:=Mf _ (F3 m);have hp:=Y7 I m;rw[B]at ht hp
  generalize l[i]=v at *
  refine dG DR t L ht s hp @Config.enc.eq_1 ?_;refine⟨aa,ak P,am,av⟩
 ·have t:=aI m;have:i=l.length:=aa
  subst this;have E1:((l.length:Int)<=(l.length:Int)/\(l.length:Int)<=4294967296)=True:=aW aa;simp -dsimp only[go_sem,seval,DR,t,E1,aU];have n1:(nx=x+3)=False:=aI aa;have n2:(nx=x+1)=False:=aI aa
  refine aS 9903520314283041649437693952 l.length (fun u f h y=>(f 39).v=vi u/\h (nx+2)=some (.map (lq l l.length))/\x+1+4<y/\h (x+1+4)=some (.rows 3 [[.ms (x+1+2) 0 l.length,.t .nils,vi 0]] false)/\ ∃vs,EdgT h y (x+1+2) vs (ig p k l u 0)) rfl
   ⟨am,by simp -dsimp only[go_sem,seval,n1,n2];exact s,by simp -dsimp only[go_sem,seval];try omega,by simp -dsimp only[go_sem,seval];try rfl,List.replicate l.length (.t .nils),?_⟩ ?_
  ·have n5:(x=x+2)=False:=aI aa;refine⟨by simp -dsimp only[go_sem,seval,List.map_replicate,n5];try rfl,av,by simp[ig],fun i v rs Z hr=> ?_,fun i j v w _ Z P q=> ?_⟩
   ·obtain rfl:=nj (zL Z);refine .inl ⟨rfl,?_⟩;simp only[ig,zJ,zE]at hr;obtain⟨a,_,rfl⟩:=hr;rw[ac aa];split
    ·rw[fy];rfl
    ·rfl
   ·obtain rfl:=nj (zL Z);exact .inl fun i n e=>by cases e
  clear s;rintro u f u' h y bs hu ⟨W,s,hy,z,vs,o⟩;have P:=aB u aa
  by_cases m:u<l.length
  ·have t:=aW m;have L:=zI m;have B:=ia L;have F:=nR I m;have Ch:=I5 p hs C k hk _ F;have By:=z8 C (k:=k) F.b;rw[B]at Ch By F
   generalize RA:l[u]=v at *
   refine bT W t L Ch @Config.enc.eq_1 ?_
   refine aS 4951760157140958149643583488 (bP p k v.c).length (fun j f h y=>(f 49).v=vi j/\h (nx+2)=some (.map (lq l l.length))/\x+1+4<y/\h (x+1+4)=some (.rows 3 [[.ms (x+1+2) 0 l.length,.t .nils,vi 0]] false)/\ ∃vs,EdgT h y (x+1+2) vs (ig p k l u j)) rfl
    ⟨am,s,av,z,vs,o.le av⟩ ?_
   clear s z o hy vs;rintro j f u' h y bs hj ⟨U,s,hy,z,vs,o⟩;have C9:=aB j aa
   by_cases Q:j<(bP p k v.c).length
   ·have R:=aW Q;obtain⟨a,J,Cp⟩:=au Q;have ED:=xQ p hs C k hk v.c F a;obtain⟨d,S,hd⟩:=lW C F Cp;rw[S]at ED;have PN:=Mf d (SR C hd.b);have E:=sK I m (x:=a) (by rw[B];exact Cp);rw[B,nxK,S]at E;simp only at E;have AP: ∃v∈l,v.c=d:=⟨l[f8 l d],mg E.1,(ia (zI E.1)).symm.trans E.2⟩
    have D3:=WY I AP;have E6:u<vs.length:=by rw[o.len,ig,cP,p9];exact m
    obtain⟨D,N,_⟩:=au E6;have Ap:(vs.map fun v=>[v])[u]? =some [D]:=by rw[zJ,N];rfl
    have Ey:(ig p k l u j)[u]? =some (cA ((bM p k l u).take j)):=by
     simp only[ig,zJ];rw[jt m,cZ,ac (lC u),ah rfl]
    have A:=o.own u D _ N Ey;have w1:=A.valOf;have T:=o.e;have w5:=fun a b c d e f g=>(A.upd (q:=y+a+b+c+d+e+f) aa g).rowsS
    have w6:=fun a b c d e f g i=>(A.upd (q:=y+a+b+c+d+e+f+g) aa i).rowsS
    simp -dsimp only[go_sem,seval,U,R,J,ED,PN,s,D3,z,T,gx,t,Ap,w1,w5,w6];have gE:aK D (x+1+2):=A.offAt fun rs e=>by rw[T]at e;simp at e
    have gM:aK D (nx+2):=A.offAt fun rs e=>by rw[s]at e;cases e
    have gG:aK D (x+1+4):=A.offAt fun rs e=>by rw[z]at e;simp at e
    have RO:=o.lt;refine ce (A.upd aa _) aa (by rw[ef,bJ];omega) aG rfl (xM _) ?_;intro v' hp X Bn M;have w2:=X.valOf;have w3:=X.cellsV;unfold V.cells at w3;have y1:=M (x+1+2) aa gE;have y2:=M (nx+2) aa gM;have y3:=M (x+1+4) aa gG;rw[aq,ac aa,T]at y1;rw[aq,ac aa,s]at y2;rw[aq,ac aa,z]at y3;have Ju:(Option.map (fun v=>[v]) vs[u]?)=some [D]:=by rw[N];rfl
    refine qY w2 w3 y1 y2 y3 t U Ju ?_;refine⟨?_,?_⟩
    ·simp only[mI,ey,qq,lz,dv,sep,AOp.looks,AOp.opds,AOp.wopd,jJ,bQ,du,fR];simp -dsimp only[go_sem,seval,V.top,w1];rcases A with⟨e,_⟩ | ⟨kV,e,_,e2⟩
     ·rw[e];rfl
     ·have:x+1+4≠kV:=dj z e2 af;rw[e];simp[this]
    ·have n6:(x+2=x)=False:=aI aa
     have Bj:(bM p k l u)[j]? =some (f8 l d,a):=by
      rw[bM,zJ,B,J,cZ,nxK,S]
     refine⟨aa,ak C9,bg n2 y2,av,bg n6 y3,vs.set u v',?_⟩;rw[kao m,a_ Bj,show cA ((bM p k l u).take j++[(f8 l d,a)])=cA ((bM p k l u).take j)++[[vi (f8 l d),vi a.thread,vi a.step,vi a.cell]]by simp[cA]];have hS:=o.set N X (fun q hq=>Bn q aa) (fun q hq Nm=>by rw[M q aa Nm,aq,ac aa]) aa;refine aA ?_;rw[o8]at hS;exact hS.le aa
   ·have R:=aI Q;have:j=(bP p k v.c).length:=aa
    subst this
    have Y:ig p k l u (bP p k v.c).length=ig p k l (u+1) 0:=by
     refine rD fun a J=> ?_
     have M2:(bM p k l u).length=(bP p k v.c).length:=by rw[bM,cP,B]
     rw[<- M2,be]
     by_cases h1:a<u
     ·rw[ah h1,ah aa]
     ·rw[ac h1]
      by_cases h2:a=u
      ·subst h2;rw[ah rfl,ah aa]
      ·rw[ac h2,ac aa,fy];split<;>rfl
    rw[Y]at o;refine a7 U R W ?_;exact⟨aa,ak P,s,av,z,vs,o.le av⟩
  ·have t:=aI m;have:u=l.length:=aa
   subst this
   have Y:ig p k l l.length 0=(List.range l.length).map fun u=>cA (bM p k l u):=by
    refine rD fun a J=> ?_
    rw[ah (dS.1 J)]
   rw[Y]at o;refine aJ W t ?_;exact⟨x+1+4,x+1+2,vs,rfl,z,av,o.le av⟩
def jN {α:Type} (d:α) (l:List α) (i:Nat):List α:=(List.range l.length).map fun q=>l.getD (if q<i\/l.length<=q+i then l.length-1-q else q) d
theorem ny {α:Type} (d:α) (l:List α) (i:Nat):(jN d l i).length=l.length:=by simp[jN]
theorem nD {α:Type} (d:α) (l:List α) (i:Nat) {q:Nat} (h:q<l.length):(jN d l i)[q]? =some (l.getD (if q<i\/l.length<=q+i then l.length-1-q else q) d):=by
 rw[jN,zJ,jt h];rfl
theorem uq {α:Type} (d:α) (l:List α):jN d l 0=l:=by
 refine List.ext_getElem (by rw[ny]) fun q b a=> ?_
 have:=nD d l 0 a;rw[ac aa,zK,zI a,zI b]at this;simpa using this
theorem Px {α:Type} (d:α) (l:List α) {i:Nat} (h:l.length<=i+i+1):jN d l i=l.reverse:=by
 refine p_ fun q=> ?_
 by_cases a:q<l.length
 ·rw[nD d l i a,HA a];have:(if q<i\/l.length<=q+i then l.length-1-q else q)=l.length-1-q:=by split<;>omega
  rw[this,zK,zI (show l.length-1-q<l.length from aa)];rfl
 ·rw[gq (by rw[ny];omega),gq (by rw[nH];omega)]
theorem Lg {α:Type} (d:α) (l:List α) {i:Nat} (h:i+i+1<l.length):jN d l (i+1)=((jN d l i).set i (l.getD (l.length-1-i) d)).set (l.length-1-i) (l.getD i d):=by
 refine p_ fun q=> ?_
 by_cases c:q<l.length
 ·rw[nD d l _ c]
  by_cases a:q=l.length-1-i
  ·subst a;rw[iz (by rw[cL,ny];omega),ah aa]
   congr 2;omega
  ·rw[gU (bX a)]
   by_cases b:q=i
   ·subst b;rw[iz (by rw[ny];omega),ah aa]
   ·rw[gU (bX b),nD d l _ c]
    congr 2
    split<;>split<;>omega
 ·rw[gq (by rw[ny];omega),gq (by rw[cL,cL,ny];omega)]
theorem fS {l:List Int} {i:Nat} {x:Int} (h:l[i]? =some x):(ai l)[i]? =some [vi x]:=by simp[ai,h]
theorem ka2 {H:ae} {n:Nat} {v:V} {l:List Int} (L:ax H n v 1 (ai l)) (R:l.length<2^30):
 ∃r h' q,DenR Γ G 389 [v] H n=some (r,h',q)/\(ax h' q v 1 (ai l.reverse)/\n<=q/\ ∀j,j<n->aK v j->h' j=H j):=by
 rcases L with⟨rfl,e⟩ | ⟨k,rfl,Q,o⟩
 ·have:l=[]:=by simpa[ai]using e
  subst this
  refine bO (q:=?_)
  simp -dsimp only[go_sem,seval];refine aS 268435340 0 (fun i f h x=>(f 2).v=vi 0/\(f 3).v=vi (-1)/\n<=x/\h=H) rfl ⟨am,am,by simp -dsimp only[go_sem,seval];try omega,am⟩ ?_;rintro i f u h x bs hi ⟨b,c,M,rfl⟩;simp -dsimp only[go_sem,seval,b,c];exact⟨.inl ⟨rfl,rfl⟩,av,fun j _ _=>rfl⟩
 ·rw[aC]at *
  refine bO (q:=?_)
  have F:=bu (n:=(l.length:Int)-1) aa;simp -dsimp only[go_sem,seval,o];refine aS 268435340 l.length (fun i f h x=>(f 2).v=vi i/\(f 3).v=vi ((l.length:Int)-1-i)/\h k=some (.rows 1 (ai (jN 0 l i)) false)/\n<=x/\(i=0\/i+i<=l.length)/\ ∀j,j<n->aK (.ms k 0 l.length) j->h j=H j) rfl ⟨am,by simp -dsimp only[go_sem,seval,F];simp,by first | (rw[uq];exact o) | (simp -dsimp only[go_sem,seval];rw[uq];exact o),by first | omega | (simp -dsimp only[go_sem,seval];omega),.inl rfl,fun j _ _=>rfl⟩ ?_;rintro i f u h x bs hi ⟨b,c,a,M,P,s⟩
  by_cases B:i+i+1<l.length
  ·obtain⟨m,A⟩: ∃m,m=l.length-1-i:=⟨_,rfl⟩
   have D:(f 3).v=vi m:=by rw[c,A];congr 2;congr 1;omega
   have d:((i:Int)<(m:Int))=True:=aW aa;have w:m<l.length:=aa
   have t:i<l.length:=aa
   have g:=fS (nD 0 l i w);have z:=fS (nD 0 l i t);rw[ac aa]at g z;have E:=aB i aa;have C:=bu (n:=(m:Int)-1) aa;have N:=Lg 0 l B;have I:((ai (jN 0 l i)).set i [V.t (T.int IntKind.i64 (l.getD m 0))])[m]? =some [vi (l.getD m 0)]:=by rw[gU aa];exact g
   simp -dsimp only[go_sem,seval,b,D,d,a,aW w,aW t,g,z,I,ny,aC];refine⟨aa,ak E,FJ C,?_,av,.inr aa,fun j J y=> ?_⟩
   ·rw[N,<- dV,<- dV,<- A];simp -dsimp only[go_sem,seval]
   ·have:j≠k:=by rintro rfl;exact y _ _ rfl
    simp -dsimp only[go_sem,seval,this];exact s j J y
  ·have d:((i:Int)<(l.length:Int)-1-i)=False:=aI aa;simp -dsimp only[go_sem,seval,b,c,d,a];rw[Px 0 l aa]at a;exact⟨.inr ⟨k,by rw[aC,nH],av,a⟩,av,s⟩
def ch0:Choice:=⟨0,0,0⟩
theorem vk {l:List Choice} {i:Nat} {x:Choice} (h:l[i]? =some x):(bj l)[i]? =some [vi x.thread,vi x.step,vi x.cell]:=by simp[bj,h,Choice.enc]
theorem x7 (l:List Choice) (i:Nat) (x:Choice):(bj l).set i [vi x.thread,vi x.step,vi x.cell]=bj (l.set i x):=by simp[bj,o8,Choice.enc]
theorem Pq {H:ae} {n:Nat} {v:V} {l:List Choice} (L:ax H n v 3 (bj l)) (R:l.length<2^30):
 ∃r h' q,DenR Γ G 390 [v] H n=some (r,h',q)/\(ax h' q v 3 (bj l.reverse)/\n<=q/\ ∀j,j<n->aK v j->h' j=H j):=by
 rcases L with⟨rfl,e⟩ | ⟨k,rfl,Q,o⟩
 ·have:l=[]:=by simpa[bj]using e
  subst this
  refine bO (q:=?_)
  simp -dsimp only[go_sem,seval];refine aS 268435340 0 (fun i f h x=>(f 2).v=vi 0/\(f 3).v=vi (-1)/\n<=x/\h=H) rfl ⟨am,am,by simp -dsimp only[go_sem,seval];try omega,am⟩ ?_;rintro i f u h x bs hi ⟨b,c,M,rfl⟩;simp -dsimp only[go_sem,seval,b,c];exact⟨.inl ⟨rfl,rfl⟩,av,fun j _ _=>rfl⟩
 ·rw[je]at *
  refine bO (q:=?_)
  have F:=bu (n:=(l.length:Int)-1) aa;simp -dsimp only[go_sem,seval,o];refine aS 268435340 l.length (fun i f h x=>(f 2).v=vi i/\(f 3).v=vi ((l.length:Int)-1-i)/\h k=some (.rows 3 (bj (jN ch0 l i)) false)/\n<=x/\(i=0\/i+i<=l.length)/\ ∀j,j<n->aK (.ms k 0 l.length) j->h j=H j) rfl ⟨am,by simp -dsimp only[go_sem,seval,F];simp,by first | (rw[uq];exact o) | (simp -dsimp only[go_sem,seval];rw[uq];exact o),by first | omega | (simp -dsimp only[go_sem,seval];omega),.inl rfl,fun j _ _=>rfl⟩ ?_;rintro i f u h x bs hi ⟨b,c,a,M,P,s⟩
  by_cases B:i+i+1<l.length
  ·obtain⟨m,A⟩: ∃m,m=l.length-1-i:=⟨_,rfl⟩
   have D:(f 3).v=vi m:=by rw[c,A];congr 2;congr 1;omega
   have d:((i:Int)<(m:Int))=True:=aW aa;have w:m<l.length:=aa
   have t:i<l.length:=aa
   have g:=vk (nD ch0 l i w);have z:=vk (nD ch0 l i t);rw[ac aa]at g z;have E:=aB i aa;have C:=bu (n:=(m:Int)-1) aa;have N:=Lg ch0 l B;have I:((bj (jN ch0 l i)).set i [vi (l.getD m ch0).thread,vi (l.getD m ch0).step,vi (l.getD m ch0).cell])[m]? =some [vi (l.getD m ch0).thread,vi (l.getD m ch0).step,vi (l.getD m ch0).cell]:=by rw[gU aa];exact g
   simp -dsimp only[go_sem,seval,b,D,d,a,aW w,aW t,g,z,I,ny,je];refine⟨aa,ak E,FJ C,?_,av,.inr aa,fun j J y=> ?_⟩
   ·rw[N,<- x7,<- x7,<- A];simp -dsimp only[go_sem,seval]
   ·have:j≠k:=by rintro rfl;exact y _ _ rfl
    simp -dsimp only[go_sem,seval,this];exact s j J y
  ·have d:((i:Int)<(l.length:Int)-1-i)=False:=aI aa;simp -dsimp only[go_sem,seval,b,c,d,a];rw[Px ch0 l aa]at a;exact⟨.inr ⟨k,by rw[je,nH],av,a⟩,av,s⟩
theorem mS {a b:Int} (h:a=b) (c: -9223372036854775808<=b/\b<=9223372036854775807):IntKind.i64.wrap a=b:=by rw[h];exact bu c
def cK (a:Nat->Bool) (n:Nat):List (List V):=(List.range n).map fun i=>[vb (a i)]
theorem fl (a:Nat->Bool) (n:Nat):(cK a n).length=n:=by simp[cK]
theorem mB (a:Nat->Bool) {n i:Nat} (h:i<n):(cK a n)[i]? =some [vb (a i)]:=by
 rw[cK,zJ,jt h];rfl
structure GrfH (h:Nat->Option O) (x kG kE kI:Nat) (vs:List V) (n:Nat) (E:Nat->List (Nat×Choice)) (ins:Nat->Bool) (t:Nat):Prop where
 g:h kG=some (.rows 3 [[.ms kE 0 n,.ms kI 0 n,vi t]] false)
 e:h kE=some (.rows 1 (vs.map fun v=>[v]) false)
 i:h kI=some (.rows 1 (cK ins n) false)
 lt:kG<x/\kE<x/\kI<x
 len:vs.length=n
 own: ∀(i:Nat) (v:V),vs[i]? =some v->ax h x v 4 (cA (E i))
 small: ∀i,i<n->(E i).length<=268
 to: ∀i,i<n-> ∀y∈E i,y.1<n
 nl:n<=20000
 insn: ∀i,ins i=true->i<n
theorem GrfH.keep {h h':ae} {x y d c e:Nat} {vs:List V} {n:Nat} {E:Nat->List (Nat×Choice)} {a:Nat->Bool} {t:Nat} (T:GrfH h x d c e vs n E a t) (f:x<=y) (b: ∀q,q<x->h' q=h q):GrfH h' y d c e vs n E a t:=
 ⟨(b _ T.lt.1).trans T.g,(b _ T.lt.2.1).trans T.e,(b _ T.lt.2.2).trans T.i,by have:=T.lt;omega,T.len,fun i v g=>(T.own i v g).keep f fun q j _=>b q j,T.small,T.to,T.nl,T.insn⟩
theorem M' {h:ae} {x f i j:Nat} {vs:List V} {n:Nat} {E:Nat->List (Nat×Choice)} {c:Nat->Bool} {t:Nat} (T:GrfH h x f i j vs n E c t) (y:Choice):
 ∃r h' g,DenR Γ G 379 [.mp f 0 0,(.agg [.t (ti (y).thread),.t (ti (y).step),.t (ti (y).cell)])] h x=some (r,h',g)/\(r=vb (bH t y)/\h'=h/\x<=g):=by
 have e:=T.g
 refine bO (q:=?_)
 by_cases a:y.thread=(t:Int)
 ·have b:decide (y.thread=(t:Int))=true:=dc a;refine aJ e b ?_
  by_cases d:y.step= -1
  ·refine⟨?_,rfl,av⟩;simp[bH,a,d];rfl
  ·refine⟨?_,rfl,av⟩;simp[bH,a,d];rfl
 ·have b:decide (y.thread=(t:Int))=false:=ep a;refine aJ e b ?_;refine⟨?_,rfl,av⟩;simp[bH,a];rfl
theorem WT {h:ae} {x f w y:Nat} {vs:List V} {n:Nat} {E:Nat->List (Nat×Choice)} {b:Nat->Bool} {t:Nat} (T:GrfH h x f w y vs n E b t) {u:Nat} (d:u<n):
 ∃r h' c,DenR Γ G 364 [.mp f 0 0,vi u] h x=some (r,h',c)/\(ax h' c r 4 (cA (E u))/\x<=c/\ ∀q,q<x->h' q=h q):=by
 have s:=T.g;have o:=T.e;obtain⟨v,e,_⟩:=au (show u<vs.length by rw[T.len];exact d);have a:=T.own u v e;have i:(vs.map fun v=>[v])[u]? =some [v]:=by rw[zJ,e];rfl
 have z:=a.valOf;have m:=aW d;have j:=T.len
 refine bO (q:=?_)
 have g:=a.resVal;unfold resVal at g;refine dG s o m i z g j ?_;exact⟨a.le av,av,fun q _=>rfl⟩
def fQ (E:Nat->List (Nat×Choice)) (b:Nat->Bool) (t:Nat) (a:Nat) (l:List (Nat×Choice)):List (Nat×Choice):=(l.filter fun e=>b e.1).map fun e=>(2*e.1+(if bH t e.2 then 1 else a % 2),e.2)
theorem Xe {h:ae} {x Y kE kI:Nat} {vs:List V} {n:Nat} {E:Nat->List (Nat×Choice)} {a:Nat->Bool} {t:Nat} (T:GrfH h x Y kE kI vs n E a t) {u:Nat} (hu:u<2*n):
 ∃r h' M,DenR Γ G 365 [.mp Y 0 0,vi u] h x=some (r,h',M)/\(ax h' M r 4 (cA (fQ E a t u (E (u/ 2))))/\x<=M/\ ∀q,q<x->h' q=h q):=by
 have hg:=T.g;have he:=T.e;have C:u/ 2<n:=aa
 obtain⟨v,X,_⟩:=au (show u/ 2<vs.length by rw[T.len];exact C);have I:=T.own _ v X;have Ap:(vs.map fun v=>[v])[u/ 2]? =some [v]:=by rw[zJ,X];rfl
 have w1:=I.valOf;have MV:=aW C;have BX:=T.len;have d:IntKind.i64.wrap ((u:Int).tdiv 2)=((u/ 2:Nat):Int):=mS (by rw[Int.tdiv_eq_ediv_of_nonneg aa];omega) (by have:=T.nl;omega);have J:(u:Int).tmod 2=((u % 2:Nat):Int):=by rw[A9 aa];omega
 refine bO (q:=?_)
 have w3:=I.lenS;refine ra hg he d MV Ap w1 w3 BX @ef ?_;have F3:=T.small (u/ 2) C
 generalize hL:E (u/ 2)=L at *
 refine aS 281474976448928 L.length (fun j f h' x'=>(f 18).v=vi j/\ax h' x' (f 5).v 4 (cA (fQ E a t u (L.take j)))/\x<=x'/\(∀q,q<x->h' q=h q)/\ ∀q,q<x->aK (f 5).v q) rfl
  ⟨am,.inl ⟨am,rfl⟩,by first | omega | (refine aA ?_;omega),fun q _=>rfl,fun q _ i n=>am⟩ ?_
 rintro j f u' h' x' bs hj ⟨g,b,hx,c,A⟩;have B:=aB j aa;have N:=b.valOf
 by_cases m:j<L.length
 ·have F:=aW m;obtain⟨y,w,Eq⟩:=au m;have R:=T.to (u/ 2) C y (by rw[hL];exact Eq);rcases I with⟨rfl,e⟩ | ⟨kv,rfl,Eh,e2⟩
  ·have:L=[]:=by simpa[cA]using e
   rw[this]at m;simp at m
  ·have KG:(cA L)[j]? =some [vi y.1,vi y.2.thread,vi y.2.step,vi y.2.cell]:=by rw[cA,zJ,w];rfl
   have e3:=(c kv Eh).trans e2;have Dq:=fun z (hz:x<=z)=>(T.keep hz c).i
   have hi:=Dq x (ay _);have S:=(T.keep hx c).g;have W:=mB a R;have U:=aW R;have tn:=T.nl;have Z:IntKind.i64.wrap (2*(y.1:Int))=((2*y.1:Nat):Int):=mS aa aa;have m2:IntKind.i64.wrap (((2*y.1:Nat):Int)+1)=((2*y.1+1:Nat):Int):=mS aa aa;have m3:IntKind.i64.wrap (((2*y.1:Nat):Int)+((u % 2:Nat):Int))=((2*y.1+u % 2:Nat):Int):=mS aa aa;have mlen:(fQ E a t u (L.take j)).length<=j:=by rw[fQ,cP];exact cU (ku _ _) (by rw[bJ];omega)
   refine de g F e3 @ef KG J ?_;refine bf (M' (T.keep aa c) y.2) ?_;rintro r h2 n2 ⟨rfl,rfl,Fh⟩;have q2:=(b.le (show x'<=n2 from aa)).r2;have q3:=(b.le (show x'<=n2 from aa)).r3;cases Q:bH t y.2
   ·refine de S hi @fl U W J ?_;cases o:a y.1
    ·refine aw g ?_;refine⟨aa,ak B,?_,av,c,by simp -dsimp only[go_sem,seval];exact A⟩;refine aA ?_;rw[a_ w,fQ,iC,d6,<- fQ];simp only[o_,rA,o,zG,aX,bc,bW];exact b.le aa
    ·refine dG g Z m2 m3 N q2 q3 ?_;refine ce (b.upd aa _) aa (by rw[ef];omega) aG rfl (xM _) ?_;intro v' hp s H D;have P:=s.valOf;refine aJ P g ?_;refine⟨aa,ak B,?_,av,fun q d=> ?_,fun q d=> ?_⟩
     ·refine aA ?_;rw[a_ w,fQ,iC,d6,<- fQ];simp only[o_,rA,o,Q,aU,aX,zG,aT,bc];rw[show cA (fQ E a t u (L.take j)++[(2*y.1+u % 2,y.2)])=cA (fQ E a t u (L.take j))++[[vi (((2*y.1+u % 2,y.2)).1:Nat),vi y.2.thread,vi y.2.step,vi y.2.cell]]by simp[cA]];exact s.le aa
     ·refine aA ?_;rw[D q aa (A q d),aq,ac aa];exact c q d
     ·refine aA ?_;exact H q aa
   ·refine de S hi @fl U W J ?_;cases o:a y.1
    ·refine aw g ?_;refine⟨aa,ak B,?_,av,c,by simp -dsimp only[go_sem,seval];exact A⟩;refine aA ?_;rw[a_ w,fQ,iC,d6,<- fQ];simp only[o_,rA,o,zG,aX,bc,bW];exact b.le aa
    ·refine dG g Z m2 m3 N q2 q3 ?_;refine ce (b.upd aa _) aa (by rw[ef];omega) aG rfl (xM _) ?_;intro v' hp s H D;have P:=s.valOf;refine aJ P g ?_;refine⟨aa,ak B,?_,av,fun q d=> ?_,fun q d=> ?_⟩
     ·refine aA ?_;rw[a_ w,fQ,iC,d6,<- fQ];simp only[o_,rA,o,Q,aU,aX,zG,aT,bc];rw[show cA (fQ E a t u (L.take j)++[(2*y.1+1,y.2)])=cA (fQ E a t u (L.take j))++[[vi (((2*y.1+1,y.2)).1:Nat),vi y.2.thread,vi y.2.step,vi y.2.cell]]by simp[cA]];exact s.le aa
     ·refine aA ?_;rw[D q aa (A q d),aq,ac aa];exact c q d
     ·refine aA ?_;exact H q aa
 ·have F:=aI m;have:j=L.length:=aa
  subst this;rw[be]at b;have v2:=b.resVal;unfold resVal at v2;refine bN g F N v2 ?_;exact⟨b.le av,av,c⟩
def nF (a:List Int) (b:List Choice) (fr:Nat):Nat->Nat->List Choice->List Choice
 | 0,_,l=>l
 | f+1,v,l=>if v≠fr/\a.getD v (-1)≠ -1 then nF a b fr f (a.getD v (-1)).toNat (l++[b.getD v ch0])else l
theorem M_ {H:ae} {nx e f n v:Nat} {a:List Int} (m:H e=some (.rows 1 [[.ms f 0 n]] false)) (hp:H f=some (.rows 1 (ai a) false)) (c:a.length=n) (d:v<n):
 ∃r h' g,DenR Γ G 380 [vi v,.mp e 0 0] H nx=some (r,h',g)/\(r=vi (a.getD v (-1))/\h'=H/\nx<=g):=by
 have i:=aW d;have b:v<a.length:=by rw[c];exact d
 have o:(ai a)[v]? =some [vi (a.getD v (-1))]:=by
  rw[zK,zI b];exact fS (zI b)
 have j:=aC a
 refine bO (q:=de m hp i o j c ?_);exact⟨rfl,rfl,av⟩
theorem Y0 {H:ae} {nx e f n v:Nat} {a:List Choice} (m:H e=some (.rows 1 [[.ms f 0 n]] false)) (o:H f=some (.rows 3 (bj a) false)) (c:a.length=n) (d:v<n):
 ∃r h' g,DenR Γ G 381 [vi v,.mp e 0 0] H nx=some (r,h',g)/\(r=(.agg [.t (ti ((a.getD v ch0)).thread),.t (ti ((a.getD v ch0)).step),.t (ti ((a.getD v ch0)).cell)])/\h'=H/\nx<=g):=by
 have i:=aW d;have b:v<a.length:=by rw[c];exact d
 have q:(bj a)[v]? =some [vi (a.getD v ch0).thread,vi (a.getD v ch0).step,vi (a.getD v ch0).cell]:=by
  rw[zK,zI b];exact vk (zI b)
 have j:=je a
 refine bO (q:=de m o i q j c ?_);exact⟨rfl,rfl,av⟩
theorem X0 {H:ae} {nx z E A F n fr to:Nat} {a:List Int} {d:List Choice} (S:H z=some (.rows 1 [[.ms A 0 n]] false)) (hp:H A=some (.rows 1 (ai a) false)) (hC:H E=some (.rows 1 [[.ms F 0 n]] false)) (hc:H F=some (.rows 3 (bj d) false))
 (lp:a.length=n) (lc:d.length=n) (b:z<nx/\E<nx/\A<nx/\F<nx) (c:Nat->Nat) (Nk: ∀v,v<n->v≠fr->a.getD v (-1)≠ -1-> ∃u:Nat,a.getD v (-1)=u/\u<n/\c u<c v) (X:to<n) (DM:c to<=2^20):
 ∃r h' o,DenR Γ G 382 [.agg [.fn 380 [] [.mp z 0 0],.fn 381 [] [.mp E 0 0]],vi fr,vi to] H nx=some (r,h',o)/\(ax h' o r 3 (bj (nF a d fr (c to+1) to []).reverse)/\nx<=o/\ ∀q,q<nx->h' q=H q):=by
 refine bO (q:=aA ?_)
 refine aS 536870788 (c to) (fun i f h x=> ∃(v:Nat) (l:List Choice),v<n/\(f 2).v=vi v/\c v+i<=c to/\l.length=i/\nF a d fr (c to+1-i) v l=nF a d fr (c to+1) to []/\ax h x (f 7).v 3 (bj l)/\nx<=x/\(∀q,q<nx->h q=H q)/\ ∀q,q<nx->aK (f 7).v q) rfl
  ⟨to,[],X,am,aa,rfl,rfl,.inl ⟨am,rfl⟩,by first | omega | (refine aA ?_;omega),fun q _=>rfl,fun q _ i n=>am⟩ ?_
 rintro i f u h x bs hi ⟨v,l,D,t,DY,C,j,y,hx,m,J⟩;have e1:=(m z b.1).trans S;have e2:=(m E b.2.1).trans hC;have e3:=(m A b.2.2.1).trans hp;have e4:=(m F b.2.2.2).trans hc;have I:=y.valOf;rw[show c to+1-i=c to-i+1 from aa,nF]at j
 by_cases L:v=fr
 ·subst L;rw[ac af]at j;refine aJ t I ?_;refine bf (Pq (y.le aa) (by rw[C];omega)) ?_;rintro r h' o ⟨s,N,P⟩;have Q:=s.valOf;have B:=s.resVal;unfold resVal at B;refine aJ Q B ?_;rw[<- j];exact⟨s.le av,av,fun q g=>(P q aa (J q g)).trans (m q g)⟩
 ·have d1:((v:Int)=(fr:Int))=False:=aI aa;refine aJ t d1 ?_;refine bf (M_ e1 e3 lp D) ?_;rintro r h' o ⟨rfl,rfl,hn⟩
  by_cases w:a.getD v (-1)= -1
  ·rw[ac fun e=>e.2 w]at j;refine a7 t w I ?_;refine bf (Pq (y.le aa) (by rw[C];omega)) ?_;rintro r RR n'' ⟨s,N,P⟩;have Q:=s.valOf;have B:=s.resVal;unfold resVal at B;refine aJ Q B ?_;rw[<- j];exact⟨s.le av,av,fun q g=>(P q aa (J q g)).trans (m q g)⟩
  ·rw[ah ⟨L,w⟩]at j;obtain⟨u2,T,p2,p3⟩:=Nk v D L w;have Y:((a.getD v (-1))= -1)=False:=aI w;refine a7 t Y I ?_;refine bf (Y0 e2 e4 lc D) ?_;rintro r h' n2 ⟨rfl,rfl,Fh⟩;have q2:=(y.le (show x<=o from aa)).r1;refine a7 t I q2 ?_;refine ce (y.upd aa _) aa (by rw[je,C];omega) aG rfl (pd _) ?_;intro v' Z R W U;have N:=R.valOf
   have M: ∀q,q<nx->At (updC h' (o+5) (some (O.rows 3 [[V.t (ti (d.getD v ch0).thread),V.t (ti (d.getD v ch0).step),V.t (ti (d.getD v ch0).cell)]] false))) Z q=H q:=fun q g=>by
    rw[U q aa (J q g),aq,ac aa];exact m q g
   refine aJ N t ?_;refine bf (M_ ((M z b.1).trans S) ((M A b.2.2.1).trans hp) lp D) ?_;rintro r h3 n3 ⟨rfl,rfl,N1⟩;refine aA ?_;rw[T,kW]at j;refine⟨aa,u2,l++[d.getD v ch0],p2,ak T,aa,by simp[C],?_,?_,av,?_,?_⟩
   ·rw[show c to+1-(i+1)=c to-i by omega];exact j
   ·refine aA ?_;rw[mw];exact R.le aa
   ·refine aA ?_;exact M
   ·refine aA ?_;exact fun q g=>W q aa
theorem nU: ∀(n:Nat) (l:List Nat),l.Nodup->(∀x∈l,x<n)->l.length<=n
 | 0,[],_,_=>ay _
 | 0,x::l,_,hl=>absurd (hl x fh) (sV x)
 | n+1,l,Bt,hl=>by
   by_cases c:n∈l
   ·have d:=nU n (l.erase n) (Bt.erase n) fun x a=>by
     have b:=(List.Nodup.mem_erase_iff Bt).1 a;have:=hl x b.2;have:=b.1;omega
    rw[List.length_erase_of_mem c]at d;omega
   ·have:=nU n l Bt fun x a=>by
     have:=hl x a;have:x≠n:=fun e=>c (e▸a)
     omega
    omega
structure PS where
 par:List Int
 ch:List Choice
 q:List Nat
def gl (u:Nat) (s:PS) (e:Nat×Choice):PS:=if s.par.getD e.1 (-1)= -1 then⟨s.par.set e.1 u,s.ch.set e.1 e.2,s.q++[e.1]⟩else s
def goP (E:Nat->List (Nat×Choice)) (to:Nat):Nat->Nat->PS->PS
 | 0,_,s=>s
 | f+1,i,s=>match s.q[i]? with
   | some u=>if s.par.getD to (-1)= -1 then goP E to f (i+1) ((E u).foldl (gl u) s)else s
   | none=>s
def ps0 (n fr:Nat):PS:=⟨(List.replicate n (-1)).set fr fr,List.replicate n ch0,[fr]⟩
def jU (E:Nat->List (Nat×Choice)) (n fr to:Nat):PS:=goP E to n 0 (ps0 n fr)
def eG (E:Nat->List (Nat×Choice)) (n fr to:Nat):List Choice:=
 (nF (jU E n fr to).par (jU E n fr to).ch fr ((jU E n fr to).q.idxOf to+1) to []).reverse
abbrev POk (E:Nat->List (Nat×Choice)) (s n:Nat) (t:PS) (i:Nat):Prop:=PathOk E s n t.par t.ch t.q i
theorem SZ {E:Nat->List (Nat×Choice)} {s n:Nat} {t:PS} {i u:Nat} (h:POk E s n t i) (b:t.q[i]? =some u) {e:Nat×Choice} (f:e∈E u) (a:e.1<n):
 POk E s n (gl u t e) i/\(gl u t e).q[i]? =some u/\e.1∈(gl u t e).q/\ ∀v∈t.q,v∈(gl u t e).q:=by
 unfold gl;split
 ·rename_i c;have d:=(zH.1 b).1;exact⟨h.add b f a c,by rw[bU d];exact b,af,fun v a=>by simp[a]⟩
 ·rename_i c;exact⟨h,b,(h.met _ a).2 c,fun v a=>a⟩
theorem RX {E:Nat->List (Nat×Choice)} {s n:Nat} {i u:Nat}: ∀{l:List (Nat×Choice)} {t:PS},POk E s n t i->t.q[i]? =some u->(∀e∈l,e∈E u/\e.1<n)->
 POk E s n (l.foldl (gl u) t) i/\(l.foldl (gl u) t).q[i]? =some u/\(∀e∈l,e.1∈(l.foldl (gl u) t).q)/\ ∀v∈t.q,v∈(l.foldl (gl u) t).q
 | [],t,h,hu,_=>⟨h,hu,fun e r=>absurd r ki,fun v b=>b⟩
 | e::l,t,h,hu,hl=>by
   obtain⟨j,m,o,q⟩:=SZ h hu (hl e af).1 (hl e af).2;obtain⟨d,f,g,c⟩:=RX (l:=l) j m fun y a=>hl y (by simp[a])
   refine⟨d,f,fun y a=> ?_,fun v b=>c v (q v b)⟩;rcases cj.1 a with rfl | a
   ·exact c _ o
   ·exact g y a
theorem PR {E:Nat->List (Nat×Choice)} {s n:Nat} {i u:Nat} {t:PS} (h:POk E s n t i) (q:t.q[i]? =some u) (o: ∀e∈E u,e.1<n):POk E s n ((E u).foldl (gl u) t) (i+1):=by
 obtain⟨a,d,m,_⟩:=RX (l:=E u) h q fun e b=>⟨b,o e b⟩
 refine⟨a.lp,a.lc,(zH.1 d).1,a.z,a.nd,a.lt,a.met,a.pre,fun j w v c e b g=> ?_⟩;rcases bw j i with f | r
 ·exact a.cl j w f c e b g
 ·have:j=i:=aa
  subst this;rw[d]at c;cases c;exact m e b
theorem Tc {E:Nat->List (Nat×Choice)} {n fr:Nat} (h:fr<n):POk E fr n (ps0 n fr) 0:=by
 refine⟨by simp[ps0],by simp[ps0],af,rfl,by simp[ps0],fun v a=> ?_,fun v a=> ?_,fun j v b a=> ?_,fun j u b=>aa⟩
 ·simp only[ps0,bB]at a;omega
 ·simp only[ps0,bB,zK,cx,iB]
  by_cases e:fr=v
  ·subst e;simp[a]
  ·rw[ac e];simp[a,bX e]
 ·simp only[ps0]at a;rw[gq (by simp;omega)]at a;cases a
theorem POk.len {E:Nat->List (Nat×Choice)} {s n:Nat} {t:PS} {i:Nat} (h:POk E s n t i):t.q.length<=n:=nU n _ h.nd h.lt
theorem S9 {E:Nat->List (Nat×Choice)} {s n to:Nat} (b: ∀u,u<n-> ∀e∈E u,e.1<n): ∀(f i:Nat) {t:PS},POk E s n t i->n<=f+i->
 ∃c,POk E s n (goP E to f i t) c/\((goP E to f i t).par.getD to (-1)= -1->c=(goP E to f i t).q.length)
 | 0,i,t,h,hf=>⟨i,h,fun _=>by have:=h.len;have:=h.le;rw[goP];omega⟩
 | f+1,i,t,h,hf=>by
   rw[goP]
   cases a:t.q[i]? with
   | none=>
     simp only
     exact⟨i,h,fun _=>by have:=oJ.1 a;have:=h.le;omega⟩
   | some u=>
     simp only
     by_cases hp:t.par.getD to (-1)= -1
     ·rw[ah hp];exact S9 b f (i+1) (PR h a (b u (h.lt u (zL a)))) aa
     ·rw[ac hp];exact⟨i,h,fun e=>absurd e hp⟩
theorem kaJ {E:Nat->List (Nat×Choice)} {n fr to:Nat} (b: ∀u,u<n-> ∀e∈E u,e.1<n) (a:fr<n):
 ∃i,POk E fr n (jU E n fr to) i/\((jU E n fr to).par.getD to (-1)= -1->i=(jU E n fr to).q.length):=S9 b n 0 (Tc a) aa
theorem POk.rk {E:Nat->List (Nat×Choice)} {s n:Nat} {t:PS} {i:Nat} (h:POk E s n t i) {v:Nat} (o:v<n) (e:v≠s) (hp:t.par.getD v (-1)≠ -1):
 ∃u:Nat,t.par.getD v (-1)=u/\u<n/\t.q.idxOf u<t.q.idxOf v/\(v,t.ch.getD v ch0)∈E u:=by
 have m:=(h.met v o).2 hp;have hi:=z7 m;have c:t.q[t.q.idxOf v]? =some v:=by rw[zI hi,List.getElem_idxOf]
 have a:0<t.q.idxOf v:=by
  rcases nh (t.q.idxOf v)with a | a
  ·rw[a,h.z]at c;cases c;exact absurd rfl e
  ·exact a
 obtain⟨k,u,q,b,g,j⟩:=h.pre _ v a c;refine⟨u,g,h.lt u (zL b),?_,j⟩;have r:=(zH.1 b).1;have f:=zL b;have d:=z7 f;have:t.q[t.q.idxOf u]? =t.q[k]? :=by rw[zI d,List.getElem_idxOf,b]
 have:=(wh d h.nd).1 this;omega
theorem B_ {E:Nat->List (Nat×Choice)} {s n:Nat} {t:PS} {i:Nat} (h:POk E s n t i): ∀(f v:Nat) (l:List Choice),v∈t.q->t.q.idxOf v<f->
 ∃r,nF t.par t.ch s f v l=l++r/\ix E s r.reverse v
 | 0,v,l,hv,hf=>aa
 | f+1,v,l,hv,hf=>by
   rw[nF];have b:=h.lt v hv;have hp:=(h.met v b).1 hv
   by_cases a:v=s
   ·subst a;rw[ac fun e=>e.1 rfl];exact⟨[],af,rfl⟩
   ·rw[ah ⟨a,hp⟩];obtain⟨u,j,o,q,m⟩:=h.rk b a hp;rw[j,kW]
    have c:u∈t.q:=by
     rw[<- List.idxOf_lt_length_iff];have:=z7 hv;omega
    obtain⟨r,d,g⟩:=B_ h f u (l++[t.ch.getD v ch0]) c aa;refine⟨t.ch.getD v ch0::r,by rw[d,zQ];rfl,?_⟩;rw[List.reverse_cons];exact g.app ⟨v,m,rfl⟩
theorem BW {E:Nat->List (Nat×Choice)} {n fr to:Nat} (a: ∀u,u<n-> ∀e∈E u,e.1<n) (b:fr<n) (c:to<n) (m:Rch (kT E) fr to):ix E fr (eG E n fr to) to:=by
 obtain⟨i,h,g⟩:=kaJ (to:=to) a b
 have j:to∈(jU E n fr to).q:=by
  by_cases hp:(jU E n fr to).par.getD to (-1)= -1
  ·rw[g hp]at h;exact PathOk.all h a m
  ·exact(h.met to c).2 hp
 obtain⟨r,d,f⟩:=B_ h ((jU E n fr to).q.idxOf to+1) to [] j aa;rw[eG,d];exact f
end Rg
end

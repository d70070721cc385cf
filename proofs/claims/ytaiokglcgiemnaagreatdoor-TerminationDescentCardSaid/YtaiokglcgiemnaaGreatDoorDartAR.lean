/- Part of the proof of laws of relyguardlaw36. No condition. -/
import Derived.Test.YtaiokglcgiemnaaGreatDoorDartAQ
import Derived.Test.YtaiokglcgiemnaaGreatDoorDartAK
import Derived.Test.YtaiokglcgiemnaaGreatDoorDartAP
set_option linter.unusedSimpArgs false
set_option linter.unusedVariables false
section
namespace Rg
open Go
theorem zfK (p:Prog) (hf:zw6 p=true) (e:Entry) (he:Proper p e):Den Γ G 205 [(zP p),.agg [.t (ints e.cells),.t (ints e.values)]]=some (vb true):=by
 obtain⟨⟨m1,m2,m3,m4⟩,_⟩:=zw8 (zw9 hf).1;have hl:=zaW he;have hv:=he.len
 have n0: ¬(e.cells.length:Int)=0:=by
  have:e.cells.length≠0:=fun h=>he.ne (List.eq_nil_of_length_eq_zero h)
  omega
 have n1: ¬(e.cells.length:Int)>(p.cells.length:Int):=by omega
 have n2:(e.values.length:Int)=(e.cells.length:Int):=by omega
 (refine zw3 Γ205 rfl ?_;dsimp only[zq1])
 simp -dsimp only[go_sem,seval,n0,n1,n2];refine zaq 1237940039285380266309189872 e.cells.length (fun i f=>(f 33).v=vi i) rfl rfl (by simp -dsimp only[go_sem,seval]) ?_;rintro i f u kk bb hi NR;have hw:=zag i (by omega);simp -dsimp only[go_sem,seval,NR];refine zw1 (fun h=> ?_) (fun h=> ?_)<;>(try rw[h])<;>(try simp only[zab]at h)<;>(try simp -dsimp only[go_sem,seval,NR])
 ·obtain⟨n,hn,HL⟩:=zad ‹i<e.cells.length›;obtain⟨v,Bs,_⟩:=zad (show i<e.values.length by omega);obtain⟨c0,y,hy,ht,hg,v0,v1⟩:=he.cell i n v hn Bs;have J5:=(zH.1 hy).1;obtain⟨w1,w2,_⟩:=zyB hf (zL hy);have Bo:=zeJ (w:=y.w) (by omega);have F8: ¬y.w<0:=by omega
  have a1: ¬n<0:=by omega
  have a2: ¬n>=(p.cells.length:Int):=by omega
  have a3: ¬v<0:=by omega
  have a4: ¬v>=2^y.w.toNat:=by omega
  have i1:(0:Int)<=(i:Int):=by omega
  have i2:(i:Int)<=(e.cells.length:Int):=by omega
  have i3:((i:Int)-0).toNat=i:=by omega
  have Es:=zcx (e.cells.take i) n (by rw[List.length_take];omega)
  have PG:(e.cells.take i).contains n=false:=by
   rw[Bool.eq_false_iff];intro hc;have hm:n∈e.cells.take i:=by simpa using hc
   obtain⟨j,hj⟩:=List.getElem?_of_mem hm;rw[zO]at hj;split at hj
   ·rename_i Fu;have h1:=(zH.1 hj)
    have h2:=(zH.1 hn)
    exact List.pairwise_iff_getElem.1 (List.nodup_iff_pairwise_ne.1 he.nd) j i h1.1 h2.1 Fu (by rw[h1.2,h2.2])
   ·simp at hj
  rw[PG]at Es;have Aa:((e.cells.map fun n=>[ti n]).all fun x=>decide (x.length=1))=true:=by simp
  have Ip:(e.cells.map fun n=>[ti n]).take i=(e.cells.take i).map fun n=>[ti n]:=by rw[List.map_take]
  have Nn:((y.ghost==decide ((i:Int)>0)) != true)=false:=by
   rw[hg]
   by_cases h0:0<i
   ·have:(i:Int)>0:=by omega
    simp[h0]
   ·have : ¬(i:Int)>0:=by omega
    simp[h0]
  simp -dsimp only[go_sem,seval,NR,hn,a1,a2,i1,i2,i3,Aa,Ip,Es,c0,hy,ht,Nn,Bs,a3,Bo,F8,a4];exact⟨by omega,by simp -dsimp only[go_sem,seval,hw]⟩
theorem zlx (p:Prog) (hf:zw6 p=true) (c:Config) (hc:IsB p c):Den Γ G 196 [(.agg [.t (.sl ((p).cells.map (Cell.enc))),.t (.sl ((p).modules.map (Contract.enc))),.t (.sl ((p).locks.map (Lock.enc))),.t (.sl ((p).threads.map (Thread.enc)))]),(.agg [.t (ints (c).mem),.t (ints (c).at_),.t (.sl ((c).buf.map (fun b=>[.sl (b.map Entry.enc)])))])]=some (vb true):=by
 obtain⟨⟨m1,m2,m3,m4⟩,_⟩:=zw8 (zw9 hf).1;have l1:=hc.lm;have l2:=hc.la;have l3:=hc.lb;have e1:(c.mem.length:Int)=(p.cells.length:Int):=by omega
 have e2:(c.at_.length:Int)=(p.threads.length:Int):=by omega
 have e3:(c.buf.length:Int)=(p.threads.length:Int):=by omega
 (refine zw3 Γ196 rfl ?_;dsimp only[f196])
 simp -dsimp only[go_sem,seval,e1,e2,e3];refine zaq 576459652791795824 c.mem.length (fun i f=>(f 40).v=vi i) rfl rfl (by simp -dsimp only[go_sem,seval]) ?_;rintro i f u kk bb hi Ml;have hw:=zag i (by omega);simp -dsimp only[go_sem,seval,Ml];refine zw1 (fun h=> ?_) (fun h=> ?_)<;>(try rw[h])<;>(try simp only[zab]at h)<;>(try simp -dsimp only[go_sem,seval,Ml])
 ·obtain⟨v,hv,_⟩:=zad (show i<c.mem.length by omega);obtain⟨x,hx,Cx⟩:=zad (show i<p.cells.length by omega);obtain⟨w1,w2,_⟩:=zyB hf Cx;have Bo:=zeJ (w:=x.w) (by omega);have F8: ¬x.w<0:=by omega
  obtain⟨v0,v1⟩:=hc.mem i v x hv hx;have a3: ¬v<0:=by omega
  have a4: ¬v>=2^x.w.toNat:=by omega
  simp -dsimp only[go_sem,seval,Ml,hv,hx,Bo,F8,a3,a4];exact⟨by omega,by simp -dsimp only[go_sem,seval,hw]⟩
 ·refine zaq 2658455991569831741195928102133304208 c.at_.length (fun i f=>(f 62).v=vi i) rfl rfl (by simp -dsimp only[go_sem,seval]) ?_;clear Ml hw;rintro t f u kk bb hi GV;have hw:=zag t (by omega);simp -dsimp only[go_sem,seval,GV];refine zw1 (fun h=> ?_) (fun h=> ?_)<;>(try rw[h])<;>(try simp only[zab]at h)<;>(try simp -dsimp only[go_sem,seval,GV])
  ·obtain⟨a,ha,_⟩:=zad (show t<c.at_.length by omega);obtain⟨x,hx,Cx⟩:=zad (show t<p.threads.length by omega);obtain⟨a1,a2,a3⟩:=hc.at_ t a x ha hx;have Ae:=zx4 (c:=c) (t:=t) (by omega);obtain⟨b1,b2,b3⟩:=hc.buf t _ Ae;have q1: ¬a< -1:=by omega
   have q2: ¬a>=x.points:=by omega
   have q3: ¬((zxq c t).length:Int)>3:=by omega
   by_cases GS:a= -1
   ·have Cm:zxq c t=[]:=b3 (by rw[ha,GS]);have BR:=a3 GS;have n0: ¬((zxq c t).length:Int)>0:=by rw[Cm];simp
    subst GS;simp -dsimp only[go_sem,seval,GV,ha,hx,Ae,q1,q2,q3,BR,n0];refine zaq 1326631847355648459089541812115736592 (zxq c t).length (fun j f'=>(f' 111).v=vi j) rfl rfl (by simp -dsimp only[go_sem,seval]) ?_;rintro j f' u' kk' bb' hj EL;have Ay:=zag j (by omega);simp -dsimp only[go_sem,seval,EL];refine zw1 (fun h=> ?_) (fun h=> ?_)<;>(try rw[h])<;>(try simp only[zab]at h)<;>(try simp -dsimp only[go_sem,seval,EL,GV])
    ·obtain⟨e,he,Dc⟩:=zad ‹j<(zxq c t).length›;have Ku:=zfK p hf e (b2 e Dc);simp -dsimp only[go_sem,seval,EL,GV,he,Entry.enc,Ku];exact⟨by omega,by simp -dsimp only[go_sem,seval,Ay]⟩
    ·exact⟨by omega,by simp -dsimp only[go_sem,seval,hw,GV]⟩
   ·simp -dsimp only[go_sem,seval,GV,ha,hx,Ae,q1,q2,q3,GS];refine zaq 1326631847355648459089541812115736592 (zxq c t).length (fun j f'=>(f' 111).v=vi j) rfl rfl (by simp -dsimp only[go_sem,seval]) ?_;rintro j f' u' kk' bb' hj EL;have Ay:=zag j (by omega);simp -dsimp only[go_sem,seval,EL];refine zw1 (fun h=> ?_) (fun h=> ?_)<;>(try rw[h])<;>(try simp only[zab]at h)<;>(try simp -dsimp only[go_sem,seval,EL,GV])
    ·obtain⟨e,he,Dc⟩:=zad ‹j<(zxq c t).length›;have Ku:=zfK p hf e (b2 e Dc);simp -dsimp only[go_sem,seval,EL,GV,he,Entry.enc,Ku];exact⟨by omega,by simp -dsimp only[go_sem,seval,Ay]⟩
    ·exact⟨by omega,by simp -dsimp only[go_sem,seval,hw,GV]⟩
theorem zjx (p:Prog) (hs:p.sane):Den Γ G 195 [(zP p)]=some (vb (zw6 p)):=by
 (refine zw3 Γ195 rfl ?_;dsimp only[f195])
 have h1:=zbM p hs;simp -dsimp only[go_sem,seval,h1];rfl
theorem zmU (p:Prog) (hs:p.sane) (hf:zw6 p=true) (c:Config) (hc:IsB p c) (k:Int) (hk:k=1\/k=2):Den Γ G 187 [(zP p),vi k,(.agg [.t (ints (c).mem),.t (ints (c).at_),.t (.sl ((c).buf.map (fun b=>[.sl (b.map Entry.enc)])))])]=some (.tup [stV p k c,vb true]):=by
 unfold stV
 (refine zw3 Γ187 rfl ?_;dsimp only[zq5])
 have h1:=zjx p hs;rw[hf]at h1;have h2:=zlx p hf c hc;rcases hk with rfl | rfl
 ·simp -dsimp only[go_sem,seval,h1,h2]
 ·simp -dsimp only[go_sem,seval,h1,h2]
end Rg
end
section
namespace Rg
open Go
def zBx (c:Config):Bool:=c.buf.all fun b=>b.isEmpty
end Rg
end
section
namespace Rg
open Go
noncomputable def envC:(Nat->Slot)->Nat->V:=(Classical.choice (⟨⟨fun sl t=>(sl t).v,rfl⟩⟩:Nonempty {g:(Nat->Slot)->Nat->V// g=fun sl t=>(sl t).v})).1
theorem zlJ:envC=fun sl t=>(sl t).v:=(Classical.choice (⟨⟨fun sl t=>(sl t).v,rfl⟩⟩:Nonempty {g:(Nat->Slot)->Nat->V// g=fun sl t=>(sl t).v})).2
@[go_sem ↓]theorem zsw (sl:Nat->Slot) (t:Nat):envC sl t=(sl t).v:=by rw[zlJ]
@[go_sem ↓]theorem zqA (f:Nat->V) (i j:Nat) (v:V):updC f i v j=pk (j==i) v (f j) ⟨0⟩:=by rw[zal,zjH];rfl
def zkH (env:Nat->V) (ps:List Nat) (vs:List V):Nat->Slot:=fun t=>⟨zzj env ps vs t,none,none⟩
noncomputable def rndS:(Nat->V)->List Nat->List V->Nat->Slot:=(Classical.choice (⟨⟨zkH,rfl⟩⟩:Nonempty {g:(Nat->V)->List Nat->List V->Nat->Slot// g=zkH})).1
theorem zh7:rndS=zkH:=(Classical.choice (⟨⟨zkH,rfl⟩⟩:Nonempty {g:(Nat->V)->List Nat->List V->Nat->Slot// g=zkH})).2
@[go_sem ↓]theorem zqE (env:Nat->V) (t:Nat):(rndS env [] [] t).v=env t:=by rw[zh7];rfl
@[go_sem ↓]theorem zpp (env:Nat->V) (p:Nat) (ps:List Nat) (v:V) (vs:List V) (t:Nat):(rndS env (p::ps) (v::vs) t).v=(rndS (updC env p v) ps vs t).v:=by rw[zh7,zal];rfl
section
variable {Γ:Nat->Option F} {G:Nat->List T}
def zrJ (o:Option (V×(Nat->Option O)×Nat)) (k:Nat) (K:Ex->(Nat->Option O)->Nat->Prop) (_:WK K):Prop:=
 ∃r h' n',o=some (r,h',n')/\ ∃env ps bd st e,h' k=some (.loop env ps bd st)/\st.ends=some e/\K e (updC h' k (some .dead)) n'
@[go_sem ↓]theorem zro (x:Opd) (ps:List Nat) (bd:C) (Q:Ex->M->Prop) (sl:Nat->Slot) (u:Nat->Bool) (h:Nat->Option O) (n b:Nat) (w:W3 (.rangeF x ps bd) Q ⟨sl,u,h,n,b⟩):
 wC Γ G (.rangeF x ps bd) Q ⟨sl,u,h,n,b⟩ w=fnK (zxo G sl x) (fun g a c=>zrJ (DenR Γ G g (a++[V.yl n]++c) (updC h n (some (.loop (envC sl) ps bd .ready))) (n+1)) n (fun e h' n'=>Q e ⟨sl,u,h',n',b⟩) ⟨0⟩) ⟨0⟩:=by
 unfold wC;rw[zaU,zal,zlJ];simp only[wpC,zaB]
 cases zxo G sl x with
 | none=>rfl
 | some v=>
   simp only[zD,fnK]
   cases zze v with
   | none=>rfl
   | some q=>
     obtain⟨g,a,c⟩:=q;simp only[zrJ,zal];apply propext;constructor
     ·rintro⟨r,h',n',hc,_,env',ps',bd',st,e,hl,he,hQ⟩;exact⟨r,h',n',zym.2 hc,env',ps',bd',st,e,hl,he,hQ⟩
     ·rintro⟨r,h',n',hc,env',ps',bd',st,e,hl,he,hQ⟩;exact⟨r,h',n',zym.1 hc,zoU (zym.1 hc),env',ps',bd',st,e,hl,he,hQ⟩
theorem zn9 {o:Option (V×(Nat->Option O)×Nat)} {k:Nat} {K:Ex->(Nat->Option O)->Nat->Prop} {w:WK K} {P:Ex->(Nat->Option O)->Nat->Prop}
 (h: ∃r h' n',o=some (r,h',n')/\ ∃env ps bd st e,h' k=some (.loop env ps bd st)/\st.ends=some e/\P e h' n') (hk: ∀e h' n',P e h' n'->K e (updC h' k (some .dead)) n'):zrJ o k K w:=by
 obtain⟨r,h',n',e1,env,ps,bd,st,e,e2,e3,hp⟩:=h;exact⟨r,h',n',e1,env,ps,bd,st,e,e2,e3,hk e h' n' hp⟩
def FiY (P:Ex->(Nat->Option O)->Nat->Prop) (e:Ex) (m:M):Prop:=P e m.heap m.nxt
@[go_sem ↓]theorem ztz (P:Ex->(Nat->Option O)->Nat->Prop) (e:Ex) (sl:Nat->Slot) (u:Nat->Bool) (h:Nat->Option O) (n b:Nat):FiY P e ⟨sl,u,h,n,b⟩=SpN (P e h n) ⟨0⟩:=rfl
def zp2 (o:Option O) (K:(Nat->V)->List Nat->C->Prop) (_:WK K):Prop:=match o with
 | some (.loop env ps bd .enter)=>K env ps bd
 | _=>False
@[go_sem]theorem zp1 (env:Nat->V) (ps:List Nat) (bd:C) (K:(Nat->V)->List Nat->C->Prop) (w:WK K):zp2 (some (.loop env ps bd .enter)) K w=K env ps bd:=rfl
variable (Γ G) in
def FiA (k:Nat) (cb:C) (Q:Ex->M->Prop):Ex->M->Prop
 | .normal,m=>zp2 (m.heap k) (fun env ps bd=>wC Γ G cb Q ⟨m.sl,m.used,updC m.heap k (some (.loop env ps bd .busy)),m.nxt,m.bas⟩ ⟨0⟩) ⟨0⟩
 | _,_=>False
@[go_sem ↓]theorem ztA (k:Nat) (cb:C) (Q:Ex->M->Prop) (sl:Nat->Slot) (u:Nat->Bool) (h:Nat->Option O) (n b:Nat):
 FiA Γ G k cb Q .normal ⟨sl,u,h,n,b⟩=zp2 (h k) (fun env ps bd=>wC Γ G cb Q ⟨sl,u,updC h k (some (.loop env ps bd .busy)),n,b⟩ ⟨0⟩) ⟨0⟩:=rfl
theorem zlO {k:Nat} {vs:List V} {h:Nat->Option O} {n:Nat} {env:Nat->V} {ps:List Nat} {ca cb:C} {P:Ex->(Nat->Option O)->Nat->Prop} (hk:h k=some (.loop env ps (.round ca cb) .ready)) (hl:vs.length=ps.length)
 (hb: ∀e h' n',P e h' n'-> ∃env' ps' bd',h' k=some (.loop env' ps' bd' .busy))
 (hw:wC Γ G ca (qOf Γ G [] (FiA Γ G k cb (qOf Γ G [] (FiY P)))) ⟨rndS env ps vs,fun _=>false,updC h k (some (.loop env ps (.round ca cb) .enter)),n,n⟩ ⟨0⟩):
 ∃e h' n',P e h' n'/\ ∃env' ps' bd',h' k=some (.loop env' ps' bd' .busy)/\DenY Γ G k vs h n=some (.t (.bool (decide (e=Ex.normal))),updC h' k (some (.loop env' ps' bd' e.toL)),n'):=by
 unfold wC at hw;rw[zaU,zbb,zh7,zal]at hw;obtain⟨e0,m1,hA,hF⟩:=zB0 hw
 cases e0 with
 | exit id=>exact hF.elim
 | ret=>exact hF.elim
 | normal=>
   have JU:zp2 (m1.heap k) (fun env ps bd=>wC Γ G cb (zBL Γ G [] (FiY P)) ⟨m1.sl,m1.used,updC m1.heap k (some (.loop env ps bd .busy)),m1.nxt,m1.bas⟩ ⟨0⟩) ⟨0⟩:=by
    exact hF
   unfold zp2 at JU;split at JU
   ·rename_i env1 ps1 bd1 Be;unfold wC at JU;rw[zaU,zal]at JU;obtain⟨e,m',hB,hP⟩:=zB0 JU;obtain⟨env',ps',bd',Ai⟩:=hb _ _ _ hP;refine⟨e,m'.heap,m'.nxt,hP,env',ps',bd',Ai,zgB.2 ⟨env,ps,ca,cb,m1.st,env1,ps1,bd1,env',ps',bd',e,m'.st,hk,hl,hA,Be,hB,Ai,rfl,by rw[zal];rfl,rfl⟩⟩
   ·exact JU.elim
end
end Rg
end
section
namespace Rg
open Go
end Rg
end
section
namespace Rg
open Go
theorem zmC {o:Option (V×(Nat->Option O)×Nat)} {k:Nat} {P:Ex->(Nat->Option O)->Nat->Prop} {Q:(Nat->Option O)->Nat->Prop} (h: ∃r h' n',o=some (r,h',n')/\Q h' n')
 (hQ: ∀h' n',Q h' n'-> ∃env ps bd st e,h' k=some (.loop env ps bd st)/\st.ends=some e/\P e h' n'): ∃r h' n',o=some (r,h',n')/\ ∃env ps bd st e,h' k=some (.loop env ps bd st)/\st.ends=some e/\P e h' n':=by
 obtain⟨r,h',n',h1,h2⟩:=h;exact⟨r,h',n',h1,hQ h' n' h2⟩
structure NxV (p:Prog) (k:Int) (c:Config) (t:Nat) (n:Int) (env:Nat->V) (ky k7 k8 k9 kS:Nat) (h:Nat->Option O) (x:Nat):Prop where
 e7:env 7= .mp k7 0 0
 e8:env 8= .mp k8 0 0
 e9:env 9= .mp k9 0 0
 e10:env 10= .mp kS 0 0
 hy:h ky=some (.loop env [57,58] zeq .ready)
 h7:h k7=some (.rows 3 [[vi t,vi (-1),vi n]] false)
 h8:h k8=some (.rows 3 [[.t .nils,.t .nils,.t .nils]] false)
 h9:h k9=some (.rows 1 [[vi 0]] false)
 hS:h kS=some (.rows 8 [[.t (ints c.mem),.t (ints c.at_),.t (.sl (c.buf.map fun b=>[.sl (b.map Entry.enc)])),.t (.sl (p.cells.map Cell.enc)),.t (.sl (p.modules.map Contract.enc)),.t (.sl (p.locks.map Lock.enc)),.t (.sl (p.threads.map Thread.enc)),vi k]] false)
 ly:ky<x
 l7:k7<ky
 l8:k8<ky
 l9:k9<ky
 lS:kS<ky
 d78:k7≠k8
 d79:k7≠k9
 d7S:k7≠kS
 d89:k8≠k9
 d8S:k8≠kS
 d9S:k9≠kS
theorem zkG {p:Prog} {k:Int} {c:Config} {t i:Nat} {n:Int} {env:Nat->V} {ky k7 k8 k9 kS:Nat} {h:Nat->Option O} {x:Nat} {e:Entry} (H:NxV p k c t n env ky k7 k8 k9 kS h x) (A8:e.cells≠[]) (hn:zyk e≠n):
 ∃h' n',DenY Γ G ky [vi i,.agg [.t (ints e.cells),.t (ints e.values)]] h x=some (vb true,h',n')/\NxV p k c t n env ky k7 k8 k9 kS h' n':=by
 have C9:e.cells[0]? =some (zyk e):=by
  cases hc:e.cells with
  | nil=>exact absurd hc A8
  | cons a r=>simp[zyk,hc]
 obtain⟨e7,e8,e9,e10,hy,h7,h8,h9,hS,ly,l7,l8,l9,lS,d78,d79,d7S,d89,d8S,d9S⟩:=H;have a1:k7≠x+1+0:=by omega
 have a2:k8≠x+1+0:=by omega
 have a3:k9≠x+1+0:=by omega
 have a4:kS≠x+1+0:=by omega
 have a5:ky≠x+1+0:=by omega
 have c1:x+1+0≠k7:=by omega
 have c2:x+1+0≠k8:=by omega
 have c3:x+1+0≠k9:=by omega
 have c4:x+1+0≠kS:=by omega
 have c5:x+1+0≠ky:=by omega
 have b1:k7≠ky:=by omega
 have b2:k8≠ky:=by omega
 have b3:k9≠ky:=by omega
 have b4:kS≠ky:=by omega
 have:=zlO (Γ:=Γ) (G:=G) (vs:=[vi i,.agg [.t (ints e.cells),.t (ints e.values)]]) (n:=x) (P:=fun ex h' n'=>ex= .normal/\h' ky=some (.loop env [57,58] zeq .busy)/\x<=n'/\(∀j,j<ky->h' j=h j)) hy rfl (fun ex h' n' hP=>⟨_,_,_,hP.2.1⟩) (by
  simp -dsimp only[go_sem,seval,e7,h7,a1,a2,a3,a4,a5,b1,b2,b3,b4,c1,c2,c3,c4,c5,C9,hn];refine⟨rfl,by simp -dsimp only[go_sem,seval];rfl,by simp -dsimp only[go_sem,seval];omega,fun j hj=> ?_⟩;have u1:j≠ky:=by omega
  have u2:j≠x+1+0:=by omega
  simp -dsimp only[go_sem,seval,u1,u2])
 obtain⟨ex,h',n',⟨rfl,q1,q2,q3⟩,env',ps',bd',q6,q7⟩:=this;rw[q1]at q6;simp only[zA,O.loop.injEq]at q6;obtain⟨rfl,rfl,rfl,_⟩:=q6;have hj: ∀j o,j<ky->updC h' ky o j=h j:=fun j o hj=>by rw[zae,if_neg (by omega)];exact q3 j hj
 exact⟨_,n',q7,e7,e8,e9,e10,by rw[zae,if_pos rfl];rfl,by rw[hj _ _ l7];exact h7,by rw[hj _ _ l8];exact h8,by rw[hj _ _ l9];exact h9,by rw[hj _ _ lS];exact hS,by omega,l7,l8,l9,lS,d78,d79,d7S,d89,d8S,d9S⟩
theorem zjF {p:Prog} (hf:zw6 p=true) {k:Int} {c:Config} (hc:IsB p c) {t i:Nat} (ht:t<p.threads.length) {n:Int} {env:Nat->V} {ky k7 k8 k9 kS:Nat} {h:Nat->Option O} {x:Nat} {e:Entry} (H:NxV p k c t n env ky k7 k8 k9 kS h x)
 (he:(zxq c t)[i]? =some e) (A8:e.cells≠[]) (hn:zyk e=n):
 ∃h' n',DenY Γ G ky [vi i,.agg [.t (ints e.cells),.t (ints e.values)]] h x=some (vb false,h',n')/\h' ky=some (.loop env [57,58] zeq (.done .ret))/\
  h' k8=some (.rows 3 [[.t (ints (zxr c t i).mem),.t (ints (zxr c t i).at_),.t (.sl ((zxr c t i).buf.map fun b=>[.sl (b.map Entry.enc)]))]] false)/\h' k9=some (.rows 1 [[vi 0]] false)/\ky<n':=by
 have C9:e.cells[0]? =some (zyk e):=by
  cases hc:e.cells with
  | nil=>exact absurd hc A8
  | cons a r=>simp[zyk,hc]
 have Bh:=zj6 p hf k c hc t ht i e he;unfold stV at Bh;obtain⟨e7,e8,e9,e10,hy,h7,h8,h9,hS,ly,l7,l8,l9,lS,d78,d79,d7S,d89,d8S,d9S⟩:=H;have a1:k7≠x+1+0:=by omega
 have a2:k8≠x+1+0:=by omega
 have a3:k9≠x+1+0:=by omega
 have a4:kS≠x+1+0:=by omega
 have a5:ky≠x+1+0:=by omega
 have c1:x+1+0≠k7:=by omega
 have c2:x+1+0≠k8:=by omega
 have c3:x+1+0≠k9:=by omega
 have c4:x+1+0≠kS:=by omega
 have c5:x+1+0≠ky:=by omega
 have b1:k7≠ky:=by omega
 have b2:k8≠ky:=by omega
 have b3:k9≠ky:=by omega
 have b4:kS≠ky:=by omega
 have b6:ky≠k8:=by omega
 have b7:ky≠k9:=by omega
 have b8:k9≠k8:=by omega
 have:=zlO (Γ:=Γ) (G:=G) (vs:=[vi i,.agg [.t (ints e.cells),.t (ints e.values)]]) (n:=x) (P:=fun ex h' n'=>ex= .ret/\h' ky=some (.loop env [57,58] zeq .busy)/\x<=n'/\
  h' k8=some (.rows 3 [[.t (ints (zxr c t i).mem),.t (ints (zxr c t i).at_),.t (.sl ((zxr c t i).buf.map fun b=>[.sl (b.map Entry.enc)]))]] false)/\h' k9=some (.rows 1 [[vi 0]] false)) hy rfl (fun ex h' n' hP=>⟨_,_,_,hP.2.1⟩) (by
  simp -dsimp only[go_sem,seval,e7,h7,a1,a2,a3,a4,a5,b1,b2,b3,b4,c1,c2,c3,c4,c5,C9,hn,e8,e9,e10,hS,Bh,h8,h9,b6,b7,b8,d89]
  refine⟨rfl,by simp -dsimp only[go_sem,seval,b6,b7];rfl,by simp -dsimp only[go_sem,seval];omega,by simp -dsimp only[go_sem,seval,d89],by simp -dsimp only[go_sem,seval]⟩)
 obtain⟨ex,h',n',⟨rfl,q1,q2,q3,q4⟩,env',ps',bd',q6,q7⟩:=this;rw[q1]at q6;simp only[zA,O.loop.injEq]at q6;obtain⟨rfl,rfl,rfl,_⟩:=q6;exact⟨_,n',q7,by rw[zae,if_pos rfl];rfl,by rw[zae,if_neg b2];exact q3,by rw[zae,if_neg b3];exact q4,by omega⟩
theorem zjJ (p:Prog) (hs:p.sane) (hf:zw6 p=true) (k:Int) (hk:k=1\/k=2) (c:Config) (hc:IsB p c) (x:Choice):
 Den Γ G 180 [(zP p),vi k,(.agg [.t (ints (c).mem),.t (ints (c).at_),.t (.sl ((c).buf.map (fun b=>[.sl (b.map Entry.enc)])))]),(.agg [.t (ti (x).thread),.t (ti (x).step),.t (ti (x).cell)])]=some (.tup [(.agg [.t (ints ((zyN p k c x).1).mem),.t (ints ((zyN p k c x).1).at_),.t (.sl (((zyN p k c x).1).buf.map (fun b=>[.sl (b.map Entry.enc)])))]),vi (zyN p k c x).2]):=by
 obtain⟨⟨m1,m2,m3,m4⟩,l5⟩:=zw8 (zw9 hf).1;have l1:=hc.lm;have l2:=hc.la;have l3:=hc.lb;have Hm:=zmU p hs hf c hc k hk;have k0: ¬k=0:=by omega
 unfold stV at Hm
 (refine zw3 Γ180 rfl ?_;dsimp only[f180])
 by_cases hr:x.thread<0\/(p.threads.length:Int)<=x.thread\/x.step< -1
 ·have hN:zyN p k c x=(zyT,110):=by rw[zyN,if_pos hr]
  rw[hN];simp only[zyT,List.map_nil]
  by_cases r1:x.thread<0
  ·simp -dsimp only[go_sem,seval,k0,Hm,r1];rfl
  ·by_cases r2:x.thread>=(p.threads.length:Int)
   ·simp -dsimp only[go_sem,seval,k0,Hm,r1,r2];rfl
   ·have r3:x.step< -1:=by omega
    simp -dsimp only[go_sem,seval,k0,Hm,r1,r2,r3];rfl
 ·have r1: ¬x.thread<0:=by omega
  have r2: ¬x.thread>=(p.threads.length:Int):=by omega
  have r3: ¬x.step< -1:=by omega
  by_cases hm:x.step= -1
  ·have et:((x.thread.toNat:Nat):Int)=x.thread:=by omega
   have Ao:=zmN p k c x.thread.toNat;rw[et]at Ao;unfold stV at Ao;simp -dsimp only[go_sem,seval,k0,Hm,r1,r2,r3,hm,Ao]
   generalize hE:envC _=env
   have e7:=congrFun hE 7;have e8:=congrFun hE 8;have e9:=congrFun hE 9;have e10:=congrFun hE 10;clear hE;simp -dsimp only[go_sem,seval]at e7 e8 e9 e10;have ht:x.thread.toNat<p.threads.length:=by omega
   have EI:=(hc.buf x.thread.toNat _ (zx4 (c:=c) (t:=x.thread.toNat) (by omega))).2.1
   refine zn9 (P:=fun e h' n'=>(e= .normal/\zAR k (zxq c x.thread.toNat) x.cell=none/\h' 3=some (.rows 3 [[.t .nils,.t .nils,.t .nils]] false)/\h' 4=some (.rows 1 [[vi 0]] false))\/
    (e= .ret/\ ∃i,zAR k (zxq c x.thread.toNat) x.cell=some i/\
      h' 3=some (.rows 3 [[.t (ints (zxr c x.thread.toNat i).mem),.t (ints (zxr c x.thread.toNat i).at_),.t (.sl ((zxr c x.thread.toNat i).buf.map fun b=>[.sl (b.map Entry.enc)]))]] false)/\h' 4=some (.rows 1 [[vi 0]] false))) ?_ ?_
   ·rw[<- et]
    refine zmC (zCb p hf k c hc x.thread.toNat ht 42
     (fun q h n=>NxV p k c x.thread.toNat x.cell env 42 2 3 4 14 h n/\ ∀j e,j<q->(zxq c x.thread.toNat)[j]? =some e-> ¬(zyy k (zxq c x.thread.toNat) j e=true/\zyk e=x.cell))
     (fun h n=> ∃i,zAR k (zxq c x.thread.toNat) x.cell=some i/\h 42=some (.loop env [57,58] zeq (.done .ret))/\
       h 3=some (.rows 3 [[.t (ints (zxr c x.thread.toNat i).mem),.t (ints (zxr c x.thread.toNat i).at_),.t (.sl ((zxr c x.thread.toNat i).buf.map fun b=>[.sl (b.map Entry.enc)]))]] false)/\h 4=some (.rows 1 [[vi 0]] false)) ?_ (fun _ _ _ h _=>h) ?_ _ _ ?_) ?_
    ·rintro q h n m ⟨a1,a2⟩ HL;exact⟨{ a1 with ly:=by have:=a1.ly;omega },a2⟩
    ·rintro q e h n he ⟨a1,a2⟩;have Cu:=EI e (zL he);cases ho:zyy k (zxq c x.thread.toNat) q e
     ·rw[if_neg (by simp)];refine⟨a1,fun j e' hj Jc=> ?_⟩;rcases Nat.lt_or_ge j q with h1 | h1
      ·exact a2 j e' h1 Jc
      ·have:j=q:=by omega
       subst this;rw[he]at Jc;cases Jc;rw[ho];simp
     ·rw[if_pos rfl]
      by_cases hh:zyk e=x.cell
      ·obtain⟨h',n',b1,b2,b3,b4,b5⟩:=zjF hf hc ht a1 he Cu.ne hh;refine⟨false,h',n',b1,?_⟩;rw[if_neg (by simp)];exact⟨q,by rw[<- hh];exact zjf EI he ho,b2,b3,b4⟩
      ·obtain⟨h',n',b1,b2⟩:=zkG (i:=q) a1 Cu.ne hh;refine⟨true,h',n',b1,?_⟩;rw[if_pos rfl];refine⟨b2,fun j e' hj Jc=> ?_⟩;rcases Nat.lt_or_ge j q with h1 | h1
       ·exact a2 j e' h1 Jc
       ·have:j=q:=by omega
        subst this;rw[he]at Jc;cases Jc;exact fun h=>hh h.2
    ·refine⟨⟨e7.symm,e8.symm,e9.symm,e10.symm,by simp -dsimp only[go_sem,seval],by simp -dsimp only[go_sem,seval,et,hm],by simp -dsimp only[go_sem,seval],by simp -dsimp only[go_sem,seval],by simp -dsimp only[go_sem,seval],by omega,by omega,by omega,by omega,by omega,by omega,by omega,by omega,by omega,by omega,by omega⟩,fun j _ hj=>by omega⟩
    ·rintro h' n' (⟨a1,a2⟩ | ⟨i,b1,b2,b3,b4⟩)
     ·refine⟨env,[57,58],zeq,.ready,.normal,a1.hy,rfl,.inl ⟨rfl,?_,a1.h8,a1.h9⟩⟩;unfold zAR;rw[List.find?_eq_none];intro j hj;rw[List.mem_range]at hj;rw[zI hj];intro h;simp only[zF,decide_eq_true_eq]at h;exact a2 j _ hj (zI hj) h
     ·exact⟨env,[57,58],zeq,.done .ret,.ret,b2,rfl,.inr ⟨rfl,i,b1,b3,b4⟩⟩
   ·rintro e h' n' (⟨rfl,g1,g2,g3⟩ | ⟨rfl,i,g1,g2,g3⟩)
    ·have hN:zyN p k c x=(zyT,110):=by rw[zyN,if_neg hr,if_pos hm,g1]
     rw[hN];simp only[zyT,List.map_nil];simp -dsimp only[go_sem,seval,g2,g3];rfl
    ·have hN:zyN p k c x=(zxr c x.thread.toNat i,0):=by rw[zyN,if_neg hr,if_pos hm,g1]
     rw[hN];simp -dsimp only[go_sem,seval,g2,g3]
  ·have et:((x.thread.toNat:Nat):Int)=x.thread:=by omega
   have es:((x.step.toNat:Nat):Int)=x.step:=by omega
   have t0:0<=x.thread:=by omega
   have s0:0<=x.step:=by omega
   obtain⟨th,BX,OW⟩:=zad (show x.thread.toNat<p.threads.length by omega);have hv:=zml p hf c hc x.thread.toNat (by omega);rw[et]at hv
   by_cases c0:x.cell=0
   ·by_cases c1:x.step>=(th.steps.length:Int)
    ·have hN:zyN p k c x=(zyT,110):=by
      rw[zyN,if_neg hr,if_neg hm];have:zdb p x=none:=by simp[zdb,BX];omega
      rw[this]
     rw[hN];simp only[zyT,List.map_nil];simp -dsimp only[go_sem,seval,k0,Hm,r1,r2,r3,hm,hv,BX,t0,c0,c1];rfl
    ·obtain⟨s,HE,Iv⟩:=zad (show x.step.toNat<th.steps.length by omega);have EP:zdb p x=some s:=by simp[zdb,BX,HE]
     have D1:=zhD p hf k c hc x.thread.toNat th BX x.step.toNat s HE;rw[et,es]at D1;unfold stV at D1;cases he:zxi p c x.thread.toNat s
     ·have hN:zyN p k c x=(zyT,110):=by
       rw[zyN,if_neg hr,if_neg hm,EP];simp[he]
      rw[hN];rw[he]at D1;simp only[zyT,List.map_nil];simp -dsimp only[go_sem,seval,k0,Hm,r1,r2,r3,hm,hv,BX,t0,c0,c1,D1];rfl
     ·have hN:zyN p k c x=(zyO p c x.thread.toNat s,0):=by
       rw[zyN,if_neg hr,if_neg hm,EP];simp[he,c0]
      rw[hN];rw[he]at D1;have AT:=zlE p hf k c hc x.thread.toNat th BX x.step.toNat s HE x (by cases x;simp_all);unfold stV at AT;simp -dsimp only[go_sem,seval,k0,Hm,r1,r2,r3,hm,hv,BX,t0,c0,c1,D1];rw[c0]at AT;simp -dsimp only[go_sem,seval,AT]
   ·have hN:zyN p k c x=(zyT,110):=by
     rw[zyN,if_neg hr,if_neg hm];split
     ·simp[c0]
     ·rfl
    rw[hN];simp only[zyT,List.map_nil];simp -dsimp only[go_sem,seval,k0,Hm,r1,r2,r3,hm,hv,BX,t0,c0];rfl
theorem zmX {p:Prog} {c:Config} (hc:IsB p c):zzP p c.mem c.at_=true:=by
 have h:IsC p ⟨c.mem,c.at_,p.threads.map fun _=>[]⟩:=⟨hc.lm,hc.la,by simp,hc.mem,hc.at_,by simp⟩
 have h2:=zzU.2 h;simp only[isM,zF]at h2;exact h2.1.1
theorem zj1 (p:Prog) (hf:zw6 p=true) (e:Entry) (he:Proper p e):Den Γ G 204 [(zP p),.agg [.t (ints e.cells),.t (ints e.values)]]=some (vb true):=by
 obtain⟨⟨m1,m2,m3,m4⟩,_⟩:=zw8 (zw9 hf).1;have hl:=zaW he;have hv:=he.len
 have n0: ¬(e.cells.length:Int)=0:=by
  have:e.cells.length≠0:=fun h=>he.ne (List.eq_nil_of_length_eq_zero h)
  omega
 have n2:(e.values.length:Int)=(e.cells.length:Int):=by omega
 (refine zw3 Γ204 rfl ?_;dsimp only[zq2])
 simp -dsimp only[go_sem,seval,n0,n2];refine zaq 154742504910672534360293616 e.cells.length (fun i f=>(f 5).v=vi i) rfl rfl (by simp -dsimp only[go_sem,seval]) ?_;rintro i f u kk bb hi h5;have hw:=zag i (by omega);simp -dsimp only[go_sem,seval,h5];refine zw1 (fun h=> ?_) (fun h=> ?_)<;>(try rw[h])<;>(try simp only[zab]at h)<;>(try simp -dsimp only[go_sem,seval,h5])
 ·obtain⟨n,hn,HL⟩:=zad ‹i<e.cells.length›;obtain⟨v,Bs,_⟩:=zad (show i<e.values.length by omega);obtain⟨c0,y,hy,ht,hg,v0,v1⟩:=he.cell i n v hn Bs;have J5:=(zH.1 hy).1;obtain⟨w1,w2,_⟩:=zyB hf (zL hy);have HJ:=zbR y.w (by omega);have KU:=zb1 n p.cells.length;have Fv:=zb1 v (2^y.w.toNat);have r1:inR n p.cells.length=true:=by simp only[inR,decide_eq_true_eq];omega
  have r2:inR v (2^y.w.toNat)=true:=by simp only[inR,decide_eq_true_eq];omega
  rw[r1]at KU;rw[r2]at Fv
  have Nn:((y.ghost==decide ((i:Int)>0)) != true)=false:=by
   rw[hg]
   by_cases h0:0<i
   ·have:(i:Int)>0:=by omega
    simp[h0]
   ·have : ¬(i:Int)>0:=by omega
    simp[h0]
  simp -dsimp only[go_sem,seval,h5,hn,KU,c0,hy,ht,Nn,Bs,HJ,Fv];refine zaq 154704725978809577200681104 i (fun j f'=>(f' 7).v=vi j) rfl rfl (by simp -dsimp only[go_sem,seval]) ?_;rintro j f' u' kk' bb' hj h7;have Ay:=zag j (by omega);simp -dsimp only[go_sem,seval,h7,h5];refine zw1 (fun h=> ?_) (fun h=> ?_)<;>(try rw[h])<;>(try simp only[zab]at h)<;>(try simp -dsimp only[go_sem,seval,h7,h5])
  ·obtain⟨q,hq,_⟩:=zad (show j<e.cells.length by omega)
   have Om: ¬q=n:=by
    rintro rfl;have h1:=zH.1 hq;have h2:=zH.1 hn;exact List.pairwise_iff_getElem.1 (List.nodup_iff_pairwise_ne.1 he.nd) j i h1.1 h2.1 (by omega) (by rw[h1.2,h2.2])
   simp -dsimp only[go_sem,seval,h7,h5,hq,Om];exact⟨by omega,by simp -dsimp only[go_sem,seval,Ay]⟩
  ·exact⟨by omega,by simp -dsimp only[go_sem,seval,hw,h5]⟩
theorem zmY (p:Prog) (hf:zw6 p=true) (c:Config) (hc:IsB p c):Den Γ G 193 [(zP p),(.agg [.t (ints (c).mem),.t (ints (c).at_),.t (.sl ((c).buf.map (fun b=>[.sl (b.map Entry.enc)])))])]=some (vb true):=by
 obtain⟨⟨m1,m2,m3,m4⟩,_⟩:=zw8 (zw9 hf).1;have l1:=hc.lm;have l2:=hc.la;have l3:=hc.lb;have e3:(c.buf.length:Int)=(p.threads.length:Int):=by omega
 have h1:=zlv p hf c.mem c.at_ (by omega) (by omega);rw[zmX hc]at h1
 (refine zw3 Γ193 rfl ?_;dsimp only[f193])
 simp -dsimp only[go_sem,seval,h1,e3];refine zaq 37778931862957153321072 c.buf.length (fun i f=>(f 5).v=vi i) rfl rfl (by simp -dsimp only[go_sem,seval]) ?_;rintro t f u kk bb hi h5;have hw:=zag t (by omega);simp -dsimp only[go_sem,seval,h5];refine zw1 (fun h=> ?_) (fun h=> ?_)<;>(try rw[h])<;>(try simp only[zab]at h)<;>(try simp -dsimp only[go_sem,seval,h5])
 ·obtain⟨a,ha,_⟩:=zad (show t<c.at_.length by omega);have Ae:=zx4 (c:=c) (t:=t) (by omega);obtain⟨b1,b2,b3⟩:=hc.buf t _ Ae;have q3: ¬((zxq c t).length:Int)>3:=by omega
  by_cases n0:((zxq c t).length:Int)>0
  ·have GS: ¬a= -1:=by
    rintro rfl;have:=b3 ha;rw[this]at n0;simp at n0
   simp -dsimp only[go_sem,seval,h5,ha,Ae,q3,n0,GS];refine zaq 37778913848558652227664 (zxq c t).length (fun j f'=>(f' 6).v=vi j) rfl rfl (by simp -dsimp only[go_sem,seval]) ?_;rintro j f' u' kk' bb' hj h6;have Ay:=zag j (by omega);simp -dsimp only[go_sem,seval,h6,h5,Ae];refine zw1 (fun h=> ?_) (fun h=> ?_)<;>(try rw[h])<;>(try simp only[zab]at h)<;>(try simp -dsimp only[go_sem,seval,h6,h5,Ae])
   ·obtain⟨e,he,Dc⟩:=zad ‹j<(zxq c t).length›;have Ku:=zj1 p hf e (b2 e Dc);simp -dsimp only[go_sem,seval,h6,h5,Ae,he,Entry.enc,Ku];exact⟨by omega,by simp -dsimp only[go_sem,seval,Ay]⟩
   ·exact⟨by omega,by simp -dsimp only[go_sem,seval,hw,h5]⟩
  ·have Cm:(zxq c t).length=0:=by omega
   simp -dsimp only[go_sem,seval,h5,ha,Ae,q3,n0];refine zaq 37778913848558652227664 0 (fun j f'=>(f' 6).v=vi j) rfl rfl (by simp -dsimp only[go_sem,seval]) ?_;rintro j f' u' kk' bb' hj h6;have KR:j=0:=by omega
   subst KR;simp -dsimp only[go_sem,seval,h6,h5,Ae,Cm];exact⟨by omega,by simp -dsimp only[go_sem,seval,hw,h5]⟩
theorem zjG (c:Config) (hl:c.buf.length<2^48):Den Γ G 194 [(.agg [.t (ints (c).mem),.t (ints (c).at_),.t (.sl ((c).buf.map (fun b=>[.sl (b.map Entry.enc)])))])]=some (vb (zBx c)):=by
 (refine zw3 Γ194 rfl ?_;dsimp only[f194])
 simp -dsimp only[go_sem,seval];refine zaq 262140 c.buf.length (fun i f=>(f 3).v=vi i/\zBx c=(c.buf.drop i).all fun b=>b.isEmpty) rfl rfl ⟨by simp -dsimp only[go_sem,seval],rfl⟩ ?_;rintro i f u kk bb hi ⟨h3,hq⟩;have hw:=zag i (by omega);simp -dsimp only[go_sem,seval,h3];refine zw1 (fun h=> ?_) (fun h=> ?_)<;>(try rw[h])<;>(try simp only[zab]at h)<;>(try simp -dsimp only[go_sem,seval,h3])
 ·obtain⟨b,hb,_⟩:=zad ‹i<c.buf.length›
  by_cases Ie:b=[]
  ·have n0: ¬(b.length:Int)>0:=by rw[Ie];simp
   simp -dsimp only[go_sem,seval,h3,hb,n0];exact⟨by omega,by simp -dsimp only[go_sem,seval,hw],by rw[hq,zaA hb (by rw[Ie];rfl)]⟩
  ·have n0:(b.length:Int)>0:=by
    have:b.length≠0:=fun h=>Ie (List.eq_nil_of_length_eq_zero h)
    omega
   simp -dsimp only[go_sem,seval,h3,hb,n0];rw[hq,zaz hb (by cases b with | nil=>exact absurd rfl Ie | cons _ _=>rfl)]
 ·have:i=c.buf.length:=by omega
  subst this;rw[hq,zaQ]
theorem zos (p:Prog) (hs:p.sane):Den Γ G 176 [(zP p)]=some (vb (zw6 p)):=by
 (refine zw3 Γ176 rfl ?_;dsimp only[f176])
 have h1:=zft p hs;simp -dsimp only[go_sem,seval,h1];rfl
theorem zht (p:Prog) (hs:p.sane) (hf:zw6 p=true) (k:Int) (hk:0<=k/\k<=2) (c:Config) (hc:IsK p k c):Den Γ G 182 [(.agg [.t (.sl ((p).cells.map (Cell.enc))),.t (.sl ((p).modules.map (Contract.enc))),.t (.sl ((p).locks.map (Lock.enc))),.t (.sl ((p).threads.map (Thread.enc)))]),vi k,(.agg [.t (ints (c).mem),.t (ints (c).at_),.t (.sl ((c).buf.map (fun b=>[.sl (b.map Entry.enc)])))])]=some (vb true):=by
 obtain⟨⟨m1,m2,m3,m4⟩,_⟩:=zw8 (zw9 hf).1;have l3:=hc.b.lb;have h1:=zos p hs;rw[hf]at h1;have h2:=zmY p hf c hc.b;have h3:=zjG c (by omega);have k1: ¬k<0:=by omega
 have k2: ¬k>2:=by omega
 (refine zw3 Γ182 rfl ?_;dsimp only[zq6])
 by_cases k0:k=0
 ·have hq:zBx c=true:=by
   rw[zBx,zN];intro b hb;rw[hc.q k0 b hb];rfl
  rw[hq]at h3;simp -dsimp only[go_sem,seval,k1,k2,h1,h2,k0,h3]
 ·simp -dsimp only[go_sem,seval,k1,k2,h1,h2,k0]
theorem zdg (p:Prog) (hs:p.sane) (hf:zw6 p=true) (k:Int) (hk:0<=k/\k<=2) (c:Config) (hc:IsK p k c):Den Γ G 354 [(zP p),vi k,(.agg [.t (ints (c).mem),.t (ints (c).at_),.t (.sl ((c).buf.map (fun b=>[.sl (b.map Entry.enc)])))])]=some (.t (.sl ((zxv p k c).map Choice.enc))):=by
 rw[zcu hc];obtain⟨⟨l1,l2,l3,l4⟩,l5⟩:=zw8 (zw9 hf).1;have AG:=zht p hs hf k hk c hc;have Oz:=hc.b.lb
 (refine zw3 Γ354 rfl ?_;dsimp only[zqU])
 simp -dsimp only[go_sem,seval,AG];refine zap 309485009821345068724717440 p.threads.length (fun i f h x=>(f 8).v=vi i/\za0 h x (f 7).v 3 (zzB (zxQ p k c i))) rfl ⟨by simp -dsimp only[go_sem,seval],.inl ⟨by simp -dsimp only[go_sem,seval],rfl⟩⟩ ?_;rintro i f u H x bs hi ⟨h8,Ab⟩;have hw:=zag i (by omega);simp -dsimp only[go_sem,seval,h8];refine zw1 (fun h=> ?_) (fun h=> ?_)<;>(try rw[h])<;>(try simp only[zab]at h)<;>(try simp -dsimp only[go_sem,seval,h8])
 ·obtain⟨t,ht,Ip⟩:=zad ‹i<p.threads.length›;obtain⟨_,AA,_⟩:=l5 t Ip;obtain⟨b,hb,Ll⟩:=zad (show i<c.buf.length by omega);have N9:=zjm hb;obtain⟨GR,EI,_⟩:=hc.b.buf i b hb;have Bd:=zcv hf hc.b (k:=k) i;refine zap 18014398501094016 t.steps.length (fun j f' h x=>(f' 9).v=vi j/\za0 h x (f' 7).v 3 (zzB (zxQ p k c i++zy1 p c i t j))) rfl ⟨by simp -dsimp only[go_sem,seval],by simp -dsimp only[go_sem,seval,zy1,List.take_zero,List.zipIdx_nil,List.filterMap_nil,List.append_nil];exact Ab.le (by omega)⟩ ?_;clear Ab;rintro j f' u' H' x' bs' hj ⟨h9,Ab⟩;have Ay:=zag j (by omega)
  by_cases Af:j<t.steps.length
  ·have Av:=eq_true Af;obtain⟨s,HE,Iv⟩:=zad Af;have D1:=zgA p hf k c hc i t ht j s HE;have AR:=zh0 (p:=p) (c:=c) (t:=i) HE;have C1:=zdU p c i t j;cases hE:zxi p c i s
   ·rw[hE]at D1 AR;simp -dsimp only[go_sem,seval,h9,h8,ht,Av,HE,Step.enc,D1];refine⟨by omega,by simp -dsimp only[go_sem,seval,Ay],?_⟩;simp -dsimp only[go_sem,seval,AR,List.append_nil,zG,if_false];exact Ab.le (by omega)
   ·rw[hE]at D1 AR;have v1:=Ab.valOf;have v2:=Ab.r2;have v3:=Ab.r3;have v4:=Ab.r4;have v5:=Ab.r5;simp -dsimp only[go_sem,seval,h9,h8,ht,Av,HE,Step.enc,D1,v1,v2,v3,v4,v5];refine zaM (Ab.upd (by omega) _) (by omega) (by rw[zdE,zM];omega) (by decide) rfl (zzA _) ?_;intro v hp hO Bc As;have w1:=hO.valOf;simp -dsimp only[go_sem,seval,w1,h9];refine⟨by omega,by simp -dsimp only[go_sem,seval,Ay],?_⟩;simp -dsimp only[go_sem,seval,AR,if_true];rw[<- zQ,zdF];exact hO.le (by omega)
  ·have Av:=eq_false Af;have:j=t.steps.length:=by omega
   subst this;simp -dsimp only[go_sem,seval,h9,h8,ht,Av];refine zap 309485009803330670215300224 b.length (fun q f h x=>(f 10).v=vi q/\za0 h x (f 7).v 3 (zzB ((zxQ p k c i++zy1 p c i t t.steps.length)++zz0 k i b q))) rfl ⟨by simp -dsimp only[go_sem,seval],by simp -dsimp only[go_sem,seval,zz0,List.take_zero,List.zipIdx_nil,List.filterMap_nil,List.append_nil];exact Ab.le (by omega)⟩ ?_;have C1:=zdU p c i t t.steps.length;clear Ab;rintro q f3 u3 H3 x3 bs3 hq ⟨Ek,Ab⟩;have GG:=zag q (by omega)
   by_cases MS:q<b.length
   ·have Hj:=eq_true MS;obtain⟨e,he,Dc⟩:=zad MS;have EQ:=EI e Dc;have BS:=zkL k b q e he (by omega) (fun y hy=>by have:=zaW (EI y hy);omega);have AR:=zj0 (k:=k) (t:=i) he;have Ep:=zhB k i b q
    have C9:e.cells[0]? =some (zyk e):=by
     have:=EQ.ne
     cases AU:e.cells with
     | nil=>exact absurd AU this
     | cons n r=>simp[zyk,AU]
    have Ci:0<e.cells.length:=by
     have:=EQ.ne
     cases AU:e.cells with
     | nil=>exact absurd AU this
     | cons n r=>simp
    have N1:(0:Int)<(e.cells.length:Int):=by omega
    cases hO:zyy k b q e
    ·rw[hO]at BS AR;simp -dsimp only[go_sem,seval,Ek,h8,hb,Hj,BS];refine⟨by omega,by simp -dsimp only[go_sem,seval,GG],?_⟩;simp -dsimp only[go_sem,seval,AR,List.append_nil,zG,if_false];exact Ab.le (by omega)
    ·rw[hO]at BS AR;have v1:=Ab.valOf;have v2:=Ab.r2;have v3:=Ab.r3;have v4:=Ab.r4;have v5:=Ab.r5;simp -dsimp only[go_sem,seval,Ek,h8,hb,Hj,BS,he,Entry.enc,C9,N1,v1,v2,v3,v4,v5];refine zaM (Ab.upd (by omega) _) (by omega) (by rw[zdE,zM,zM];omega) (by decide) rfl (zzA _) ?_;intro v hp O9 Bc As;have w1:=O9.valOf;simp -dsimp only[go_sem,seval,w1,Ek];refine⟨by omega,by simp -dsimp only[go_sem,seval,GG],?_⟩;simp -dsimp only[go_sem,seval,AR,if_true];rw[<- zQ,zdF];exact O9.le (by omega)
   ·have Hj:=eq_false MS;have:q=b.length:=by omega
    subst this;simp -dsimp only[go_sem,seval,Ek,h8,hb,Hj];refine⟨by omega,by simp -dsimp only[go_sem,seval,hw],?_⟩;simp -dsimp only[go_sem,seval];rw[zdh ht,N9,<- zQ];exact Ab.le (by omega)
 ·have:i=p.threads.length:=by omega
  subst this;have v1:=Ab.valOf;have Bp:=Ab.reify (zzx _);have v5:=Ab.resVal;simp only[Rg.resVal]at v5;simp -dsimp only[go_sem,seval,v1,v5];exact Bp
theorem zwh (l:Loop) (hl:l.body.length<2^40) (a:Int):Den Γ G 339 [(.agg [.t (ti (l).head),.t (ints (l).body),.t (ti ((l).variant).op),.t (ti ((l).variant).w),.t (ti ((l).variant).n),.t (.sl (((l).variant).kids.map Expr.enc))]),vi a]=some (vb (zxj l a)):=by
 (refine zw3 Γ339 rfl ?_;dsimp only[zwO])
 by_cases ha:a=l.head
 ·have:zxj l a=true:=by simp[zxj,ha]
  rw[this];simp -dsimp only[go_sem,seval,ha]
 ·have:zxj l a=l.body.contains a:=by simp[zxj,ha]
  rw[this];simp -dsimp only[go_sem,seval,ha];refine zaq 16776240 l.body.length (fun i f=>(f 5).v=vi i/\ ∀c∈l.body.take i,c≠a) rfl rfl ⟨by simp -dsimp only[go_sem,seval],by simp⟩ ?_;rintro i f u x bs hi ⟨h5,Bq⟩;have hw:=zag i (by omega)
  by_cases Af:i<l.body.length
  ·have Av:=eq_true Af;obtain⟨c,hc,Bh⟩:=zad Af
   by_cases AW:c=a
   ·have:l.body.contains a=true:=by simp only[List.contains_eq_mem,decide_eq_true_eq];exact AW▸Bh
    rw[this];simp -dsimp only[go_sem,seval,h5,Av,hc,AW]
   ·simp -dsimp only[go_sem,seval,h5,Av,hc,AW];refine⟨by omega,by simp -dsimp only[go_sem,seval,hw],?_⟩;intro d hd;rw[zac hc,List.mem_append]at hd;rcases hd with hd | hd
    ·exact Bq d hd
    ·simp only[List.mem_singleton]at hd;subst hd;exact AW
  ·have Av:=eq_false Af;have:i=l.body.length:=by omega
   subst this;rw[List.take_length]at Bq
   have:l.body.contains a=false:=by
    simp only[List.contains_eq_mem,decide_eq_false_iff_not];exact fun h=>Bq a h rfl
   rw[this];simp -dsimp only[go_sem,seval,h5,Av]
theorem zhp (l:Loop) (hl:l.body.length<2^40) (a:Int):Den Γ G 359 [(.agg [.t (ti (l).head),.t (ints (l).body),.t (ti ((l).variant).op),.t (ti ((l).variant).w),.t (ti ((l).variant).n),.t (.sl (((l).variant).kids.map Expr.enc))]),vi a]=some (vb (zxj l a)):=by
 (refine zw3 Γ359 rfl ?_;dsimp only[zqP])
 have h1:=zcx l.body a hl
 by_cases ha:a=l.head
 ·have:zxj l a=true:=by simp[zxj,ha]
  rw[this];simp -dsimp only[go_sem,seval,ha]
 ·have:zxj l a=l.body.contains a:=by simp[zxj,ha]
  rw[this];simp -dsimp only[go_sem,seval,ha,h1]
theorem zla (k:Int) (hk:0<=k/\k<=2):Den Γ G 358 [vi k]=some (vb true):=by
 (refine zw3 Γ358 rfl ?_;dsimp only[zqQ])
 rcases(show k=0\/k=1\/k=2 by omega)with rfl | rfl | rfl
 ·simp -dsimp only[go_sem,seval]
 ·simp -dsimp only[go_sem,seval]
 ·simp -dsimp only[go_sem,seval]
theorem znk {h:Nat->Option O} {key:Nat} {l:List Int} {K:V->List (Nat×O)->Prop} {w:WK K} (hl:l.length<2^31)
 (hK: ∀v hp,za0 (Ax h hp) (key+1) v 1 (zw5 l)->(∀j,j≠key->Ax h hp j=h j)->(∀j,j≠key->zdc v j)->(Rg.valOf v=some v/\V.cells v=some [v])->K v hp):zpM (Γ:=Γ) (G:=G) false h key 32 [.t (ints l)] K w:=by
 obtain⟨r,h',n',C2,Ab,_,_⟩:=zeD l hl (fun _=>none) 0;refine zd0 (es:=l.map fun n=>[ti n]) rfl rfl ⟨r,h',n',C2,Ab⟩ fun v hp o a b=>hK v hp o a b ?_
 rcases o with⟨rfl,_⟩ | ⟨k,rfl,_⟩<;>exact⟨rfl,rfl⟩
def zkh (h:Nat->Option O) (lo hi:Nat) (v:V) (rows:List (List V)):Prop:=
 (v= .t .nils/\rows=[])\/ ∃k,v= .ms k 0 rows.length/\lo<=k/\k<hi/\h k=some (.rows 1 rows false)
theorem zkh.keep {h h':Nat->Option O} {lo hi:Nat} {v:V} {rows:List (List V)} (o:zkh h lo hi v rows) (hh: ∀k,lo<=k->k<hi->h' k=h k):zkh h' lo hi v rows:=by
 rcases o with o | ⟨k,h1,h2,h3,h4⟩
 ·exact .inl o
 ·exact .inr ⟨k,h1,h2,h3,by rw[hh k h2 h3];exact h4⟩
theorem zkh.val {h:Nat->Option O} {lo hi:Nat} {v:V} {rows:List (List V)} (o:zkh h lo hi v rows):Rg.valOf v=some v/\V.cells v=some [v]:=by
 rcases o with⟨rfl,_⟩ | ⟨k,rfl,_⟩<;>exact⟨rfl,rfl⟩
theorem zkh.tree {h:Nat->Option O} {lo hi:Nat} {v:V} {l:List Int} (o:zkh h lo hi v (zw5 l)) (d:Nat):toT h (d+1) v=some (ints l):=by
 rcases o with⟨rfl,he⟩ | ⟨k,rfl,_,_,hh⟩
 ·have:l=[]:=by
   have:=congrArg List.length he;rw[zw2]at this;exact List.eq_nil_of_length_eq_zero this
  subst this;rfl
 ·have Di:List.take (zw5 l).length (zw5 l)=zw5 l:=zaC rfl;simp only[toT,hh,rd,Nat.zero_add,Nat.le_refl,if_true,List.drop_zero,Di,zC,zD,zaL]
def zvO (h:Nat->Option O) (x:Nat) (vM vA:V) (kB:Nat) (c:Config):Prop:=
 ∃x1 x2 bd vs,zkh h 0 x1 vM (zw5 c.mem)/\zkh h x1 x2 vA (zw5 c.at_)/\x1<=x2/\x2<=kB/\kB<bd 0/\h kB=some (.rows 1 vs false)/\BufsV h bd vs c.buf/\bd c.buf.length<=x
theorem zBf (p:Prog) (hf:zw6 p=true) (c:Config) (hc:IsB p c) (nx:Nat):
 ∃r h' n',DenR Γ G 356 [(.agg [.t (ints (c).mem),.t (ints (c).at_),.t (.sl ((c).buf.map (fun b=>[.sl (b.map Entry.enc)])))])] (fun _=>none) nx=some (r,h',n')/\ ∃vM vA kB,r= .agg [vM,vA,.ms kB 0 c.buf.length]/\zvO h' n' vM vA kB c:=by
 obtain⟨⟨m1,m2,m3,m4⟩,_⟩:=zw8 (zw9 hf).1;have l1:=hc.lm;have l2:=hc.la;have l3:=hc.lb;have e3:(c.buf.length:Int)<=4294967296:=by omega
 (refine zxC Γ356 rfl ?_;dsimp only[zqS])
 simp -dsimp only[go_sem,seval];refine znk (by omega) ?_;rintro vM Fk MN P1 GN ⟨Bb,C3⟩;simp -dsimp only[go_sem,seval,Bb];refine znk (by omega) ?_;rintro vA E6 MM Dw Jn ⟨DF,Co⟩;unfold V.cells at C3 Co;simp -dsimp only[go_sem,seval,Bb,C3,DF,Co,e3,Int.le_refl]
 generalize PR:Ax (Ax (fun _=>none) Fk) E6=H0 at *
 refine zap 2305843009213431920 c.buf.length (fun i f h x=>(f 4).v=vi i/\ ∃bd vs,h (nx+2+9)=some (.rows 1 (vs++List.replicate (c.buf.length-i) [.t .nils]) false)/\BufsV h bd vs (c.buf.take i)/\bd 0=nx+2+10/\bd i<=x/\(∀k,k<nx+2+9->h k=H0 k)) rfl ?_ ?_
 ·refine⟨by simp -dsimp only[go_sem,seval],fun _=>nx+2+10,[],by simp -dsimp only[go_sem,seval,List.nil_append,Nat.sub_zero],⟨rfl,fun q hq=>Nat.le_refl _,fun q b hb=>by simp at hb⟩,rfl,by simp -dsimp only[go_sem,seval];omega,?_⟩;intro k hk;have:k≠nx+2+9:=by omega
  simp -dsimp only[go_sem,seval,this]
 rintro i f u Ho x bs hi ⟨Dr,bd,vs,hB,Az,Cm,GQ,AE⟩;have hw:=zag i (by omega);simp -dsimp only[go_sem,seval,Dr];refine zw1 (fun h=> ?_) (fun h=> ?_)<;>(try rw[h])<;>(try simp only[zab]at h)<;>(try simp -dsimp only[go_sem,seval,Dr])
 ·obtain⟨b,hb,Ll⟩:=zad ‹i<c.buf.length›;obtain⟨b1,b2,_⟩:=hc.buf i b hb
  have Ad:List.replicate (c.buf.length-i) [V.t T.nils]=[V.t T.nils]::List.replicate (c.buf.length-i-1) [V.t T.nils]:=by
   rw[<- List.replicate_succ];congr 1;omega
  have Ha:vs.length=i:=by rw[Az.len,List.length_take];omega
  have CZ:nx+2+9<x:=by have:=Az.le (q:=0) (r:=i) (by omega) (by rw[List.length_take];omega);omega
  refine zap 2305843009180139616 b.length (fun j f' h' x'=>(f' 5).v=vi j/\ ∃v,h' (nx+2+9)=some (.rows 1 (vs++[v]::List.replicate (c.buf.length-i-1) [.t .nils]) false)/\zhU h' x x' v (b.take j)/\x<=x'/\(∀k,k<x->k≠nx+2+9->h' k=Ho k)) rfl ?_ ?_
  ·refine⟨by simp -dsimp only[go_sem,seval],.t .nils,by simp -dsimp only[go_sem,seval,hB,Ad],⟨[],.inl ⟨rfl,rfl⟩,by simp,by simp,by simp⟩,by simp -dsimp only[go_sem,seval];omega,fun k _ _=>rfl⟩
  rintro j f' u' Hi x' bs' hj ⟨H5,v,J1,EH,OL,Dx⟩;have Ay:=zag j (by omega);simp -dsimp only[go_sem,seval,H5,Dr,hb];refine zw1 (fun h=> ?_) (fun h=> ?_)<;>(try rw[h])<;>(try simp only[zab]at h)<;>(try simp -dsimp only[go_sem,seval,H5,Dr,hb])
  ·obtain⟨e,he,Dc⟩:=zad ‹j<b.length›;have Cu:=b2 e Dc;have Cr:=zaW Cu
   have Bn:(vs++[v]::List.replicate (c.buf.length-i-1) [V.t T.nils])[i]? =some [v]:=by
    rw[List.getElem?_append_right (by omega),Ha,Nat.sub_self];rfl
   obtain⟨Bs,F5⟩:=EH.val;have DC:(i:Int)<(c.buf.length:Int):=by omega
   have Db:(0:Int)<=(i:Int):=by omega
   simp -dsimp only[go_sem,seval,H5,Dr,hb,he,Entry.enc,J1,Bn,DC,Db,Bs];refine znk (by omega) ?_;rintro vc E5 ML Nk JP ⟨Bi,AW⟩;simp -dsimp only[go_sem,seval,Bi];refine znk (by have:=Cu.len;omega) ?_;rintro vv Fj K4 KY Lc ⟨CC,C8⟩;unfold V.cells at AW C8;obtain⟨rows,B1,AZ,BI,Bp⟩:=EH
   have hG: ∀k,k<x'->updC (Ax (Ax Hi E5) Fj) (x'+8+10+15) (some (O.rows 2 [[vc,vv]] false)) k=Hi k:=fun k hk=>by
    rw[zae,if_neg (by omega),KY k (by omega),Nk k (by omega)]
   have K5:za0 (updC (Ax (Ax Hi E5) Fj) (x'+8+10+15) (some (O.rows 2 [[vc,vv]] false))) (x'+8+10+16) v 2 rows:=by
    rcases B1 with h | ⟨k,h1,h2,h3,h4⟩
    ·exact .inl h
    ·exact .inr ⟨k,h1,by omega,by rw[hG k h3];exact h4⟩
   have AB:=K5.rowsS;simp -dsimp only[go_sem,seval,Bs,Bi,AW,CC,C8,AB];have Aa:(rows.all fun r=>decide (r.length=2))=true:=by simpa using BI
   refine zaM K5 (Nat.le_refl _) (by have:=Az.len;rw[AZ,List.length_take];omega) (by decide) rfl Aa ?_;intro v2 hp hO Bc As;rcases hO with⟨_,CL⟩ | ⟨k2,rfl,Ba,CH⟩
   ·simp at CL
   have Gm:x'+8+10+16<=k2:=by
    rcases Nat.lt_or_ge k2 (x'+8+10+16)with h1 | h1
    ·exact absurd rfl (Bc k2 h1 0 _)
    ·exact h1
   have B4: ∀k,(k<x\/x'<=k\/ ∀rs fz,Hi k≠some (O.rows 2 rs fz))->zdc v k:=by
    intro k hk;rcases B1 with⟨rfl,_⟩ | ⟨k',rfl,h2,h3,h4⟩
    ·intro i n h0;cases h0
    ·refine zyp ?_ _ _;rintro rfl;rcases hk with hk | hk | hk
     ·omega
     ·omega
     ·exact hk _ _ h4
   have DX: ∀k,k<x'->(k<x\/ ∀rs fz,Hi k≠some (O.rows 2 rs fz))->Ax (updC (Ax (Ax Hi E5) Fj) (x'+8+10+15) (some (O.rows 2 [[vc,vv]] false))) hp k=Hi k:=by
    intro k hk Ai;rw[As k (by omega) (B4 k (by rcases Ai with h | h;exact .inl h;exact .inr (.inr h))),hG k hk]
   have H1:=DX (nx+2+9) (by omega) (.inl (by omega));rw[J1]at H1
   have E2:(vs++[v]::List.replicate (c.buf.length-i-1) [V.t T.nils]).set i [V.ms k2 0 (rows++[[vc,vv]]).length]=vs++[V.ms k2 0 (rows++[[vc,vv]]).length]::List.replicate (c.buf.length-i-1) [V.t T.nils]:=by
    rw[List.set_append_right _ _ (by omega),Ha,Nat.sub_self];rfl
   simp -dsimp only[go_sem,seval,H5,Dr,H1,Bn,DC,Db,E2];have Da: ∀(o:Option O) k,k≠nx+2+9->updC (Ax (updC (Ax (Ax Hi E5) Fj) (x'+8+10+15) (some (O.rows 2 [[vc,vv]] false))) hp) (nx+2+9) o k=Ax (updC (Ax (Ax Hi E5) Fj) (x'+8+10+15) (some (O.rows 2 [[vc,vv]] false))) hp k:=fun o k hk=>by rw[zae,if_neg hk]
   have G4: ∀(o:Option O) x'',k2<x''->zhU (updC (Ax (updC (Ax (Ax Hi E5) Fj) (x'+8+10+15) (some (O.rows 2 [[vc,vv]] false))) hp) (nx+2+9) o) x x'' (.ms k2 0 (rows++[[vc,vv]]).length) (b.take (j+1)):=by
    intro o x'' Im;refine⟨rows++[[vc,vv]],.inr ⟨k2,rfl,by omega,Im,by rw[Da _ _ (by omega)];exact CH⟩,by rw[zM,AZ,List.length_take,List.length_take];simp;omega,?_,?_⟩
    ·intro r hr;rcases List.mem_append.1 hr with hr | hr
     ·exact BI r hr
     ·rw[List.mem_singleton]at hr;rw[hr];rfl
    ·intro q e0 hq;rw[zac he]at hq;have Bz:(b.take j).length=j:=by rw[List.length_take];omega
     rcases Nat.lt_or_ge q j with h1 | h1
     ·rw[List.getElem?_append_left (by omega)]at hq;obtain⟨r,hr,hE⟩:=Bp q e0 hq;refine⟨r,by rw[List.getElem?_append_left (by rw[AZ];omega)];exact hr,hE.keep (Nat.le_refl _) (by omega) fun k a1 a2 a3=> ?_⟩;rw[Da _ _ (by omega),DX k a2 (.inr a3)]
     ·have I4:q=j:=by
       have:=(zH.1 hq).1;rw[zM,Bz,List.length_singleton]at this;omega
      subst I4;rw[List.getElem?_append_right (by omega),Bz,Nat.sub_self]at hq;simp only[List.getElem?_cons_zero,zA]at hq;subst hq;refine⟨[vc,vv],by rw[List.getElem?_append_right (by rw[AZ,Bz];exact Nat.le_refl _),AZ,Bz,Nat.sub_self];rfl,?_⟩;have Nw:zw5 e.cells≠[]:=fun h0=>Cu.ne (List.eq_nil_of_length_eq_zero (by rw[<- zw2,h0];rfl))
      have Aj:zw5 e.values≠[]:=fun h0=>Cu.ne (List.eq_nil_of_length_eq_zero (by rw[<- Cu.len,<- zw2,h0];rfl))
      rcases ML with⟨_,h0⟩ | ⟨kc,rfl,D9,IY⟩
      ·exact absurd h0 Nw
      rcases K4 with⟨_,h0⟩ | ⟨kv,rfl,E8,IQ⟩
      ·exact absurd h0 Aj
      have qc:kc=x'+8+10+10:=by
       rcases Nat.decEq kc (x'+8+10+10)with h1 | h1
       ·exact absurd rfl (JP kc h1 0 _)
       ·exact h1
      have qv:kv=x'+8+10+13:=by
       rcases Nat.decEq kv (x'+8+10+13)with h1 | h1
       ·exact absurd rfl (Lc kv h1 0 _)
       ·exact h1
      refine⟨kc,kv,by rw[zw2,zw2],by omega,by omega,by omega,by omega,?_,?_⟩
      ·rw[Da _ _ (by omega),As kc (by omega) (B4 kc (.inr (.inl (by omega)))),zae,if_neg (by omega),KY kc (by omega)];exact IY
      ·rw[Da _ _ (by omega),As kv (by omega) (B4 kv (.inr (.inl (by omega)))),zae,if_neg (by omega)];exact IQ
   refine⟨by omega,by simp -dsimp only[go_sem,seval,Ay],.ms k2 0 (rows++[[vc,vv]]).length,by simp -dsimp only[go_sem,seval],?_,by simp -dsimp only[go_sem,seval];omega,?_⟩
   ·simp -dsimp only[go_sem,seval];exact G4 _ _ (by omega)
   intro k hk KM;simp -dsimp only[go_sem,seval,Da _ k KM];rw[DX k (by omega) (.inl hk)];exact Dx k hk KM
  ·have:j=b.length:=by omega
   subst this;rw[List.take_length]at EH;have Di:c.buf.take (i+1)=c.buf.take i++[b]:=zac hb;have Gg:(c.buf.take i).length=i:=by rw[List.length_take];omega
   have GI:=Az.snoc (h':=Hi) (x:=x') (v:=v) (b:=b) (by rw[Gg];omega) (fun k k1 k2=>by rw[Gg]at k2;exact Dx k (by omega) (by omega)) (by
    rw[Gg];obtain⟨rows,B1,AZ,BI,Bp⟩:=EH;refine⟨rows,?_,AZ,BI,fun q e0 hq=> ?_⟩
    ·rcases B1 with h | ⟨k,h1,h2,h3,h4⟩
     ·exact .inl h
     ·exact .inr ⟨k,h1,by omega,h3,h4⟩
    ·obtain⟨r,hr,hE⟩:=Bp q e0 hq
     exact⟨r,hr,hE.keep GQ (Nat.le_refl _) fun _ _ _ _=>rfl⟩)
   rw[Gg,<- Di]at GI;refine⟨by omega,by simp -dsimp only[go_sem,seval,hw,Dr],_,vs++[[v]],?_,GI,by rw[if_pos (Nat.zero_le _)];exact Cm,by rw[if_neg (by omega)];simp -dsimp only[go_sem,seval];omega,?_⟩
   ·simp -dsimp only[go_sem,seval,J1];rw[zQ];rfl
   ·intro k hk;simp -dsimp only[go_sem,seval,Dx k (by omega) (by omega)];exact AE k hk
 ·have Cw:i=c.buf.length:=by omega
  subst Cw;rw[Nat.sub_self,List.replicate_zero,List.append_nil]at hB;rw[List.take_length]at Az
  have hM:zkh Ho 0 (nx+5) vM (zw5 c.mem):=by
   rcases MN with h1 | ⟨k,h1,h2,h3⟩
   ·exact .inl h1
   ·exact .inr ⟨k,h1,by omega,by omega,by rw[AE k (by omega),Dw k (by omega)];exact h3⟩
  have hA:zkh Ho (nx+5) (nx+8) vA (zw5 c.at_):=by
   rcases MM with h1 | ⟨k,h1,h2,h3⟩
   ·exact .inl h1
   ·have hk:k=nx+2+5:=by
     rcases Nat.decEq k (nx+2+5)with h4 | h4
     ·subst h1;exact absurd rfl (Jn k h4 0 _)
     ·exact h4
    exact .inr ⟨k,h1,by omega,by omega,by rw[AE k (by omega)];exact h3⟩
  refine⟨vM,vA,nx+2+9,rfl,nx+5,nx+8,bd,vs,hM,hA,by omega,by omega,by omega,hB,Az,by simp -dsimp only[go_sem,seval];omega⟩
def noF:Option O->Option O
 | some (.rows sz rs _)=>some (.rows sz rs true)
 | o=>o
theorem zc2 {o:Option O} {sz:Nat} {rs:List (List V)} {f:Bool} (h:noF o=noF (some (.rows sz rs f))): ∃f',o=some (.rows sz rs f'):=by
 match o with
 | none=>cases h
 | some (.rows sz' rs' f')=>cases h;exact⟨f',rfl⟩
 | some (.map _)=>cases h
 | some (.loop _ _ _ _)=>cases h
 | some (.raw _)=>cases h
 | some .dead=>cases h
theorem zk0 {a b:Option O} (h:noF a=noF b):a=b\/ ∃sz rs f f',a=some (.rows sz rs f)/\b=some (.rows sz rs f'):=by
 match a,b with
 | some (.rows sz rs f),b=>
   obtain⟨f',rfl⟩:=zc2 h.symm
   exact .inr ⟨sz,rs,f,f',rfl,rfl⟩
 | a,some (.rows sz rs f)=>
   obtain⟨f',rfl⟩:=zc2 h
   exact .inr ⟨sz,rs,f',f,rfl,rfl⟩
 | none,none=>exact .inl rfl
 | none,some (.map _)=>cases h
 | none,some (.loop _ _ _ _)=>cases h
 | none,some (.raw _)=>cases h
 | none,some .dead=>cases h
 | some (.map _),none=>cases h
 | some (.loop _ _ _ _),none=>cases h
 | some (.raw _),none=>cases h
 | some .dead,none=>cases h
 | some (.map _),some (.map _)=>exact .inl h
 | some (.map _),some (.loop _ _ _ _)=>exact .inl h
 | some (.map _),some (.raw _)=>exact .inl h
 | some (.map _),some .dead=>exact .inl h
 | some (.loop _ _ _ _),some (.map _)=>exact .inl h
 | some (.loop _ _ _ _),some (.loop _ _ _ _)=>exact .inl h
 | some (.loop _ _ _ _),some (.raw _)=>exact .inl h
 | some (.loop _ _ _ _),some .dead=>exact .inl h
 | some (.raw _),some (.map _)=>exact .inl h
 | some (.raw _),some (.loop _ _ _ _)=>exact .inl h
 | some (.raw _),some (.raw _)=>exact .inl h
 | some (.raw _),some .dead=>exact .inl h
 | some .dead,some (.map _)=>exact .inl h
 | some .dead,some (.loop _ _ _ _)=>exact .inl h
 | some .dead,some (.raw _)=>exact .inl h
 | some .dead,some .dead=>exact .inl h
theorem zB3 {h h':Nat->Option O} (hh: ∀k,noF (h k)=noF (h' k)): ∀(d:Nat) (v:V),toT h d v=toT h' d v:=by
 intro d
 induction d with
 | zero=>intro v;cases v<;>simp only[toT]
 | succ d ih=>
   intro v;have he:toT h d=toT h' d:=funext ih
   match v with
   | .t x=>simp only[toT]
   | .ms k i n=>
     rcases zk0 (hh k)with e | ⟨sz,rs,f,f',e1,e2⟩
     ·simp only[toT,e,he]
     ·simp only[toT,e1,e2,he]
   | .mp k i n=>
     rcases zk0 (hh k)with e | ⟨sz,rs,f,f',e1,e2⟩
     ·simp only[toT,e,he]
     ·simp only[toT,e1,e2,he]
   | .fn f a b=>simp only[toT,he]
   | .mm k=>
     rcases zk0 (hh k)with e | ⟨sz,rs,f,f',e1,e2⟩
     ·simp only[toT,e]
     ·simp only[toT,e1,e2]
   | .yl k=>simp only[toT]
   | .agg cs=>simp only[toT]
   | .tup cs=>simp only[toT]
   | .undef=>simp only[toT]
   | .lb=>simp only[toT]
theorem zls (h:Nat->Option O): ∀(l:List Nat) (g:Nat->Option O) (k:Nat),noF (g k)=noF (h k)->noF (Ax g (freezes h l) k)=noF (h k)
 | [],g,k,hg=>by simpa only[freezes,List.filterMap_nil,zar]using hg
 | q::l,g,k,hg=>by
   have ih:=zls h l;unfold freezes at ih⊢;rw[List.filterMap_cons];split
   ·exact ih g k hg
   ·rename_i b hb;rw[zav];split at hb
    ·rename_i sz rs f hq;cases hb;refine ih _ k ?_;rw[zae];split
     ·rename_i Pu;rw[Pu,hq];rfl
     ·exact hg
    ·cases hb
theorem zlr (h:Nat->Option O): ∀(l:List Nat) (g:Nat->Option O) (k:Nat),k∉ l->Ax g (freezes h l) k=g k
 | [],g,k,_=>by simp only[freezes,List.filterMap_nil,zar]
 | q::l,g,k,hk=>by
   have ih:=zlr h l;unfold freezes at ih⊢;rw[List.filterMap_cons];simp only[List.mem_cons,not_or]at hk;split
   ·exact ih g k hk.2
   ·rename_i b hb;rw[zav];split at hb
    ·cases hb;rw[ih _ k hk.2,zae,if_neg hk.1]
    ·cases hb
theorem zoH {r:V} {h:Nat->Option O} {vs:List V} {K:V->(Nat->Option O)->Prop} {w:WK K} (hk: ∀H',(∀k,noF (H' k)=noF (h k))->(∀k,k∉ vs.flatMap (zxp h)->H' k=h k)->K r H'):ziv (some r) false h vs K w:=by
 unfold ziv;simp only;split
 ·exact hk _ (fun _=>rfl) fun _ _=>rfl
 ·exact⟨fun h=>Bool.noConfusion h,hk _ (fun k=>zls h _ h k rfl) fun k hk=>zlr h _ h k hk⟩
theorem zdq {h:Nat->Option O} {k:Nat} {l:List Int} {f:Bool} {i n d:Nat} (hk:h k=some (.rows 1 (zw5 l) f)):zx0 h (d+1) (.ms k i n)=[k]:=by
 have hf: ∀r∈zw5 l,∀v∈r,V.tree v=true:=by
  intro r hr v hv;obtain⟨b,hb,rfl⟩:=List.mem_map.1 hr;obtain⟨n,_,rfl⟩:=List.mem_map.1 hb;simp at hv;subst hv;rfl
 simp only[zx0,hk,zfI h d hf]
theorem zf1 {α:Type} {l:List α} {i i0:Nat} {a:α} (h:l[i]? =some a):(l.take (i+1)).eraseIdx i0=if i=i0 then(l.take i).eraseIdx i0 else(l.take i).eraseIdx i0++[a]:=by
 have hl:(l.take i).length=i:=by rw[List.length_take];have:=(zH.1 h).1;omega
 rw[zac h];split
 ·rename_i e;subst e;rw[List.eraseIdx_append_of_length_le (by omega),hl,Nat.sub_self,List.eraseIdx_of_length_le (l:=List.take i l) (by omega)];simp
 ·rename_i e;rcases Nat.lt_or_ge i i0 with h1 | h1
  ·rw[List.eraseIdx_of_length_le (by rw[zM,hl,List.length_singleton];omega),List.eraseIdx_of_length_le (by omega)]
  ·rw[List.eraseIdx_append_of_lt_length (by omega)]
theorem zhF (p:Prog) (hf:zw6 p=true) (c:Config) (hc:IsB p c) (t:Nat) (ht:t<p.threads.length) (i0:Nat) (e:Entry) (he:(zxq c t)[i0]? =some e)
 (Dz: ∀(j:Nat) (f:Entry),j<i0->(zxq c t)[j]? =some f->zyk f≠zyk e):
 Den Γ G 355 [(.agg [.t (ints (c).mem),.t (ints (c).at_),.t (.sl ((c).buf.map (fun b=>[.sl (b.map Entry.enc)])))]),vi t,vi (zyk e)]=some (.agg [.t (ints (zxr c t i0).mem),.t (ints (zxr c t i0).at_),.t (.sl ((zxr c t i0).buf.map (fun b=>[.sl (b.map Entry.enc)])))]):=by
 obtain⟨⟨m1,m2,m3,m4⟩,_⟩:=zw8 (zw9 hf).1;have Ci:=(zxV hf).1;have l1:=hc.lm;have l2:=hc.la;have l3:=hc.lb;have Ae:=zx4 (c:=c) (t:=t) (by omega);obtain⟨b1,b2,_⟩:=hc.buf t _ Ae;have BL:=(zH.1 he).1;have EQ:=b2 e (zL he)
 (refine zw3 Γ355 rfl ?_;dsimp only[zqT])
 simp -dsimp only[go_sem,seval];refine zas (zBf p hf c hc _) ?_;rintro r h' n' ⟨vM,vA,kB,rfl,x1,x2,bd,vs,hM,hA,CQ,Be,Ba,hB,Az,Id⟩;obtain⟨Oc,Bh⟩:=hM.val;obtain⟨Bi,AW⟩:=hA.val;obtain⟨v,hv,rows,B1,AZ,BI,Bp⟩:=Az.at_ t _ Ae;have NT:=Az.le (q:=0) (r:=t) (by omega) (by omega);have NS:=Az.le (q:=t+1) (r:=c.buf.length) (by omega) (Nat.le_refl _);rcases B1 with⟨rfl,h0⟩ | ⟨kb,rfl,b3,b4,b5⟩
 ·exfalso;rw[h0]at AZ;simp at AZ;omega
 unfold V.cells at Bh AW;have t0:(0:Int)<=(t:Int):=by omega
 have t1:(t:Int)<(c.buf.length:Int):=by omega
 simp -dsimp only[go_sem,seval,Oc,Bh,Bi,AW]
 refine zap 2251799813672832 rows.length (fun i f h z=>(f 10).v=vi i/\(f 9).v=vb (decide (i0<i))/\(f 7).v= .lb/\(f 7).box=some [if i0<i then .t (ints (zz2 c.mem e))else vM,vA,.ms kB 0 c.buf.length]/\
  za0 h z (f 8).v 2 ((rows.take i).eraseIdx i0)/\(∀q,q<n'->noF (h q)=noF (h' q)/\zdc (f 8).v q)/\h kB=some (.rows 1 vs false)/\n'<=z) rfl
  ⟨by simp -dsimp only[go_sem,seval],by simp -dsimp only[go_sem,seval,Nat.not_lt_zero,decide_false],by simp -dsimp only[go_sem,seval],by simp -dsimp only[go_sem,seval,Nat.not_lt_zero,if_false],.inl ⟨by simp -dsimp only[go_sem,seval],by simp⟩,fun q hq=>⟨by simp -dsimp only[go_sem,seval],by simp -dsimp only[go_sem,seval];intro i n h;cases h⟩,by simp -dsimp only[go_sem,seval,hB],by simp -dsimp only[go_sem,seval];omega⟩ ?_
 rintro i f u H z bs hi ⟨Ek,h9,h7,GT,Ab,AE,JV,hz⟩;have hw:=zag i (by omega);obtain⟨fb,CZ⟩: ∃f',H kb=some (.rows 2 rows f'):=zc2 (by rw[(AE kb (by omega)).1,b5])
 by_cases Af:i<rows.length
 ·have Av:=eq_true Af;obtain⟨g,hg,JN⟩:=zad (show i<(zxq c t).length by omega);obtain⟨r,hr,kc,kv,rfl,a1,a2,a3,a4,a5,a6⟩:=Bp i g hg;have Oo:=b2 g JN;obtain⟨fc,D9⟩: ∃f',H kc=some (.rows 1 (zw5 g.cells) f'):=zc2 (by rw[(AE kc (by omega)).1,a5]);obtain⟨fv,E8⟩: ∃f',H kv=some (.rows 1 (zw5 g.values) f'):=zc2 (by rw[(AE kv (by omega)).1,a6])
  have C9:(zw5 g.cells)[0]? =some [vi (zyk g)]:=by
   have:=Oo.ne
   cases AU:g.cells with
   | nil=>exact absurd AU this
   | cons n l=>simp[zyk,AU,zw5]
  have Lh:(0:Int)<(g.cells.length:Int):=by
   have:=List.length_pos_iff.2 Oo.ne;omega
  have i0':(0:Int)<=(i:Int):=by omega
  have i1':(i:Int)<(rows.length:Int):=by omega
  by_cases LP:i=i0
  ·subst LP;rw[he]at hg;cases hg;have d0:decide (i<i)=false:=by simp
   rw[d0]at h9;rw[if_neg (Nat.lt_irrefl i)]at GT
   have hT:toT H 1000=toT (fun q=>if q<n' then h' q else H q) 1000:=funext (zB3 (fun q=>by
    show noF (H q)=noF (if q<n' then h' q else H q);split
    ·exact(AE q ‹_›).1
    ·rfl) 1000)
   have PN:toT1 H vM=some (.t (ints c.mem)):=by
    have h3:=(hM.keep (h':=fun q=>if q<n' then h' q else H q) fun q q1 q2=>by rw[if_pos (by omega)]).tree 999;rw[<- hT]at h3;rcases hM with⟨rfl,_⟩ | ⟨k,rfl,_⟩<;>simp only[toT1,h3,Option.map_some]
   have PJ:toT1 H (.agg [.ms kc 0 e.cells.length,.ms kv 0 e.values.length])=some (.agg [.t (ints e.cells),.t (ints e.values)]):=by
    have hE:znY h' (bd t) (bd (t+1)) [.ms kc 0 e.cells.length,.ms kv 0 e.values.length] e:=⟨kc,kv,rfl,a1,a2,a3,a4,a5,a6⟩
    have h3:=(hE.keep (h':=fun q=>if q<n' then h' q else H q) (Nat.le_refl _) (Nat.le_refl _) fun q q1 q2 _=>by rw[if_pos (by omega)]).tree 999;rw[<- hT]at h3;simp only[toT1,h3];rfl
   have FR:=zhf c.mem e (by omega) EQ.len (fun n hn=>by have:=zyw EQ hn;omega) (by obtain⟨n,hn⟩:=List.exists_mem_of_ne_nil _ EQ.ne;have:=(zyw EQ hn).2.1;omega) (by have:=zaW EQ;omega)
   have hL: ∀k∈[vM,.agg [.ms kc 0 e.cells.length,.ms kv 0 e.values.length]].flatMap (zxp H),k<n'/\k≠kB:=by
    intro k hk;simp only[List.flatMap_cons,List.flatMap_nil,List.append_nil,List.mem_append]at hk;rcases hk with hk | hk
    ·rcases hM with⟨rfl,_⟩ | ⟨kM,rfl,g1,g2,g3⟩
     ·simp[zxp,zx0]at hk
     ·obtain⟨fm,Gk⟩: ∃f',H kM=some (.rows 1 (zw5 c.mem) f'):=zc2 (by rw[(AE kM (by omega)).1,g3]);rw[show zxp H (.ms kM 0 (zw5 c.mem).length)=[kM]from zdq (d:=999) (i:=0) (n:=(zw5 c.mem).length) Gk]at hk;simp at hk;subst hk;omega
    ·simp only[zxp,List.flatMap_cons,List.flatMap_nil,List.append_nil,zdq (d:=999) D9,zdq (d:=999) E8]at hk;simp at hk;rcases hk with rfl | rfl<;>omega
   simp -dsimp only[go_sem,seval,Ek,h9,h7,GT,JV,hv,t0,t1,CZ,Av,i0',i1',hr,D9,C9,Lh,Oc,↓PN,↓PJ,FR];refine zoH fun H' Fm IG=> ?_
   simp -dsimp only[go_sem,seval,Ek,h7,GT];have NM:H' kB=some (.rows 1 vs false):=by rw[IG kB fun h=>(hL kB h).2 rfl];exact JV
   refine⟨by omega,by simp -dsimp only[go_sem,seval,hw],by simp -dsimp only[go_sem,seval,Nat.lt_succ_self,decide_true],by simp -dsimp only[go_sem,seval,h7],by simp -dsimp only[go_sem,seval,GT,Nat.lt_succ_self,if_true],?_,fun q hq=>⟨by simp -dsimp only[go_sem,seval,Fm];exact(AE q hq).1,by simp -dsimp only[go_sem,seval];exact(AE q hq).2⟩,by simp -dsimp only[go_sem,seval,NM],by simp -dsimp only[go_sem,seval];omega⟩;rw[zf1 hr,if_pos rfl];simp -dsimp only[go_sem,seval];refine Ab.keep (by omega) fun k k1 k2=>IG k fun h=>k2 (AE k (hL k h).1).2
  ·have P0: ∀(α:Type) (a b:α),(if i0<i+1 then a else b)=if i0<i then a else b:=fun α a b=>by
    rcases Nat.lt_or_ge i0 i with h1 | h1
    ·rw[if_pos h1,if_pos (by omega)]
    ·rw[if_neg (by omega),if_neg (by omega)]
   have Ib:decide (i0<i+1)=decide (i0<i):=by
    rcases Nat.lt_or_ge i0 i with h1 | h1
    ·rw[decide_eq_true h1,decide_eq_true (by omega)]
    ·rw[decide_eq_false (by omega),decide_eq_false (by omega)]
   have PI:(((rows.take i).eraseIdx i0).all fun r=>decide (r.length=2))=true:=zN.2 fun r hr=>by simpa using BI r (List.mem_of_mem_take (List.mem_of_mem_eraseIdx hr))
   have Gg:((rows.take i).eraseIdx i0).length<2^32:=by
    have:=List.length_eraseIdx_le (rows.take i) i0;rw[List.length_take]at this;omega
   have v1:=Ab.valOf;have v4:=Ab.r4
   rcases(show(decide (i0<i)=false/\zyk g≠zyk e)\/decide (i0<i)=true by
    rcases Nat.lt_or_ge i i0 with h1 | h1
    ·exact .inl ⟨by simp;omega,Dz i g h1 hg⟩
    ·exact .inr (by simp;omega))with⟨d0,A8⟩ | d0
   case' inl=>
    rw[d0]at h9;simp -dsimp only[go_sem,seval,Ek,h9,h7,GT,JV,hv,t0,t1,CZ,Av,i0',i1',hr,D9,C9,Lh,A8,v1,v4]
   case' inr=>
    rw[d0]at h9;simp -dsimp only[go_sem,seval,Ek,h9,h7,GT,JV,hv,t0,t1,CZ,Av,i0',i1',hr,v1,v4]
   all_goals
    refine zaM (Ab.upd (by omega) _) (by omega) Gg (by decide) rfl PI ?_;intro v2 hp hO Bc As;have w1:=hO.valOf;have GI:=zf1 (i0:=i0) hr;rw[if_neg LP]at GI;rw[<- GI]at hO;simp -dsimp only[go_sem,seval,w1,Ek,h7,GT];refine⟨by omega,by simp -dsimp only[go_sem,seval,hw],by simp -dsimp only[go_sem,seval,h9,Ib,d0],by simp -dsimp only[go_sem,seval,h7],by simp -dsimp only[go_sem,seval,GT,P0],by simp -dsimp only[go_sem,seval];exact hO.le (by omega),fun q hq=>⟨?_,by simp -dsimp only[go_sem,seval];exact Bc q (by omega)⟩,?_,by simp -dsimp only[go_sem,seval];omega⟩
    ·simp -dsimp only[go_sem,seval];rw[As q (by omega) (AE q hq).2,zae,if_neg (by omega)];exact(AE q hq).1
    ·simp -dsimp only[go_sem,seval];rw[As kB (by omega) (AE kB (by omega)).2,zae,if_neg (by omega)];exact JV
 ·have Av:=eq_false Af;have:i=rows.length:=by omega
  subst this;rw[List.take_length]at Ab;rw[if_pos (by omega)]at GT;have v1:=Ab.valOf;have Hh: ∀q,q<n'->zdc (f 8).v q:=fun q hq=>(AE q hq).2
  have Pl: ∀q,q<n'->noF (H q)=noF (h' q):=fun q hq=>(AE q hq).1
  have LI:=Ab.cellsV;unfold V.cells at LI
  generalize hl:(f 8).v=l at *
  have hC:zxr c t i0=⟨zz2 c.mem e,c.at_,c.buf.set t ((zxq c t).eraseIdx i0)⟩:=by simp only[zxr,he]
  have hT: ∀(o:Option O) (d:Nat),toT (updC H kB o) d=toT (fun q=>if q<n'/\q≠kB then h' q else updC H kB o q) d:=fun o d=>funext (zB3 (fun q=>by
   show noF (updC H kB o q)=noF (if q<n'/\q≠kB then h' q else updC H kB o q);split
   ·rename_i h;rw[zae,if_neg h.2];exact Pl q h.1
   ·rfl) d)
  have AK: ∀(o:Option O) q,q<n'->q≠kB->(fun q=>if q<n'/\q≠kB then h' q else updC H kB o q) q=h' q:=fun o q q1 q2=>by
   show(if q<n'/\q≠kB then h' q else updC H kB o q)=h' q;rw[if_pos ⟨q1,q2⟩]
  have f4: ∀o:Option O,toT (updC H kB o) 1000 vA=some (ints c.at_):=fun o=>by
   rw[hT];exact(hA.keep fun q q1 q2=>AK o q (by omega) (by omega)).tree 999
  have f5: ∀v,(vs.set t [v]).length=c.buf.length:=fun v=>by rw[List.length_set];exact Az.len
  have f6: ∀v,List.take c.buf.length (vs.set t [v])=vs.set t [v]:=fun v=>zaC (f5 v).symm
  have f7: ∀o:Option O,(vs.set t [l]).mapM (fun row=>row.mapM (toT (updC H kB o) 999))=some ((c.buf.set t ((zxq c t).eraseIdx i0)).map fun b=>[.sl (b.map Entry.enc)]):=by
   intro o;rw[hT];refine zbt _ _ (by rw[f5,List.length_set]) fun j b hb=> ?_
   rw[List.getElem?_set]at hb
   by_cases hj:t=j
   ·subst hj;rw[if_pos rfl,if_pos (by omega)]at hb;simp only[zA]at hb;subst hb;refine⟨_,by rw[List.getElem?_set,if_pos rfl,if_pos (by have:=Az.len;omega)],?_⟩;refine zhU.tree (lo:=0) (hi:=n'+z) ⟨rows.eraseIdx i0,?_,by rw[List.length_eraseIdx_of_lt (by omega),List.length_eraseIdx_of_lt BL,AZ],fun r hr=>BI r (List.mem_of_mem_eraseIdx hr),fun q e0 hq=> ?_⟩ 997
    ·rcases Ab with h | ⟨kl,rfl,h2,h3⟩
     ·exact .inl h
     ·have LK: ¬kl<n':=fun h=>Hh kl h 0 _ rfl
      refine .inr ⟨kl,rfl,by omega,by omega,?_⟩;show(if kl<n'/\kl≠kB then h' kl else updC H kB o kl)=_;rw[if_neg fun h=>LK h.1,zae,if_neg (by omega)];exact h3
    ·rw[List.getElem?_eraseIdx]at hq⊢
     have key: ∀q',(zxq c t)[q']? =some e0-> ∃r:List V,rows[q']? =some r/\znY (fun q=>if q<n'/\q≠kB then h' q else updC H kB o q) 0 (n'+z) r e0:=fun q' Eo=>by
      obtain⟨r,hr,hE⟩:=Bp q' e0 Eo;exact⟨r,hr,hE.keep (Nat.zero_le _) (by omega) fun w w1 w2 _=>AK o w (by omega) (by omega)⟩
     split at hq
     ·rename_i h1;rw[if_pos h1];exact key _ hq
     ·rename_i h1;rw[if_neg h1];exact key _ hq
   ·rw[if_neg hj]at hb;obtain⟨u,hu,J0⟩:=Az.at_ j b hb;have Bz:=(zH.1 hb).1;have u1:=Az.le (q:=0) (r:=j) (by omega) (by omega);have u2:=Az.le (q:=j+1) (r:=c.buf.length) (by omega) (Nat.le_refl _);exact⟨u,by rw[List.getElem?_set,if_neg hj];exact hu,(J0.keep (Nat.le_refl _) fun q q1 q2=>AK o q (by omega) (by omega)).tree 997⟩
  rw[hC];simp -dsimp only[go_sem,seval,Ek,h9,h7,GT,JV,hv,t0,t1,CZ,Av,v1,hl,LI,Bi,AW,f4,f5,f6,f7,zxU,Nat.le_refl]
end Rg
end

/- Part of the proof of laws of relyguardlaw36. No condition. -/
import Derived.Test.YtaiokglcgiemnaaGreatDoorGartAR
import Derived.Test.YtaiokglcgiemnaaGreatDoorGartAP
import Derived.Test.YtaiokglcgiemnaaGreatDoorGartAO
import Derived.Test.YtaiokglcgiemnaaGreatDoorGartAQ
set_option linter.unusedSimpArgs false
set_option linter.unusedVariables false
set_option linter.defProp false
section
namespace Rg
open Go
theorem MI {α:Type} {l:List α} {i i0:Nat} {a:α} (h:l[i]? =some a):(l.take (i+1)).eraseIdx i0=if i=i0 then(l.take i).eraseIdx i0 else(l.take i).eraseIdx i0++[a]:=by
 have b:(l.take i).length=i:=by rw[bJ];have:=(zH.1 h).1;omega
 rw[a_ h];split
 ·rename_i e;subst e;rw[List.eraseIdx_append_of_length_le aa,b,dI,AZ (l:=List.take i l) aa];simp
 ·rename_i e;rcases bw i i0 with c | c
  ·rw[AZ (by rw[zM,b,gp];omega),AZ aa]
  ·rw[List.eraseIdx_append_of_lt_length aa]
theorem W7 (p:Prog) (hf:aN p=true) (c:Config) (Z:IsB p c) (t:Nat) (ht:t<p.threads.length) (i0:Nat) (e:Entry) (he:(aF c t)[i0]? =some e)
 (DF: ∀(j:Nat) (f:Entry),j<i0->(aF c t)[j]? =some f->ct f≠ct e):
 Den Γ G 355 [(.agg [.t (ints (c).mem),.t (ints (c).at_),.t (.sl ((c).buf.map (fun b=>[.sl (b.map Entry.enc)])))]),vi t,vi (ct e)]=some (.agg [.t (ints (c7 c t i0).mem),.t (ints (c7 c t i0).at_),.t (.sl ((c7 c t i0).buf.map (fun b=>[.sl (b.map Entry.enc)])))]):=by
 obtain⟨⟨m1,m2,m3,m4⟩,_⟩:=cS (cT hf).1;have By:=(mt hf).1;have l1:=Z.lm;have l2:=Z.la;have l3:=Z.lb;have Ag:=fC (c:=c) (t:=t) aa;obtain⟨b1,b2,_⟩:=Z.buf t _ Ag;have AV:=(zH.1 he).1;have X:=b2 e (zL he)
 refine aD (q:=aA ?_);refine bf (N' p hf c Z _) ?_;rintro r h' s ⟨vM,vA,m,rfl,x1,x2,bd,vs,hM,hA,CK,AT,AF,hB,F,H8⟩;obtain⟨Kg,BI⟩:=hM.val;obtain⟨Bu,Bi⟩:=hA.val;obtain⟨v,hv,rows,B1,Bb,BC,Bh⟩:=F.at_ t _ Ag;have OM:=F.le (q:=0) (r:=t) aa aa;have OL:=F.le (q:=t+1) (r:=c.buf.length) aa (ay _);rcases B1 with⟨rfl,h0⟩ | ⟨kb,rfl,b3,b4,b5⟩
 ·exfalso;rw[h0]at Bb;simp at Bb;omega
 unfold V.cells at BI Bi;have t0:(0:Int)<=(t:Int):=aa
 have t1:(t:Int)<(c.buf.length:Int):=aa
 refine bN Kg BI Bu Bi ?_
 refine aS 2251799813672832 rows.length (fun i f h z=>(f 10).v=vi i/\(f 9).v=vb (decide (i0<i))/\(f 7).v= .lb/\(f 7).box=some [if i0<i then .t (ints (d5 c.mem e))else vM,vA,.ms m 0 c.buf.length]/\
  ax h z (f 8).v 2 ((rows.take i).eraseIdx i0)/\(∀q,q<s->noF (h q)=noF (h' q)/\aK (f 8).v q)/\h m=some (.rows 1 vs false)/\s<=z) rfl
  ⟨am,by simp -dsimp only[go_sem,seval,sV,pX],am,by simp -dsimp only[go_sem,seval,sV,aX],.inl ⟨am,af⟩,fun q x=>⟨am,by simp -dsimp only[go_sem,seval];intro i n h;cases h⟩,ak hB,av⟩ ?_
 rintro i f u H z bs hi ⟨R,J,I,D,E,y,S,hz⟩;have hw:=aB i aa;obtain⟨fb,Do⟩: ∃K,H kb=some (.rows 2 rows K):=pK (by rw[(y kb aa).1,b5])
 by_cases Ad:i<rows.length
 ·have W:=aW Ad;obtain⟨g,hg,Ku⟩:=au (show i<(aF c t).length from aa);obtain⟨r,C,U,kv,rfl,a1,a2,a3,a4,a5,a6⟩:=Bh i g hg;have OY:=b2 g Ku;obtain⟨fc,DO⟩: ∃K,H U=some (.rows 1 (ai g.cells) K):=pK (by rw[(y U aa).1,a5]);obtain⟨fv,Eh⟩: ∃K,H kv=some (.rows 1 (ai g.values) K):=pK (by rw[(y kv aa).1,a6])
  have CM:(ai g.cells)[0]? =some [vi (ct g)]:=by
   have:=OY.ne
   cases AL:g.cells with
   | nil=>exact absurd AL this
   | cons n l=>simp[ct,AL,ai]
  have LK:(0:Int)<(g.cells.length:Int):=by
   have:=wi.2 OY.ne;omega
  have N:(0:Int)<=(i:Int):=aa
  have P:(i:Int)<(rows.length:Int):=aa
  by_cases Ks:i=i0
  ·subst Ks;rw[he]at hg;cases hg;have T:decide (i<i)=false:=af
   rw[T]at J;rw[ac (lC i)]at D
   have Y:toT H 1000=toT (fun q=>if q<s then h' q else H q) 1000:=funext (Si (fun q=>by
    show noF (H q)=noF (if q<s then h' q else H q);split
    ·exact(y q ‹_›).1
    ·rfl) 1000)
   have QV:toT1 H vM=some (.t (ints c.mem)):=by
    have L:=(hM.keep (h':=fun q=>if q<s then h' q else H q) fun q q1 q2=>by rw[ah aa]).tree 999;rw[<- Y]at L;rcases hM with⟨rfl,_⟩ | ⟨k,rfl,_⟩<;>simp only[toT1,L,cZ]
   have QP:toT1 H (.agg [.ms U 0 e.cells.length,.ms kv 0 e.values.length])=some (.agg [.t (ints e.cells),.t (ints e.values)]):=by
    have hE:m9 h' (bd t) (bd (t+1)) [.ms U 0 e.cells.length,.ms kv 0 e.values.length] e:=⟨U,kv,rfl,a1,a2,a3,a4,a5,a6⟩
    have L:=(hE.keep (h':=fun q=>if q<s then h' q else H q) (ay _) (ay _) fun q q1 q2 _=>by rw[ah aa]).tree 999;rw[<- Y]at L;simp only[toT1,L];rfl
   have Gy:=MY c.mem e aa X.len (fun n hn=>by have:=lG X hn;omega) (by obtain⟨n,hn⟩:=GM _ X.ne;have:=(lG X hn).2.1;omega) (by have:=gX X;omega)
   have hL: ∀k∈[vM,.agg [.ms U 0 e.cells.length,.ms kv 0 e.values.length]].flatMap (b_ H),k<s/\k≠m:=by
    intro k B;simp only[du,fR,bW,cz]at B;rcases B with B | B
    ·rcases hM with⟨rfl,_⟩ | ⟨kM,rfl,g1,g2,g3⟩
     ·simp[b_,cn]at B
     ·obtain⟨fm,GL⟩: ∃K,H kM=some (.rows 1 (ai c.mem) K):=pK (by rw[(y kM aa).1,g3]);rw[show b_ H (.ms kM 0 (ai c.mem).length)=[kM]from wB (d:=999) (i:=0) (n:=(ai c.mem).length) GL]at B;simp at B;subst B;omega
    ·simp only[b_,du,fR,bW,wB (d:=999) DO,wB (d:=999) Eh]at B;simp at B;rcases B with rfl | rfl<;>omega
   simp -dsimp only[go_sem,seval,R,J,I,D,S,hv,t0,t1,Do,W,N,P,C,DO,CM,LK,Kg,↓QV,↓QP,Gy];refine kaK fun H' Fj Fh=> ?_
   refine a7 R I D ?_;have OE:H' m=some (.rows 1 vs false):=by rw[Fh m fun h=>(hL m h).2 rfl];exact S
   refine⟨aa,ak hw,by simp -dsimp only[go_sem,seval,vp,lE],ak I,by simp -dsimp only[go_sem,seval,D,vp,aU],?_,fun q x=>⟨by simp -dsimp only[go_sem,seval,Fj];exact(y q x).1,by simp -dsimp only[go_sem,seval];exact(y q x).2⟩,ak OE,av⟩;rw[MI C,ah rfl];refine aA ?_;refine E.keep aa fun k k1 k2=>Fh k fun h=>k2 (y k (hL k h).1).2
  ·have Q8: ∀(α:Type) (a b:α),(if i0<i+1 then a else b)=if i0<i then a else b:=fun α a b=>by
    rcases bw i0 i with A | A
    ·rw[ah A,ah aa]
    ·rw[ac aa,ac aa]
   have IB:decide (i0<i+1)=decide (i0<i):=by
    rcases bw i0 i with A | A
    ·rw[dc A,dc aa]
    ·rw[ep aa,ep aa]
   have QO:(((rows.take i).eraseIdx i0).all fun r=>decide (r.length=2))=true:=zN.2 fun r C=>al (BC r (lB (vU C)))
   have BX:((rows.take i).eraseIdx i0).length<2^32:=by
    have:=Hk (rows.take i) i0;rw[bJ]at this;omega
   have v1:=E.valOf;have v4:=E.r4
   rcases(show(decide (i0<i)=false/\ct g≠ct e)\/decide (i0<i)=true by
    rcases bw i i0 with A | A
    ·exact .inl ⟨by simp;omega,DF i g A hg⟩
    ·exact .inr (by simp;omega))with⟨T,Az⟩ | T
   case' inl=>
    rw[T]at J;simp -dsimp only[go_sem,seval,R,J,I,D,S,hv,t0,t1,Do,W,N,P,C,DO,CM,LK,Az,v1,v4]
   case' inr=>
    rw[T]at J;simp -dsimp only[go_sem,seval,R,J,I,D,S,hv,t0,t1,Do,W,N,P,C,v1,v4]
   all_goals
    refine ce (E.upd aa _) aa BX aG rfl QO ?_;intro v2 hp hO Bp Aq;have w1:=hO.valOf;have C6:=MI (i0:=i0) C;rw[ac Ks]at C6;rw[<- C6]at hO;refine bN w1 R I D ?_;refine⟨aa,ak hw,ds J IB T,ak I,bg D Q8,by simp -dsimp only[go_sem,seval];exact hO.le aa,fun q x=>⟨?_,by simp -dsimp only[go_sem,seval];exact Bp q aa⟩,?_,av⟩
    ·refine aA ?_;rw[Aq q aa (y q x).2,aq,ac aa];exact(y q x).1
    ·refine aA ?_;rw[Aq m aa (y m aa).2,aq,ac aa];exact S
 ·have W:=aI Ad;have:i=rows.length:=aa
  subst this;rw[be]at E;rw[ah aa]at D;have v1:=E.valOf;have HP: ∀q,q<s->aK (f 8).v q:=fun q x=>(y q x).2
  have Qp: ∀q,q<s->noF (H q)=noF (h' q):=fun q x=>(y q x).1
  have Mv:=E.cellsV;unfold V.cells at Mv
  generalize hl:(f 8).v=l at *
  have hC:c7 c t i0=⟨d5 c.mem e,c.at_,c.buf.set t ((aF c t).eraseIdx i0)⟩:=by simp only[c7,he]
  have Y: ∀(o:Option O) (d:Nat),toT (updC H m o) d=toT (fun q=>if q<s/\q≠m then h' q else updC H m o q) d:=fun o d=>funext (Si (fun q=>by
   show noF (updC H m o q)=noF (if q<s/\q≠m then h' q else updC H m o q);split
   ·rename_i h;rw[aq,ac h.2];exact Qp q h.1
   ·rfl) d)
  have AQ: ∀(o:Option O) q,q<s->q≠m->(fun q=>if q<s/\q≠m then h' q else updC H m o q) q=h' q:=fun o q q1 q2=>by
   show(if q<s/\q≠m then h' q else updC H m o q)=h' q;rw[ah ⟨q1,q2⟩]
  have f4: ∀o:Option O,toT (updC H m o) 1000 vA=some (ints c.at_):=fun o=>by
   rw[Y];exact(hA.keep fun q q1 q2=>AQ o q aa aa).tree 999
  have f5: ∀v,(vs.set t [v]).length=c.buf.length:=fun v=>by rw[cL];exact F.len
  have f6: ∀v,List.take c.buf.length (vs.set t [v])=vs.set t [v]:=fun v=>ec (f5 v).symm
  have f7: ∀o:Option O,(vs.set t [l]).mapM (fun row=>row.mapM (toT (updC H m o) 999))=some ((c.buf.set t ((aF c t).eraseIdx i0)).map fun b=>[.sl (b.map Entry.enc)]):=by
   intro o;rw[Y];refine nX _ _ (by rw[f5,cL]) fun j b M=> ?_
   rw[cx]at M
   by_cases hj:t=j
   ·subst hj;rw[ah rfl,ah aa]at M;simp only[zA]at M;subst M;refine⟨_,by rw[cx,ah rfl,ah (by have:=F.len;omega)],?_⟩;refine h_.tree (lo:=0) (hi:=s+z) ⟨rows.eraseIdx i0,?_,by rw[pA aa,pA AV,Bb],fun r C=>BC r (vU C),fun q e0 x=> ?_⟩ 997
    ·rcases E with h | ⟨Q,rfl,h2,L⟩
     ·exact .inl h
     ·have Mw: ¬Q<s:=fun h=>HP Q h 0 _ rfl
      refine .inr ⟨Q,rfl,aa,aa,?_⟩;show(if Q<s/\Q≠m then h' Q else updC H m o Q)=_;rw[ac fun h=>Mw h.1,aq,ac aa];exact L
    ·rw[Hq]at x⊢
     have key: ∀q',(aF c t)[q']? =some e0-> ∃r:List V,rows[q']? =some r/\m9 (fun q=>if q<s/\q≠m then h' q else updC H m o q) 0 (s+z) r e0:=fun q' Eu=>by
      obtain⟨r,C,hE⟩:=Bh q' e0 Eu;exact⟨r,C,hE.keep (pr _) aa fun w w1 w2 _=>AQ o w aa aa⟩
     split at x
     ·rename_i A;rw[ah A];exact key _ x
     ·rename_i A;rw[ac A];exact key _ x
   ·rw[ac hj]at M;obtain⟨u,hu,Hn⟩:=F.at_ j b M;have AN:=(zH.1 M).1;have u1:=F.le (q:=0) (r:=j) aa aa;have u2:=F.le (q:=j+1) (r:=c.buf.length) aa (ay _);exact⟨u,by rw[cx,ac hj];exact hu,(Hn.keep (ay _) fun q q1 q2=>AQ o q aa aa).tree 997⟩
  rw[hC];simp -dsimp only[go_sem,seval,R,J,I,D,S,hv,t0,t1,Do,W,v1,hl,Mv,Bu,Bi,f4,f5,f6,f7,iG,ay]
theorem YG {p:Prog} {k:Int} {c:Config} (b:IsK p k c) {t:Nat} {s:Step} (h:k=0\/s.kind≠3):
 kU p k c t s=⟨bp c.mem (aM c t) s.set,if s.kind=6 then(c.at_.set t s.to).set s.target.toNat 0 else c.at_.set t s.to,c.buf⟩:=by
 unfold kU;split
 ·rename_i a;have d:=b.q a;rw[L2 d,YJ b.b.lb d];rfl
 ·rename_i a;have e:s.kind≠3:=h.resolve_left a;simp only[eo,ac e]
theorem Gu (p:Prog) (hs:p.sane) (R:aN p=true) (k:Int) (hk:0<=k/\k<=2) (c:Config) (D:IsK p k c) (y:Choice) (hy:y∈bP p k c):
 Den Γ G 340 [(zP p),vi k,(.agg [.t (ints (c).mem),.t (ints (c).at_),.t (.sl ((c).buf.map (fun b=>[.sl (b.map Entry.enc)])))]),(.agg [.t (ti (y).thread),.t (ti (y).step),.t (ti (y).cell)])]=some (.tup [(.agg [.t (ints ((dy p k c y).1).mem),.t (ints ((dy p k c y).1).at_),.t (.sl (((dy p k c y).1).buf.map (fun b=>[.sl (b.map Entry.enc)])))]),vi 0]):=by
 have AJ:=Nt p hs R k hk c D;have Ch:=z_ p hs R k hk c D;have JH:=kbX (bP p k c) y (by have:=ua R (k:=k) D.b;rw[rm D];omega);rw[(Sa _ _).2 hy]at JH;obtain⟨⟨m1,m2,m3,m4⟩,_⟩:=cS (cT R).1;have l1:=D.b.lm;have l2:=D.b.la;have l3:=D.b.lb;rcases zY R D hy with⟨t,x,i,s,hx,AE,he,rfl,hn,hd⟩ | ⟨CK,t,i,e,ht,hi,ho,rfl,hn,hd⟩
 ·rw[hn];have Bm:=kX R hx AE;have ht:t<p.threads.length:=(zH.1 hx).1;have E8:=xV Bm.set
  have BI: ∀a∈s.set,0<=a.cell/\a.cell<c.mem.length:=fun a ha=>by
   have:=(Bm.rng.2 a ha).1;simp only[inR,aQ]at this;omega
  have C5:=Kx p R c D.b t ht;have ineg: ¬(i:Int)<0:=aa
  refine aD (q:=de AJ Ch JH hx AE ineg ?_);refine bf (N' p R c D.b _) ?_;rintro r h' S ⟨vM,vA,F,rfl,x1,x2,bd,vs,hM,hA,CK,AT,AF,hB,C,H8⟩;obtain⟨Bu,X⟩:=hM.val;rcases hA with⟨_,Q⟩ | ⟨M,rfl,a1,a2,a3⟩
  ·exfalso;have d:=bz List.length Q;rw[aC]at d;simp at d;rw[d]at l2;simp at l2;omega
  unfold V.cells at X;have Om:=C.le (q:=0) (r:=c.buf.length) aa (ay _);have B5:=gz (l:=c.at_) (i:=t) aa;have KE:=dV c.at_ t s.to;have Ad:(t:Int)<(c.at_.length:Int):=aa
  have t0:(0:Int)<=(t:Int):=aa
  have M9:M≠F:=aa
  have Hm:F≠M:=aa
  generalize Y:(if s.kind=6 then(c.at_.set t s.to).set s.target.toNat 0 else c.at_.set t s.to)=P
  have FH:P.length=c.at_.length:=by rw[<- Y];split<;>simp
  by_cases BL:k=0\/s.kind≠3
  ·have hE:=YG D (t:=t) (s:=s) BL;rw[Y]at hE;have Mn:=Yn c.mem (aM c t) s.set aa aa BI;have f2:(ai P).length=c.at_.length:=by rw[aC,FH]
   have f3:List.take c.at_.length (ai P)=ai P:=ec f2.symm;have L:vs.length=c.buf.length:=C.len;have f6:List.take c.buf.length vs=vs:=ec L.symm
   have f7: ∀o:Option O,vs.mapM (fun row=>row.mapM (toT (updC h' M o) 999))=some (c.buf.map fun b=>[.sl (b.map Entry.enc)]):=fun o=>
    nX _ _ L fun q b A=>by
     obtain⟨u,hu,OD⟩:=C.at_ q b A;have Ed:=(zH.1 A).1;have u1:=C.le (q:=0) (r:=q) aa aa;exact⟨u,hu,(OD.keep (ay _) fun z z1 z2=>by rw[aq,ac aa]).tree 997⟩
   rw[hE];refine qY Bu X a3 B5 Ad t0 KE @aC ?_
   by_cases h6:s.kind=6
   ·obtain⟨I,_⟩:=Bm.tgt (.inl h6);simp only[inR,aQ]at I;have B:s.target<(c.at_.length:Int):=aa
    have g:=I.1;have GQ:=gz (l:=c.at_.set t s.to) (i:=s.target.toNat) (by simp;omega);have Gs:=dV (c.at_.set t s.to) s.target.toNat 0;rw[ah h6]at Y;subst Y;simp -dsimp only[go_sem,seval,h6,Bu,X,B,g,GQ,Gs,aC,cL,C5,Mn,Hm,hB,uo,f2,f3,L,f6,f7,gY,ay]
   ·rw[ac h6]at Y;subst Y;rcases BL with CK | W
    ·by_cases W:s.kind=3
     ·simp -dsimp only[go_sem,seval,CK,W,Bu,X,aC,cL,C5,Mn,Hm,hB,f2,f3,L,f6,f7,gY,ay]
     ·simp -dsimp only[go_sem,seval,h6,CK,W,Bu,X,aC,cL,C5,Mn,Hm,hB,f2,f3,L,f6,f7,gY,ay]
    ·simp -dsimp only[go_sem,seval,h6,W,Bu,X,aC,cL,C5,Mn,Hm,hB,f2,f3,L,f6,f7,gY,ay]
  ·have CK: ¬k=0:=fun h=>BL (.inl h)
   have W:s.kind=3:=Decidable.of_not_not fun h=>BL (.inr h)
   have k6: ¬s.kind=6:=aa
   rw[ac k6]at Y;subst Y;refine nK Bu X a3 B5 Ad t0 KE @aC W CK C5 ?_
   have hE:kU p k c t s=⟨bp c.mem (aM c t) (s.set.filter fun a=> !ba p a),c.at_.set t s.to,c.buf.set t (aF c t++[mF p (aM c t) s.set])⟩:=by
    unfold kU;rw[ac CK];simp only[eo,ah W,ac k6]
   refine aS 2722258935367352965202086186919783424000 s.set.length (fun j f h z=>(f 14).v=vi j/\(f 13).v= .lb/\ ∃U vv,(f 13).box=some [U,vv]/\HH h S z U vv (((s.set.take j).filter (ba p)).map Assign.cell) (((s.set.take j).filter (ba p)).map fun a=>a.to.eval (aM c t) (aM c t))/\
    jP h 0 x1 vM (ai (bp c.mem (aM c t) ((s.set.take j).filter fun a=> !ba p a)))/\(∀q,x1<=q->q<S->h q=if q=M then some (O.rows 1 (ai (c.at_.set t s.to)) false)else h' q)/\S<=z) rfl
    ⟨am,am,.t .nils,.t .nils,am,.inl ⟨rfl,rfl,rfl,rfl⟩,hM.keep fun q B g=>by simp -dsimp only[go_sem,seval];rw[ac aa],fun q _ _=>am,av⟩ ?_
   rintro j f u H z bs hj ⟨E2,Z,U,vv,FK,N,F7,AG,hz⟩;have hw:=aB j aa
   by_cases N9:j<s.set.length
   ·have HU:=aW N9;obtain⟨a,ha,Cp⟩:=au N9;obtain⟨c0,c1⟩:=BI a Cp;obtain⟨y,hy,_⟩:=Bm.wid a Cp;have Ak:=xr a.to (aM c t) (aM c t);have Bo:ba p a=decide (y.thread= -1):=by rw[ba,fo hy]
    by_cases Gj:y.thread= -1
    ·have Ff:ba p a=true:=by rw[Bo];simpa using Gj
     have Fc:Rg.valOf U=some U:=by rcases N with⟨rfl,_⟩ | ⟨_,_,rfl,_⟩<;>rfl
     have Bs:Rg.valOf vv=some vv:=by rcases N with⟨_,rfl,_⟩ | ⟨_,_,_,rfl,_⟩<;>rfl
     generalize AL:((s.set.take j).filter (ba p)).map Assign.cell=cs at *
     generalize Fy:(((s.set.take j).filter (ba p)).map fun a=>a.to.eval (aM c t) (aM c t))=ws at *
     have By:cs.length<=32:=by
      rw[<- AL,cP];have:=ku (ba p) (s.set.take j);rw[bJ]at this;omega
     have Er:ws.length<=32:=by
      rw[<- Fy,cP];have:=ku (ba p) (s.set.take j);rw[bJ]at this;omega
     have G9: ∀q,(q<S\/z<=q)->aK U q:=fun q A=>by
      rcases N with⟨rfl,_⟩ | ⟨m,kv,rfl,_,e1,e2,_⟩
      ·intro i n Q;cases Q
      ·exact c8 aa _ _
     have AM: ∀q,(q<S\/z<=q)->aK vv q:=fun q A=>by
      rcases N with⟨_,rfl,_⟩ | ⟨m,kv,_,rfl,_,_,e1,e2,_⟩
      ·intro i n Q;cases Q
      ·exact c8 aa _ _
     have KX:ax (updC H (z+5+7+6+8+4) (some (O.rows 1 [[V.t (ti a.cell)]] false))) (z+5+7+6+8+5) U 1 (ai cs):=by
      rcases N with⟨rfl,_,rfl,_⟩ | ⟨m,kv,rfl,_,e1,e2,e3,e4,e5,e6,e7⟩
      ·exact .inl ⟨rfl,rfl⟩
      ·exact .inr ⟨m,rfl,aa,by rw[aq,ac aa];exact e6⟩
     have Iy:=KX.rowsS;refine nK E2 Z FK HU ha Ak c0 hy Gj Fc Iy ?_;refine ce KX (ay _) (by rw[aC];omega) aG rfl (eC _) ?_;intro v1 DN O0 Jq J3;rcases O0 with⟨_,CY⟩ | ⟨k1,rfl,NK,J9⟩
     ·simp at CY
     have NJ:z+5+7+6+8+5<=k1:=by
      rcases bw k1 (z+5+7+6+8+5)with d | d
      ·exact absurd rfl (Jq k1 d 0 _)
      ·exact d
     have G5: ∀q,q<z->aK U q->At (updC H (z+5+7+6+8+4) (some (O.rows 1 [[V.t (ti a.cell)]] false))) DN q=H q:=fun q B g=>by
      rw[J3 q aa g,aq,ac aa]
     have GB:ax (updC (At (updC H (z+5+7+6+8+4) (some (O.rows 1 [[V.t (ti a.cell)]] false))) DN) (z+5+7+6+8+8+3) (some (O.rows 1 [[V.t (T.int IntKind.i64 (a.to.eval (aM c t) (aM c t)))]] false))) (z+5+7+6+8+8+4) vv 1 (ai ws):=by
      rcases N with⟨_,rfl,_,rfl⟩ | ⟨m,kv,rfl,rfl,e1,e2,e3,e4,e5,e6,e7⟩
      ·exact .inl ⟨rfl,rfl⟩
      ·exact .inr ⟨kv,rfl,aa,by rw[aq,ac aa,G5 kv e4 (c8 aa _ _)];exact e7⟩
     have DY:=GB.rowsS;refine bT E2 Z FK Bs DY ?_;refine ce GB (ay _) (by rw[aC];omega) aG rfl (eC _) ?_;intro v2 D0 Cz Jp GK;rcases Cz with⟨_,CY⟩ | ⟨E,rfl,HW,C4⟩
     ·simp at CY
     have FA:z+5+7+6+8+8+4<=E:=by
      rcases bw E (z+5+7+6+8+8+4)with d | d
      ·exact absurd rfl (Jp E d 0 _)
      ·exact d
     have G4: ∀q,q<S->At (updC (At (updC H (z+5+7+6+8+4) (some (O.rows 1 [[V.t (ti a.cell)]] false))) DN) (z+5+7+6+8+8+3) (some (O.rows 1 [[V.t (T.int IntKind.i64 (a.to.eval (aM c t) (aM c t)))]] false))) D0 q=H q:=fun q A=>by
      rw[GK q aa (AM q (.inl A)),aq,ac aa,G5 q aa (G9 q (.inl A))]
     have JA:At (updC (At (updC H (z+5+7+6+8+4) (some (O.rows 1 [[V.t (ti a.cell)]] false))) DN) (z+5+7+6+8+8+3) (some (O.rows 1 [[V.t (T.int IntKind.i64 (a.to.eval (aM c t) (aM c t)))]] false))) D0 k1=some (.rows 1 (ai cs++[[V.t (ti a.cell)]]) false):=by
      rw[GK k1 aa (AM k1 (.inr aa)),aq,ac aa];exact J9
     have CW:(s.set.take (j+1)).filter (ba p)=(s.set.take j).filter (ba p)++[a]:=by
      rw[a_ ha,iC];simp[Ff]
     have Ax:((s.set.take (j+1)).filter fun a=> !ba p a)=(s.set.take j).filter fun a=> !ba p a:=by
      rw[a_ ha,iC];simp[Ff]
     refine aJ E2 Z ?_;refine⟨aa,ak hw,ak Z,.ms k1 0 (ai cs++[[V.t (ti a.cell)]]).length,.ms E 0 (ai ws++[[V.t (T.int IntKind.i64 (a.to.eval (aM c t) (aM c t)))]]).length,ak FK,?_,?_,?_,av⟩
     ·rw[CW,d6,d6,AL,Fy];refine .inr ⟨k1,E,by rw[<- fB];rfl,by rw[<- fB];rfl,aa,av,aa,av,aa,?_,?_⟩
      ·refine aA ?_;rw[JA,<- fB]
      ·refine aA ?_;rw[C4,<- fB]
     ·rw[Ax];exact F7.keep fun q B g=>by simp -dsimp only[go_sem,seval];exact G4 q aa
     ·intro q B g;refine aA ?_;rw[G4 q g];exact AG q B g
    ·have Ff:ba p a=false:=by rw[Bo];simpa using Gj
     have Ac:(bp c.mem (aM c t) ((s.set.take j).filter fun a=> !ba p a)).length=c.mem.length:=iE (aM c t) _ c.mem
     have CW:(s.set.take (j+1)).filter (ba p)=(s.set.take j).filter (ba p):=by
      rw[a_ ha,iC];simp[Ff]
     have Ax:((s.set.take (j+1)).filter fun a=> !ba p a)=((s.set.take j).filter fun a=> !ba p a)++[a]:=by
      rw[a_ ha,iC];simp[Ff]
     rcases F7 with⟨_,Q⟩ | ⟨kM,rfl,m5,m6,m7⟩
     ·exfalso;have d:=bz List.length Q;rw[aC,Ac]at d;simp at d;rw[d]at c1;simp at c1;omega
     have B5:=gz (l:=bp c.mem (aM c t) ((s.set.take j).filter fun a=> !ba p a)) (i:=a.cell.toNat) aa;have AE:=dV (bp c.mem (aM c t) ((s.set.take j).filter fun a=> !ba p a)) a.cell.toNat (a.to.eval (aM c t) (aM c t))
     have Fy:bp c.mem (aM c t) (((s.set.take j).filter fun a=> !ba p a)++[a])=(bp c.mem (aM c t) ((s.set.take j).filter fun a=> !ba p a)).set a.cell.toNat (a.to.eval (aM c t) (aM c t)):=by
      unfold bp;rw[iD];rfl
     rw[<- Fy]at AE;have C7:(ai (bp c.mem (aM c t) ((s.set.take j).filter fun a=> !ba p a))).length=c.mem.length:=by rw[aC,Ac]
     have D9:(ai (bp c.mem (aM c t) (((s.set.take j).filter fun a=> !ba p a)++[a]))).length=c.mem.length:=by rw[aC,iE]
     simp -dsimp only[go_sem,seval,E2,Z,HU,ha,Ak,hy,Gj,C7,c0,c1,m7,B5,AE];refine⟨aa,ak hw,ak Z,U,vv,ak FK,?_,?_,?_,av⟩
     ·rw[CW];rcases N with d | ⟨m,kv,e0,e0',e1,e2,e3,e4,e5,e6,e7⟩
      ·exact .inl d
      ·have u1:m≠kM:=aa
       have u2:kv≠kM:=aa
       exact .inr ⟨m,kv,e0,e0',e1,av,e3,av,e5,bg u1 e6,bg u2 e7⟩
     ·rw[Ax];exact .inr ⟨kM,by rw[D9,C7],m5,m6,am⟩
     ·intro q B g;have u1:q≠kM:=aa
      refine aw u1 ?_;exact AG q B g
   ·have HU:=aI N9;have Lu:j=s.set.length:=aa
    subst Lu;rw[be]at F7 N;have Gz:=w_ Bm W (aM c t);rcases N with⟨_,_,d,_⟩ | ⟨m,kv,rfl,rfl,e1,e2,e3,e4,e5,e6,e7⟩
    ·exact absurd d Gz.ne
    have g1:H M=some (.rows 1 (ai (c.at_.set t s.to)) false):=by rw[AG M a1 aa,ah rfl]
    have g2:H F=some (.rows 1 vs false):=by rw[AG F aa aa,ac Hm];exact hB
    have Ag:=fC (c:=c) (t:=t) aa;obtain⟨v,hv,EU⟩:=C.at_ t _ Ag;have OM:=C.le (q:=0) (r:=t) aa aa;have OL:=C.le (q:=t+1) (r:=c.buf.length) aa (ay _);have Rt:=C.mono t aa;obtain⟨Bs,_⟩:=EU.val;obtain⟨rows,B1,Bb,BC,Bh⟩:=EU;have t1:(t:Int)<(c.buf.length:Int):=aa
    have LB: ∀q,x1<=q->q<S->q≠M->H q=h' q:=fun q B g q3=>by rw[AG q B g,ac q3]
    generalize Dm:(ai (List.map Assign.cell (List.filter (ba p) s.set))).length=J at *
    generalize La:(ai (List.map (fun a=>a.to.eval (aM c t) (aM c t)) (List.filter (ba p) s.set))).length=K at *
    have B7: ∀q,(q<bd t\/bd (t+1)<=q\/ ∀rs fz,h' q≠some (O.rows 2 rs fz))->aK v q:=fun q A=>by
     rcases B1 with⟨rfl,_⟩ | ⟨kb,rfl,d1,d2,d3⟩
     ·intro i n Q;cases Q
     ·refine c8 ?_ _ _;rintro rfl;rcases A with h | h | h
      ·omega
      ·omega
      ·exact h _ _ d3
    have GB:ax (updC H (z+5+11) (some (O.rows 2 [[V.ms m 0 J,V.ms kv 0 K]] false))) (z+5+12) v 2 rows:=by
     rcases B1 with⟨rfl,d⟩ | ⟨kb,rfl,d1,d2,d3⟩
     ·exact .inl ⟨rfl,d⟩
     ·exact .inr ⟨kb,rfl,aa,by rw[aq,ac aa,LB kb aa aa aa];exact d3⟩
    have DY:=GB.rowsS;refine mP E2 HU Z FK g2 hv Bs t0 t1 DY ?_;have Aa:(rows.all fun r=>decide (r.length=2))=true:=al BC
    obtain⟨b1,b2,_⟩:=D.b.buf t _ Ag;refine ce GB (ay _) (by rw[Bb];omega) aG rfl Aa ?_;intro v2 hp hO Bn A8;rcases hO with⟨_,CY⟩ | ⟨E,rfl,HW,C4⟩
    ·simp at CY
    have FA:z+5+12<=E:=by
     rcases bw E (z+5+12)with d | d
     ·exact absurd rfl (Bn E d 0 _)
     ·exact d
    have Ev: ∀q,q<z->aK v q->At (updC H (z+5+11) (some (O.rows 2 [[V.ms m 0 J,V.ms kv 0 K]] false))) hp q=H q:=fun q B g=>by
     rw[A8 q aa g,aq,ac aa]
    have gB:=Ev F aa (B7 F (.inl aa));rw[g2]at gB;have gA:=Ev M aa (B7 M (.inl aa));rw[g1]at gA
    have CJ: ∀(o:Option O) q,q≠F->updC (At (updC H (z+5+11) (some (O.rows 2 [[V.ms m 0 J,V.ms kv 0 K]] false))) hp) F o q=At (updC H (z+5+11) (some (O.rows 2 [[V.ms m 0 J,V.ms kv 0 K]] false))) hp q:=fun o q g=>by
     rw[aq,ac g]
    have AQ: ∀(o:Option O) q,x1<=q->q<S->q≠M->q≠F->aK v q->updC (At (updC H (z+5+11) (some (O.rows 2 [[V.ms m 0 J,V.ms kv 0 K]] false))) hp) F o q=h' q:=fun o q q0 B g q3 q4=>by
     rw[CJ o q q3,Ev q aa q4,LB q q0 B g]
    have fM: ∀o,toT (updC (At (updC H (z+5+11) (some (O.rows 2 [[V.ms m 0 J,V.ms kv 0 K]] false))) hp) F o) 1000 vM=some (ints (bp c.mem (aM c t) (s.set.filter fun a=> !ba p a))):=fun o=>
     (F7.keep fun q B g=>by rw[CJ o q aa,Ev q aa (B7 q (.inl aa))]).tree 999
    have f3:List.take c.at_.length (ai (c.at_.set t s.to))=ai (c.at_.set t s.to):=ec (by rw[aC,cL]);have L: ∀v,(vs.set t [v]).length=c.buf.length:=fun v=>by rw[cL];exact C.len
    have f6: ∀v,List.take c.buf.length (vs.set t [v])=vs.set t [v]:=fun v=>ec (L v).symm
    have f7: ∀o:Option O,(vs.set t [V.ms E 0 (rows++[[V.ms m 0 J,V.ms kv 0 K]]).length]).mapM (fun row=>row.mapM (toT (updC (At (updC H (z+5+11) (some (O.rows 2 [[V.ms m 0 J,V.ms kv 0 K]] false))) hp) F o) 999))=some ((c.buf.set t (aF c t++[mF p (aM c t) s.set])).map fun b=>[.sl (b.map Entry.enc)]):=by
     intro o;refine nX _ _ (by rw[L,cL]) fun j b hb=> ?_
     rw[cx]at hb
     by_cases hj:t=j
     ·subst hj;rw[ah rfl,ah aa]at hb;simp only[zA]at hb;subst hb;refine⟨_,by rw[cx,ah rfl,ah (by have:=C.len;omega)],?_⟩;refine h_.tree (lo:=bd t) (hi:=E+1) ⟨rows++[[V.ms m 0 J,V.ms kv 0 K]],.inr ⟨E,rfl,aa,aa,by rw[CJ o E aa];exact C4⟩,by rw[zM,zM,Bb];rfl,?_,fun q e0 A=> ?_⟩ 997
      ·intro r I;rcases cz.1 I with I | I
       ·exact BC r I
       ·rw[bB]at I;rw[I];rfl
      ·rcases bw q (aF c t).length with d | d
       ·rw[bU d]at A;obtain⟨r,I,hE⟩:=Bh q e0 A;refine⟨r,by rw[bU aa];exact I,hE.keep (ay _) aa fun w w1 w2 w3=> ?_⟩;exact AQ o w aa aa aa aa (B7 w (.inr (.inr w3)))
       ·have Cc:q=(aF c t).length:=by
         have:=(zH.1 A).1;rw[zM,gp]at this;omega
        subst Cc;rw[eJ (ay _),dI]at A;simp only[dv,zA]at A;subst A;refine⟨[V.ms m 0 J,V.ms kv 0 K],by rw[eJ aa,Bb,dI];rfl,?_⟩
        have u1: ∀q,S<=q->q<z->updC (At (updC H (z+5+11) (some (O.rows 2 [[V.ms m 0 J,V.ms kv 0 K]] false))) hp) F o q=H q:=fun q B g=>by
         rw[CJ o q aa,Ev q g (B7 q (.inr (.inl aa)))]
        rw[aC]at Dm La;refine⟨m,kv,by rw[<- Dm,<- La];rfl,aa,aa,aa,aa,by rw[u1 m e1 e2];exact e6,by rw[u1 kv e3 e4];exact e7⟩
     ·rw[ac hj]at hb;obtain⟨u,hu,Hn⟩:=C.at_ j b hb;have AN:=(zH.1 hb).1;refine⟨u,by rw[cx,ac hj];exact hu,?_⟩;refine(Hn.keep (ay _) fun q B g=> ?_).tree 997;have u1:=C.le (q:=0) (r:=j) aa aa;have u2:=C.le (q:=j+1) (r:=c.buf.length) aa (ay _);refine AQ o q aa aa aa aa (B7 q ?_);rcases bw j t with d | d
      ·have:=C.le (q:=j+1) (r:=t) aa aa;exact .inl aa
      ·have:=C.le (q:=t+1) (r:=j) aa aa;exact .inr (.inl aa)
    rw[hE];simp -dsimp only[go_sem,seval,Z,FK,gB,hv,t0,t1,M9,gA,Bu,X,Hm,fM,f3,L,f6,f7,aC,cL,gY,ay]
 ·rw[hn];obtain⟨H9,EV,_⟩:=D.b.buf t _ (fC (c:=c) (t:=t) aa);have Od:=W7 p R c D.b t ht i e hi fun j f hj Dg=>zg EV Dg hi ho hj
  exact aD (q:=k_ AJ Ch JH Od)
theorem TB {p:Prog} {k:Int} {c:Config} {t:Nat} {s:Step} {u:Nat} (d:u≠t) (h:s.kind=6->(u:Int)≠s.target) (e:s.kind=6->0<=s.target):(kU p k c t s).at_[u]? =c.at_[u]? :=by
 have a:(if s.kind=6 then(c.at_.set t s.to).set s.target.toNat 0 else c.at_.set t s.to)[u]? =c.at_[u]? :=by
  split
  ·rename_i b;have:=h b;have:=e b;rw[cx,ac aa,cx,ac (bX d)]
  ·rw[cx,ac (bX d)]
 unfold kU;split
 ·exact a
 ·exact a
theorem TC {p:Prog} (f:aN p=true) {k:Int} {c:Config} (n:IsK p k c) {y:Choice} (w:y∈bP p k c) {t:Nat} (r:atI c.at_ t≠ -1) (o:bH t y=false):
 atI (dy p k c y).1.at_ t=atI c.at_ t:=by
 rcases zY f n w with⟨u,x,i,s,v,q,b,rfl,d,_⟩ | ⟨A,u,i,e,B,hi,z,rfl,d,_⟩
 ·rw[d]
  have j:t≠u:=by
   rintro rfl;simp[bH]at o
  have g:=kX f v q
  have a:s.kind=6->(t:Int)≠s.target/\0<=s.target:=by
   intro a;have m:=g.tgt (.inl a);simp only[inR,aQ]at m;simp only[df,a,zF,aQ]at b;simp at b;refine⟨fun e=> ?_,aa⟩;rw[<- e]at b;exact r b.2.2
  simp only[atI,zK,kW];rw[TB j (fun h=>(a h).1) (fun h=>(a h).2)]
 ·rw[d];simp only[c7,hi]
def nxK (p:Prog) (k:Int) (c:Config) (x:Choice):Config:=(dy p k c x).1
def nP (p:Prog) (k:Int) (t:Nat) (l:Loop):Config->List Choice->Prop
 | c,[]=>cg l (atI c.at_ t)=true
 | c,x::r=>cg l (atI c.at_ t)=true/\x∈bP p k c/\nP p k t l (nxK p k c x) r
theorem nP.here {p:Prog} {k:Int} {t:Nat} {l:Loop} {c:Config} {r:List Choice} (h:nP p k t l c r):cg l (atI c.at_ t)=true:=by
 cases r with
 | nil=>exact h
 | cons x r=>exact h.1
theorem BT {p:Prog} (a:aN p=true) {k:Int} {t:Nat} {l:Loop} (g:cg l (-1)=false): ∀{r:List Choice} {c:Config},IsK p k c->nP p k t l c r->(∀x∈r,bH t x=false)->
 atI (r.foldl (nxK p k) c).at_ t=atI c.at_ t
 | [],c,_,_,_=>rfl
 | x::r,c,hc,h,ho=>by
   obtain⟨b,f,j⟩:=h;have i:atI c.at_ t≠ -1:=fun e=>by rw[e,g]at b;cases b
   obtain⟨d,o,m⟩:=lW a hc f;have n:=TC a hc f i (ho x af);rw[iy,BT a g (by rw[nxK,o];exact m) j (fun y q=>ho y (by simp[q]))];exact n
theorem HD {p:Prog} (g:aN p=true) {k:Int} {t:Nat} {l:Loop} (o:cg l (-1)=false) {v:Config->Int} {Q:Config->Prop} (n: ∀c x,Q c->x∈bP p k c->Q (nxK p k c x))
 (q: ∀c x,Q c->cg l (atI c.at_ t)=true->x∈bP p k c->cg l (atI (nxK p k c x).at_ t)=true->v (nxK p k c x)<=v c/\(bH t x=true->atI (nxK p k c x).at_ t=l.head->v (nxK p k c x)<v c)):
 ∀{r:List Choice} {c:Config},IsK p k c->Q c->nP p k t l c r->
 v (r.foldl (nxK p k) c)<=v c/\(atI (r.foldl (nxK p k) c).at_ t=l.head->(∃x∈r,bH t x=true)->v (r.foldl (nxK p k) c)<v c)
 | [],c,_,_,_=>⟨iN _,fun _ h=>by obtain⟨x,D,_⟩:=h;simp at D⟩
 | x::r,c,hc,hq,h=>by
   obtain⟨A,e,f⟩:=h;obtain⟨d,C,B⟩:=lW g hc e;have j:IsK p k (nxK p k c x):=by rw[nxK,C];exact B
   obtain⟨G,H⟩:=q c x hq A e f.here;obtain⟨E,F⟩:=HD g o n q j (n c x hq e) f;rw[iy];refine⟨Int.le_trans E G,fun b s=> ?_⟩
   by_cases i: ∃y∈r,bH t y=true
   ·have:=F b i;omega
   ·have u: ∀y∈r,bH t y=false:=fun y a=>by
     cases z:bH t y
     ·rfl
     ·exact absurd ⟨y,a,z⟩ i
    obtain⟨y,a,m⟩:=s
    have w:bH t x=true:=by
     rcases cj.1 a with rfl | a
     ·exact m
     ·exact absurd ⟨y,a,m⟩ i
    rw[BT g o j f u]at b;have:=H w b;omega
def EI (E:Nat->List Nat) (a:Nat->Bool) (u v:Nat):Prop:=a u=true/\a v=true/\v∈E u
structure DfsSt (E:Nat->List Nat) (ins:Nat->Bool) (ord stk:List Nat) (nx:Nat->Nat) (sn:Nat->Bool) (S:Nat->Nat->Prop):Prop where
 seen: ∀v,sn v=true<->v∈ord\/v∈stk
 nd:(ord++stk).Nodup
 insd: ∀v,sn v=true->ins v=true
 chain: ∀(i a b:Nat),stk[i]? =some a->stk[i+1]? =some b->EI E ins a b
 nxt: ∀v j w,j<nx v->(E v)[j]? =some w->ins w=true->sn w=true
 le: ∀v,nx v<=(E v).length
 fin:DfsOrd (EI E ins) ord S
 sub: ∀i v,i<ord.length->S i v->sn v=true
def aV {α:Type} (f:Nat->α) (k:Nat) (x:α):Nat->α:=fun i=>if i=k then x else f i
theorem DfsSt.init (E:Nat->List Nat) (a:Nat->Bool):DfsSt E a [] [] (fun _=>0) (fun _=>false) (fun _ _=>False):=
 ⟨af,af,af,af,fun _ _ _ h=>aa,fun _=>pr _,⟨af,af,af⟩,af⟩
theorem DfsSt.root {E:Nat->List Nat} {d:Nat->Bool} {f:List Nat} {nx:Nat->Nat} {sn:Nat->Bool} {S:Nat->Nat->Prop} (h:DfsSt E d f [] nx sn S) {r:Nat} (y:d r=true) (x:sn r=false):
 DfsSt E d f [r] nx (aV sn r true) S:=by
 have q:r∉ f:=fun h'=>by have:=(h.seen r).2 (.inl h');rw[x]at this;cases this
 have o: ∀v,sn v=true->aV sn r true v=true:=fun v c=>by unfold aV;split<;>simp_all
 refine⟨?_,?_,?_,?_,fun v j w m n t=>o _ (h.nxt v j w m n t),h.le,h.fin,fun i v m n=>o _ (h.sub i v m n)⟩
 ·intro v;have:=h.seen v;unfold aV
  by_cases c:v=r
  ·simp[c]
  ·simpa[c]using this
 ·rw[o9];exact⟨al h.nd,af,fun a u b g s=>by simp only[bB]at g;subst g s;exact q u⟩
 ·intro v c;unfold aV at c;split at c
  ·rename_i e;rw[e];exact y
  ·exact h.insd v c
 ·intro i a b _ g;simp at g
theorem DfsSt.skip {E:Nat->List Nat} {a:Nat->Bool} {b c:List Nat} {nx:Nat->Nat} {sn:Nat->Bool} {S:Nat->Nat->Prop} (h:DfsSt E a b c nx sn S) {u w:Nat} (g:(E u)[nx u]? =some w) (m:a w=true->sn w=true):
 DfsSt E a b c (aV nx u (nx u+1)) sn S:=by
 refine⟨h.seen,h.nd,h.insd,h.chain,?_,?_,h.fin,h.sub⟩
 ·intro v j w' f d hi;unfold aV at f;split at f
  ·rename_i e;subst e;rcases bw j (nx v)with i | n
   ·exact h.nxt v j w' i d hi
   ·have:j=nx v:=aa
    subst this;rw[g]at d;cases d;exact m hi
  ·exact h.nxt v j w' f d hi
 ·intro v;unfold aV;split
  ·rename_i e;subst e;have:=(zH.1 g).1;omega
  ·exact h.le v
theorem DfsSt.push {E:Nat->List Nat} {d:Nat->Bool} {m c:List Nat} {nx:Nat->Nat} {sn:Nat->Bool} {S:Nat->Nat->Prop} {u w:Nat} (h:DfsSt E d m (c++[u]) nx sn S) (t:(E u)[nx u]? =some w) (hi:d w=true) (H:sn w=false):
 DfsSt E d m (c++[u]++[w]) (aV nx u (nx u+1)) (aV sn w true) S:=by
 have I:d u=true:=h.insd u ((h.seen u).2 (.inr af))
 have C:w∉ m++(c++[u]):=fun h'=>by
  have:=(h.seen w).2 (cz.1 h');rw[H]at this;cases this
 have r: ∀v,sn v=true->aV sn w true v=true:=fun v g=>by unfold aV;split<;>simp_all
 refine⟨?_,?_,?_,?_,?_,?_,h.fin,fun i v F G=>r _ (h.sub i v F G)⟩
 ·intro v;have:=h.seen v;unfold aV
  by_cases g:v=w
  ·simp[g]
  ·simp only[ac g,cz,bB,g,dU]at this⊢;exact this
 ·rw[<- zQ,o9];exact⟨h.nd,af,fun a n b f D=>by simp only[bB]at f;subst f D;exact C n⟩
 ·intro v g;unfold aV at g;split at g
  ·rename_i e;rw[e];exact hi
  ·exact h.insd v g
 ·intro i a b n f;rcases bw (i+1) (c++[u]).length with q | A
  ·rw[bU aa]at n;rw[bU q]at f;exact h.chain i a b n f
  ·have z:=(zH.1 f).1;rw[zM]at z;simp only[d_,jQ]at z;have y:i+1=(c++[u]).length:=aa
   rw[eJ A,y,dI]at f;cases f;have B:i=c.length:=by simp at y;omega
   rw[bU aa,B,eJ (ay _),dI]at n;cases n;exact⟨I,hi,zL t⟩
 ·intro v j w' s o x;unfold aV at s;split at s
  ·rename_i e;subst e;rcases bw j (nx v)with q | A
   ·exact r _ (h.nxt v j w' q o x)
   ·have:j=nx v:=aa
    subst this;rw[t]at o;cases o;simp[aV]
  ·exact r _ (h.nxt v j w' s o x)
 ·intro v;unfold aV;split
  ·rename_i e;subst e;have:=(zH.1 t).1;omega
  ·exact h.le v
theorem yg {E:Nat->Nat->Prop}: ∀{c:List Nat} {u v:Nat},(∀(i a b:Nat),(c++[u])[i]? =some a->(c++[u])[i+1]? =some b->E a b)->v∈c++[u]->Rch E v u
 | [],u,v,_,d=>by simp at d;subst d;exact .refl _
 | x::c,u,v,h,d=>by
   have e: ∀(i a b:Nat),(c++[u])[i]? =some a->(c++[u])[i+1]? =some b->E a b:=fun i a b f g=>h (i+1) a b (al f) (al g)
   rcases cj.1 d with rfl | d
   ·cases c with
    | nil=>exact .cons (h 0 v u rfl rfl) (.refl _)
    | cons y c=>exact .cons (h 0 v y rfl rfl) (yg e af)
   ·exact yg e d
theorem DfsSt.pop {E:Nat->List Nat} {m:Nat->Bool} {c n:List Nat} {nx:Nat->Nat} {sn:Nat->Bool} {S:Nat->Nat->Prop} {u:Nat} (h:DfsSt E m c (n++[u]) nx sn S) (B:nx u=(E u).length):
 ∃y,DfsSt E m (c++[u]) n nx sn y:=by
 refine⟨fun i v=>if i=c.length then sn v=true else S i v,?_,?_,h.insd,?_,h.nxt,h.le,⟨?_,?_,?_⟩,?_⟩
 ·intro v;have:=h.seen v;simp only[cz,bB]at this⊢;rw[this];constructor
  ·rintro(h | h | h)
   ·exact .inl (.inl h)
   ·exact .inr h
   ·exact .inl (.inr h)
  ·rintro((h | h) | h)
   ·exact .inl h
   ·exact .inr (.inr h)
   ·exact .inr (.inl h)
 ·have:=h.nd;refine(List.Perm.nodup_iff ?_).1 this;rw[zQ];exact List.Perm.append_left c List.perm_append_comm
 ·intro i a b z s;have:=(zH.1 s).1;exact h.chain i a b (by rw[bU aa];exact z) (by rw[bU aa];exact s)
 ·intro i x v e r;rcases bw i c.length with o | w
  ·rw[bU o]at e;simp only[ac (show ¬i=c.length from aa)];exact h.fin.succ i x v e r
  ·have q:=(zH.1 e).1;simp only[zM,d_,jQ]at q;have hi:i=c.length:=aa
   rw[hi,eJ (ay _),dI]at e;cases e;simp only[ah hi];obtain⟨j,f⟩:=eH r.2.2;exact h.nxt u j v (by rw[B];exact(zH.1 f).1) f r.2.1
 ·intro i j v t f d;simp only[zM,d_,jQ]at f
  by_cases hi:i=c.length
  ·rw[ah hi]at d;rw[ah aa];exact d
  ·rw[ac hi]at d;split
   ·exact h.sub i v aa d
   ·exact h.fin.mono i j v t aa d
 ·intro i x v e d;rcases bw i c.length with o | w
  ·rw[bU o]at e;rw[ac aa]at d;rcases h.fin.gray i x v e d with⟨j,f,g⟩ | A
   ·exact .inl ⟨j,f,by rw[bU aa];exact g⟩
   ·exact .inr A
  ·have q:=(zH.1 e).1;simp only[zM,d_,jQ]at q;have hi:i=c.length:=aa
   rw[hi,eJ (ay _),dI]at e;cases e;rw[ah hi]at d;rcases(h.seen v).1 d with g | g
   ·obtain⟨j,f⟩:=eH g;have:=(zH.1 f).1;exact .inl ⟨j,aa,by rw[bU this];exact f⟩
   ·exact .inr (yg h.chain g)
 ·intro i v hi d;simp only[zM,d_,jQ]at hi;split at d
  ·exact d
  ·exact h.sub i v aa d
structure PartOk (E:Nat->Nat->Prop) (ord:List Nat) (part:Nat->Int) (m:Nat):Prop where
 con: ∀v,part v≠ -1-> ∃r:Nat,part v=r/\Rch E v r/\Rch E r v
 done: ∀(j v:Nat),m<=j->ord[j]? =some v->part v≠ -1
theorem PartOk.root {E:Nat->Nat->Prop} {a:List Nat} {part:Nat->Int} {m r:Nat} (h:PartOk E a part (m+1)) (c:a[m]? =some r):PartOk E a (aV part r r) m/\Pln E a m r 0 r:=by
 refine⟨⟨fun v b=> ?_,fun j v g b=> ?_⟩,.root c⟩
 ·unfold aV at b⊢;split
  ·rename_i e;exact⟨r,rfl,e▸ .refl _,e▸ .refl _⟩
  ·rename_i e;rw[ac e]at b;exact h.con v b
 ·unfold aV;split
  ·omega
  ·rename_i e;refine h.done j v ?_ b;rcases bw m j with d | f
   ·exact d
   ·have:j=m:=aa
    subst this;rw[c]at b;cases b;exact absurd rfl e
theorem PartOk.add {E:Nat->Nat->Prop} {a:List Nat} {S:Nat->Nat->Prop} (n:DfsOrd E a S) (d:a.Nodup) {part:Nat->Int} {m r k u w:Nat} (h:PartOk E a part m) (s:Pln E a m r k u) (o:E w u) (t:w∈a) (q:part w= -1):
 PartOk E a (aV part w r) m/\Pln E a m r (k+1) w:=by
 obtain⟨j,c⟩:=eH t
 have i:j<=m:=by
  rcases bw j m with y | f
  ·omega
  ·exact absurd q (h.done j w f c)
 have hp:Pln E a m r (k+1) w:=.step c i o s;refine⟨⟨fun v b=> ?_,fun x v g b=> ?_⟩,hp⟩
 ·unfold aV at b⊢;split
  ·rename_i e;exact⟨r,rfl,e▸hp.rch,e▸kah n d _ _ _ (ay _) hp⟩
  ·rename_i e;rw[ac e]at b;exact h.con v b
 ·unfold aV;split
  ·omega
  ·exact h.done x v g b
def okN (p:Prog) (k:Int):Config->List Choice->Bool
 | _,[]=>true
 | c,y::r=>decide (y∈bP p k c)&&okN p k (nxK p k c y) r
def bm (l:List Vis) (i:Nat):Config:=(l.getD i default).c
def f8 (l:List Vis) (c:Config):Nat:=l.findIdx fun v=>decide (v.c=c)
def bM (p:Prog) (k:Int) (l:List Vis) (u:Nat):List (Nat×Choice):=(bP p k (bm l u)).map fun x=>(f8 l (nxK p k (bm l u) x),x)
def iZ (l:List Vis) (t:Nat) (lp:Loop) (i:Nat):Bool:=cg lp (atI (bm l i).at_ t)
def py (p:Prog) (k:Int) (l:List Vis) (t:Nat) (lp:Loop) (a:Nat):List (Nat×Choice):=
 ((bM p k l (a/ 2)).filter fun e=>iZ l t lp e.1).map fun e=>(2*e.1+(if bH t e.2 then 1 else a % 2),e.2)
theorem ia {l:List Vis} {i:Nat} {v:Vis} (h:l[i]? =some v):bm l i=v.c:=by simp[bm,zK,h]
theorem zh {l:List Vis} {c:Config} (h: ∃v∈l,v.c=c):f8 l c<l.length/\bm l (f8 l c)=c:=by
 have a:f8 l c<l.length:=by
  unfold f8;rw[List.findIdx_lt_length];obtain⟨v,b,e⟩:=h;exact⟨v,b,by simp[e]⟩
 refine⟨a,?_⟩;have:=List.findIdx_getElem (w:=a);rw[ia (zI a)];exact nT this
theorem sL {p:Prog} {k:Int} {l:List Vis} {n:Nat} (h:VisOk p k l n) {i:Nat} (hi:i<l.length):f8 l (bm l i)=i:=by
 have f: ∃v∈l,v.c=bm l i:=⟨l[i],mg hi,(ia (zI hi)).symm⟩
 obtain⟨b,d⟩:=zh f
 have a: ∀j,j<l.length->(l.map Vis.c)[j]? =some (bm l j):=fun j c=>by
  rw[zJ,zI c,ia (zI c)];rfl
 have e:(l.map Vis.c)[f8 l (bm l i)]? =(l.map Vis.c)[i]? :=by rw[a _ b,a _ hi,d]
 exact(wh (al b) h.nd).1 e
section
variable {p:Prog} {k:Int} {l:List Vis} (hV:VisOk p k l l.length)
include hV
theorem nR {i:Nat} (hi:i<l.length):IsK p k (bm l i):=by
 rw[ia (zI hi)];exact hV.is _ (mg hi)
theorem sK {u:Nat} (b:u<l.length) {x:Choice} (c:x∈bP p k (bm l u)):f8 l (nxK p k (bm l u) x)<l.length/\bm l (f8 l (nxK p k (bm l u) x))=nxK p k (bm l u) x:=by
 have a:=zI b;rw[ia a]at c⊢;exact zh (hV.cl u _ b a x c)
theorem sM {u:Nat} (b:u<l.length): ∀e∈bM p k l u,e.1<l.length:=by
 intro e a;obtain⟨x,c,rfl⟩:=cy.1 a;exact(sK hV b c).1
theorem B6: ∀{r:List Choice} {u w:Nat},u<l.length->ix (bM p k l) u r w->okN p k (bm l u) r=true/\r.foldl (nxK p k) (bm l u)=bm l w/\w<l.length
 | [],u,w,hu,h=>by cases h;exact⟨rfl,rfl,hu⟩
 | x::r,u,w,hu,⟨v,he,h⟩=>by
   obtain⟨y,a,e⟩:=cy.1 he;simp only[dx]at e;obtain⟨rfl,rfl⟩:=e;obtain⟨d,f⟩:=sK hV hu a;obtain⟨b,c,g⟩:=B6 d h;rw[f]at b c;exact⟨by rw[okN,zF,aQ];exact⟨a,b⟩,c,g⟩
theorem TG: ∀(j:Nat),j<l.length->Rch (kT (bM p k l)) 0 j:=by
 intro j
 induction j using Nat.strongRecOn with
 | _ j g=>
   intro a
   by_cases c:j=0
   ·subst c;exact .refl _
   ·obtain⟨q,u,d,b,_,e,f⟩:=hV.pre j _ aa (zI a);refine(g q d aa).snoc ⟨l[j].x,cy.2 ⟨l[j].x,by rw[ia b];exact e,?_⟩⟩;have:nxK p k (bm l q) l[j].x=bm l j:=by rw[ia b,ia (zI a),nxK,f]
    rw[this,sL hV a]
end
theorem Bl {p:Prog} {k:Int} {l:List Vis} {t:Nat} {lp:Loop} {a b:Nat} (h:Rch (EI (fun u=>(bM p k l u).map Prod.fst) (iZ l t lp)) a b): ∀m,m<2-> ∃d,d<2/\m<=d/\Rch (kT (py p k l t lp)) (2*a+m) (2*b+d):=by
 induction h with
 | refl a=>exact fun m g=>⟨m,g,ay _,.refl _⟩
 | @cons a b c f _ ih=>
   intro m g;obtain⟨_,q,i⟩:=f;obtain⟨e,f,rfl⟩:=cy.1 i;obtain⟨d,j,n,o⟩:=ih (if bH t e.2 then 1 else m) (by split<;>omega);refine⟨d,j,by split at n<;>omega,.cons ⟨e.2,cy.2 ⟨e,f_.2 ⟨?_,q⟩,?_⟩⟩ o⟩
   ·rw[show(2*a+m)/ 2=a by omega];exact f
   ·rw[show(2*a+m) % 2=m by omega]
theorem BB {p:Prog} {k:Int} {l:List Vis} (hV:VisOk p k l l.length) {t:Nat} {lp:Loop}: ∀{r:List Choice} {a b:Nat},a/ 2<l.length->iZ l t lp (a/ 2)=true->ix (py p k l t lp) a r b->
 nP p k t lp (bm l (a/ 2)) r/\r.foldl (nxK p k) (bm l (a/ 2))=bm l (b/ 2)/\(a % 2≠b % 2-> ∃x∈r,bH t x=true)
 | [],a,b,_,hi,h=>by cases h;exact⟨hi,rfl,fun h=>absurd rfl h⟩
 | x::r,a,b,ha,hi,⟨v,he,h⟩=>by
   obtain⟨e,q,f⟩:=cy.1 he;simp only[dx]at f;obtain⟨rfl,rfl⟩:=f;obtain⟨u,d⟩:=f_.1 q;obtain⟨y,i,rfl⟩:=cy.1 u;obtain⟨w,A⟩:=sK hV ha i;simp only at d h;have o:(if bH t y=true then 1 else a % 2)<2:=by split<;>omega
   generalize B:(if bH t y=true then 1 else a % 2)=m at h o
   have c:(2*f8 l (nxK p k (bm l (a/ 2)) y)+m)/ 2=f8 l (nxK p k (bm l (a/ 2)) y):=aa
   obtain⟨j,n,D⟩:=BB hV (a:=2*f8 l (nxK p k (bm l (a/ 2)) y)+m) (by rw[c];exact w) (by rw[c];exact d) h;rw[c,A]at j n;refine⟨⟨hi,i,j⟩,n,fun E=> ?_⟩
   by_cases g:bH t y=true
   ·exact⟨y,af,g⟩
   ·rw[ac g]at B;obtain⟨z,C,s⟩:=D aa;exact⟨z,by simp[C],s⟩
def mapL {α:Type} (b:α->ByteArray) (c:α->V) (l:List α):List (T×V):=l.map fun a=>(T.str (b a),c a)
theorem xT {α:Type} (b:α->ByteArray) (c:α->V) (l:List α) (a:α):mapL b c (l++[a])=mapL b c l++[(T.str (b a),c a)]:=by simp[mapL]
theorem u_ {α:Type} (c:α->ByteArray) (d:α->V) (b:ByteArray): ∀l:List α,dK (.str b) (mapL c d l)=some ((l.find? fun a=>b==c a).map d)
 | []=>rfl
 | a::l=>by
   rw[mapL,aT,dK,eX,List.find?_cons];cases h:(b==c a)
   ·simp only[];exact u_ c d b l
   ·rfl
theorem vo {α:Type} (c:α->ByteArray) (d:α->V) (b:ByteArray) (v:V): ∀l:List α,(∀a∈l,(b==c a)=false)->da (.str b) v (mapL c d l)=some (mapL c d l++[(.str b,v)])
 | [],_=>rfl
 | a::l,h=>by
   rw[mapL,aT,da,eX,h a af];simp only[];rw[show(l.map fun a=>(T.str (c a),d a))=mapL c d l from rfl,vo c d b v l fun x e=>h x (by simp[e])];rfl
theorem qw {a b:ByteArray}:(a==b)=true<->a=b:=by
 rw[yh];constructor
 ·intro h;have:=(oZ).1 h;rw[ByteArray.toList_eq,ByteArray.toList_eq]at this;have c:a.data=b.data:=gW.1 this;cases a;cases b;simp_all
 ·rintro rfl;simp
theorem Tj {a b:ByteArray} (h:a≠b):(a==b)=false:=by
 cases c:(a==b)
 ·rfl
 ·exact absurd (qw.1 c) h
def jM (a:Nat):List Vis->List Vis->List Vis×Bool
 | l,[]=>(l,false)
 | l,v::r=>if hD l v.c then jM a l r else if a<=l.length then(l,true)else jM a (l++[v]) r
def goX (p:Prog) (k:Int) (a:Nat):Nat->Nat->List Vis->List Vis×Bool
 | 0,_,l=>(l,false)
 | f+1,i,l=>match l[i]? with
   | some v=>if(jM a l (fe p k v.c i)).2 then jM a l (fe p k v.c i)else goX p k a f (i+1) (jM a l (fe p k v.c i)).1
   | none=>(l,false)
def j8 (p:Prog) (k:Int) (a:Nat):List Vis×Bool:=goX p k a (a+1) 0 [v0 p]
theorem xy (a:Nat): ∀(r l:List Vis),jp a l r=if(jM a l r).2 then none else some (jM a l r).1
 | [],l=>rfl
 | v::r,l=>by
   rw[jp,jM,pw];split
   ·rw[zD];exact xy a r l
   ·split
    ·rfl
    ·rw[zD];exact xy a r _
theorem S8 (p:Prog) (k:Int) (a:Nat): ∀(f i:Nat) (l:List Vis),goV p k a f i l=if(goX p k a f i l).2 then none else some (goX p k a f i l).1
 | 0,i,l=>rfl
 | f+1,i,l=>by
   rw[goV,goX]
   cases l[i]? with
   | none=>rfl
   | some v=>
     simp only;rw[xy];cases h:(jM a l (fe p k v.c i)).2
     ·simp only[zG,aX,zD];exact S8 p k a f (i+1) _
     ·simp[h]
theorem kc3 (p:Prog) (k:Int) (a:Nat):eq p k a=if(j8 p k a).2 then none else some (j8 p k a).1:=S8 p k a _ _ _
theorem X2 {p:Prog} (g:aN p=true) {l:List Vis} (i: ∀v∈l,IsB p v.c) {c:Config} (e:IsB p c):(l.find? fun a=>gP c==gP a.c).isSome=hD l c:=by
 cases h:hD l c
 ·rw[Gx,GI,p8];intro v b f;have:=kac g e (i v b) (qw.1 f);have d:hD l c=true:=pC.2 ⟨v,b,this.symm⟩;rw[h]at d;cases d
 ·obtain⟨v,b,rfl⟩:=pC.1 h;rw[List.find?_isSome];exact⟨v,b,qw.2 rfl⟩
theorem WM {p:Prog} (g:aN p=true) {l:List Vis} (i: ∀v∈l,IsB p v.c) {c:Config} (e:IsB p c):(l.find? fun a=>eD c==eD a.c).isSome=hD l c:=by
 cases h:hD l c
 ·rw[Gx,GI,p8];intro v b f;have:=kad g e (i v b) (qw.1 f);have d:hD l c=true:=pC.2 ⟨v,b,this.symm⟩;rw[h]at d;cases d
 ·obtain⟨v,b,rfl⟩:=pC.1 h;rw[List.find?_isSome];exact⟨v,b,qw.2 rfl⟩
def dE (l:List Vis):List (List V):=(l.map fun v=>Config.enc v.c).map (·.map V.t)
theorem iu (l:List Vis):(dE l).length=l.length:=by simp[dE]
theorem LL (l:List Vis) (v:Vis):dE (l++[v])=dE l++[(Config.enc v.c).map V.t]:=by simp[dE]
theorem OF (l:List Vis):((dE l).all fun r=>decide (r.length=3))=true:=by simp[dE,Config.enc]
theorem Qw {l:List Vis} {i:Nat} {v:Vis} (h:l[i]? =some v):(dE l)[i]? =some [.t (ints v.c.mem),.t (ints v.c.at_),.t (.sl (v.c.buf.map fun b=>[.sl (b.map Entry.enc)]))]:=by simp[dE,h,Config.enc]
structure SeaH (h:Nat->Option O) (x:Nat) (vL vF vC:V) (kM:Nat) (l:List Vis):Prop where
 L:ax h x vL 3 (dE l)
 F:ax h x vF 1 (ai (l.map Vis.fr))
 X:ax h x vC 3 (bj (l.map Vis.x))
 M:h kM=some (.map (mapL (fun v:Vis=>gP v.c) (fun _=>vb true) l))
 mx:kM<x
 LX: ∀k,aK vL k\/aK vC k
theorem ax.offAt {h:ae} {x:Nat} {v:V} {a:Nat} {rows:List (List V)} (o:ax h x v a rows) {k:Nat} (b: ∀rs,h k≠some (.rows a rs false)):aK v k:=by
 rcases o with⟨rfl,_⟩ | ⟨q,rfl,_,c⟩
 ·intro i n h;cases h
 ·exact c8 (fun e=>b _ (e▸c)) _ _
theorem SeaH.le {h:ae} {x y:Nat} {vL c b:V} {kM:Nat} {l:List Vis} (s:SeaH h x vL c b kM l) (a:x<=y):SeaH h y vL c b kM l:=
 ⟨s.L.le a,s.F.le a,s.X.le a,s.M,by have:=s.mx;omega,s.LX⟩
theorem SeaH.LF {h:ae} {x:Nat} {vL b d:V} {kM:Nat} {l:List Vis} (s:SeaH h x vL b d kM l) (k:Nat):aK vL k\/aK b k:=by
 rcases s.L with⟨e,_⟩ | ⟨q,e,_,c⟩
 ·exact .inl (by rw[e];intro i n h;cases h)
 ·by_cases a:k=q
  ·subst a;exact .inr (s.F.offAt fun rs h=>by rw[c]at h;cases h)
  ·exact .inl (by rw[e];exact c8 a _ _)
theorem SeaH.FX {h:ae} {x:Nat} {vL c b:V} {kM:Nat} {l:List Vis} (s:SeaH h x vL c b kM l) (k:Nat):aK c k\/aK b k:=by
 rcases s.F with⟨e,_⟩ | ⟨q,e,_,d⟩
 ·exact .inl (by rw[e];intro i n h;cases h)
 ·by_cases a:k=q
  ·subst a;exact .inr (s.X.offAt fun rs h=>by rw[d]at h;cases h)
  ·exact .inl (by rw[e];exact c8 a _ _)
theorem XI (p:Prog) (hs:p.sane) (M:aN p=true) (k:Int) (hk:0<=k/\k<=2) (c:Nat) (U:1<=c) (h2:c<=20000):
 Den Γ G 367 [(zP p),vi k,vi c]=some (.agg [.t (.sl ((j8 p k c).1.map fun v=>Config.enc v.c)),.t (ints ((j8 p k c).1.map Vis.fr)),.t (.sl ((j8 p k c).1.map fun v=>v.x.enc)),vb (j8 p k c).2]):=by
 have AE:=Yl p hs;have CK:=ON p M (dz p) (sa M k).b;have N3: ∀(q:T) (v:V),da q v []=some [(q,v)]:=fun q v=>rfl
 have E0: ∀l:List Vis,∀e∈l.map fun v=>Config.enc v.c,∀t∈e,T.norm t=t:=by
  intro l e he t ht;obtain⟨v,_,rfl⟩:=cy.1 he;simp only[Config.enc,cj,ki,dU]at ht;rcases ht with rfl | rfl | rfl<;>rfl
 have fin: ∀{h:ae} {x:Nat} {vL I F:V} {l:List Vis},SeaH h x vL I F 11 l->(dE l).mapM (fun row=>row.mapM (toT h 999))=some (l.map fun v=>Config.enc v.c)/\toT h 1000 I=some (ints (l.map Vis.fr))/\toT h 1000 F=some (.sl ((l.map Vis.x).map Choice.enc))/\
  V.cells I=some [I]/\V.cells F=some [F]:=fun s=>
  ⟨mA _ 999 (List.map (fun v:Vis=>Config.enc v.c) _) (E0 _),jD (es:=(_:List Int).map fun n=>[ti n]) s.F (iG _),jD s.X (pb _),s.F.cellsV,s.X.cellsV⟩
 have D8: ∀l:List Vis,(l.map Vis.x).map Choice.enc=l.map fun v=>v.x.enc:=fun l=>by rw[mj];rfl
 simp only[D8]at fin
 refine aD (q:=a7 AE CK N3 ?_)
 refine aS 162259276829213363391577741868672 (c+1) (fun i f h x=>(f 9).v=vi i/\(f 7).v= .lb/\ ∃(l:List Vis) (ov:Bool) (vL I F:V),(f 7).box=some [vL,I,F,vb ov]/\SeaH h x vL I F 11 l/\1<=l.length/\(ov=true->j8 p k c=(l,true))/\
  (ov=false->j8 p k c=goX p k c (c+1-i) i l/\i<=l.length/\l.length<=c/\(∀v∈l,IsK p k v.c))) rfl
  ⟨am,am,[v0 p],false,_,_,_,by simp -dsimp only[go_sem,seval];exact⟨rfl,rfl,rfl⟩,⟨.inr ⟨4,rfl,am,by simp -dsimp only[go_sem,seval];rfl⟩,.inr ⟨5,rfl,am,by simp -dsimp only[go_sem,seval];rfl⟩,.inr ⟨7,rfl,am,by simp -dsimp only[go_sem,seval];rfl⟩,by simp -dsimp only[go_sem,seval,mapL,aT,bc,v0],am,fun k=> ?_⟩,af,fun h=>Bool.noConfusion h,fun _=>⟨rfl,af,U,fun v R=> ?_⟩⟩ ?_
 ·by_cases hq:k=4
  ·exact .inr (c8 aa _ _)
  ·exact .inl (c8 hq _ _)
 ·simp only[bB]at R;subst R;exact sa M k
 rintro i f u H x bs hi ⟨J,b1,l,ov,vL,I,F,b2,hS,AO,De,Be⟩;have hw:=aB i aa;obtain⟨fL,fF,fX,cF,cX⟩:=fin hS;unfold V.cells at cF cX;have fT:List.take l.length (dE l)=dE l:=ec (iu l).symm;rcases hS.L with⟨e0,e1⟩ | ⟨kL,rfl,e2,e3⟩
 ·rw[<- iu,e1]at AO;simp at AO
 rw[iu]at hS b2;cases ov
 ·obtain⟨g1,g2,g3,g5⟩:=Be rfl
  by_cases Ad:i<l.length
  ·have S:=aW Ad;obtain⟨v,R,Kg⟩:=au Ad;have Gm:=g5 v Kg;have Ch:=z_ p hs M k hk v.c Gm;have Ap:=Qw R;have i0:(0:Int)<=(i:Int):=aa
   have i1:(i:Int)<(l.length:Int):=aa
   refine mP J b1 b2 e3 S i0 i1 Ap @iu Ch ?_
   generalize AL:bP p k v.c=cs at *
   have By:=ua M (k:=k) Gm.b;rw[<- rm Gm,AL]at By;have G8:fe p k v.c i=cs.map fun x=>⟨(dy p k v.c x).1,i,x⟩:=by rw[fe,AL]
   generalize hq:jM c l (fe p k v.c i)=q
   have Q:j8 p k c=if q.2 then q else goX p k c (c-i) (i+1) q.1:=by
    rw[g1,show c+1-i=c-i+1 from aa,goX,R];simp only[hq]
   refine aS 162259276829213363110103033591936 cs.length (fun j f h x=>(f 11).v=vi j/\(f 7).v= .lb/\ ∃(l':List Vis) (vL I F:V),(f 7).box=some [vL,I,F,vb false]/\SeaH h x vL I F 11 l'/\l'[i]? =some v/\l'.length<=c/\(∀v∈l',IsK p k v.c)/\
    q=jM c l' ((fe p k v.c i).drop j)) rfl
    ⟨am,ak b1,l,_,_,_,ak b2,hS.le av,R,g3,g5,by rw[ij,hq]⟩ ?_
   rintro j f2 u2 H2 g bs2 hj ⟨Bg,C,l',vL',P,N,B,w,BQ,CE,Ii,K⟩;have BO:=aB j aa;have AV:=(zH.1 BQ).1;rcases w.L with⟨e0,e1'⟩ | ⟨X,rfl,e2',D⟩
   ·have:=iu l';rw[e1']at this;simp at this;omega
   rw[iu]at w B
   by_cases AN:j<cs.length
   ·have Ba:=aW AN;obtain⟨y,hy,Eq⟩:=au AN;have Hs:y∈bP p k v.c:=by rw[AL];exact Eq
    have ED:=Gu p hs M k hk v.c Gm y Hs;obtain⟨d,Bt,hd⟩:=lW M Gm Hs;rw[Bt]at ED;have DA:=ON p M d hd.b;have D3:=u_ (fun v:Vis=>gP v.c) (fun _=>vb true) (gP d) l';have C6:=X2 M (fun v R=>(Ii v R).b) hd.b (l:=l');have LZ:=w.M;have Gw:=Qw BQ;have W:(i:Int)<(l'.length:Int):=aa
    have Gb:(fe p k v.c i).drop j=⟨d,i,y⟩::(fe p k v.c i).drop (j+1):=by
     have:(fe p k v.c i)[j]? =some ⟨d,i,y⟩:=by rw[G8,zJ,hy];simp[Bt]
     exact jj this
    rw[Gb,jM]at K;cases Dx:hD l' d
    ·rw[Dx]at C6;have hz:l'.find? (fun a=>gP d==gP a.c)=none:=al C6
     rw[hz]at D3;rw[ac (by simp[Dx])]at K
     by_cases AC:c<=l'.length
     ·rw[ah AC]at K;have JM:(l'.length:Int)>=(c:Int):=aa
      rw[K]at Q;simp -dsimp only[go_sem,seval,Bg,C,B,J,D,Ba,i0,W,Gw,iu,hy,ED,DA,LZ,D3,np,kf,JM];exact⟨aa,ak hw,ak C,l',true,_,_,_,ak B,w.le av,aa,fun _=>by rw[Q];rfl,fun h=>by(cases h)⟩
     ·rw[ac AC]at K;have JM: ¬(l'.length:Int)>=(c:Int):=aa
      have Jj:=vo (fun v:Vis=>gP v.c) (fun _=>vb true) (gP d) (vb true) l' fun a ha=>by
       have:=p8.1 hz a ha;simpa using this
      have n1:(X=g+4+18+8+5+4+3)=False:=aI aa;have n2:(X=11)=False:=aI fun h=>by rw[h,LZ]at D;cases D
      have fT':List.take l'.length (dE l')=dE l':=ec (iu l').symm
      have JB: ∀{v:V} {sz:Nat} {rows:List (List V)},ax H2 g v sz rows->ax (updC H2 11 (some (O.map (mapL (fun v:Vis=>gP v.c) (fun _=>vb true) l'++ [(T.str (gP d),vb true)])))) g v sz rows:=fun o=>o.keep (ay _) fun q _ hq=>by
       rw[aq,ac];rintro rfl;exact hq (o.offAt fun rs h=>by rw[LZ]at h;cases h)
      have oL:=JB w.L;have oF:=JB w.F;have oX:=JB w.X;have mx:=w.mx;simp -dsimp only[go_sem,seval,Bg,C,B,J,D,Ba,i0,W,Gw,iu,hy,ED,DA,LZ,D3,np,kf,JM,Jj,n1,n2,fT',ay,aU,aX];refine ce (oL.upd aa _) aa (by rw[iu];omega) aG rfl (OF _) ?_;intro vL2 Qg M7 Nw Q2;have w1:=M7.valOf
      generalize Ma:updC H2 11 (some (O.map (mapL (fun v:Vis=>gP v.c) (fun _=>vb true) l'++ [(T.str (gP d),vb true)])))=H3 at *
      have Qu:H3 11=some (O.map (mapL (fun v:Vis=>gP v.c) (fun _=>vb true) (l'++ [⟨d,i,y⟩]))):=by rw[<- Ma,aq,ah rfl,xT]
      have c1:=M7.cellsV;unfold V.cells at c1
      generalize M8:At (updC H3 (g+4+18+8+5+4+3) (some (O.rows 3 [[V.t (ints d.mem),V.t (ints d.at_),V.t (T.sl (d.buf.map fun b=>[T.sl (b.map Entry.enc)]))]] false))) Qg=L at *
      have Y: ∀q,q<g->aK (.ms X 0 l'.length) q->L q=H3 q:=fun q r m=>by rw[Q2 q aa m,aq,ac aa]
      have E:ax L g P 1 (ai (l'.map Vis.fr)):=oF.keep (ay _) fun q r m=>Y q r ((w.LF q).resolve_right m)
      have oX1:ax L g N 3 (bj (l'.map Vis.x)):=oX.keep (ay _) fun q r m=>Y q r ((w.LX q).resolve_right m)
      have N5:L 11=_:=(Y 11 mx (c8 (fun h=>by rw[h]at n2;simp at n2) _ _)).trans Qu;have w2:=E.valOf;have r2: ∀r m q3 q4 q5 q6 q7 b,rowsS (updC L (g+r+m+q3+q4+q5+q6+q7) b) P=some (ai (l'.map Vis.fr)):=fun r m q3 q4 q5 q6 q7 b=>(E.upd aa b).rowsS
      refine ra w1 c1 C B J w2 r2 Ma M8 ?_;refine ce (E.upd aa _) aa (by rw[aC];simp;omega) aG rfl (eC _) ?_;intro Z Qh Oy Nx CJ;have w3:=Oy.valOf;have c3:=Oy.cellsV;unfold V.cells at c3
      generalize O9:At (updC L (g+4+18+8+5+4+7+3) (some (O.rows 1 [[V.t (T.int IntKind.i64 i)]] false))) Qh=G2 at *
      have kp2: ∀q,q<g->aK P q->G2 q=L q:=fun q r m=>by rw[CJ q aa m,aq,ac aa]
      have A:ax G2 g N 3 (bj (l'.map Vis.x)):=oX1.keep (ay _) fun q r m=>kp2 q r ((w.FX q).resolve_right m)
      have w4:=A.valOf;have r3: ∀r m q3 q4 q5 q6 q7 q8 b,rowsS (updC G2 (g+r+m+q3+q4+q5+q6+q7+q8) b) N=some (bj (l'.map Vis.x)):=fun r m q3 q4 q5 q6 q7 q8 b=>(A.upd aa b).rowsS
      simp -dsimp only[go_sem,seval,w1,c1,w3,c3,C,B,J,Bg,hy,w4,r3,Ma,M8,O9];refine ce (A.upd aa _) aa (by rw[je];simp;omega) aG rfl (pd _) ?_;intro vC2 Qf Ox Nv NH;have w5:=Ox.valOf;have c5:=Ox.cellsV;unfold V.cells at c5;refine sI w1 c1 w3 c3 w5 c5 C B Bg Ma M8 O9 ?_
      generalize Rk:At (updC G2 (g+4+18+8+5+4+7+7+6) (some (O.rows 3 [[V.t (ti y.thread),V.t (ti y.step),V.t (ti y.cell)]] false))) Qf=G3 at *
      have CH: ∀q,¬aK vL2 q->g<=q:=fun q h=>by
       rcases bw q g with U | U
       ·exact absurd (Nw q aa) h
       ·exact U
      have LQ: ∀q,¬aK Z q->g<=q:=fun q h=>by
       rcases bw q g with U | U
       ·exact absurd (Nx q aa) h
       ·exact U
      have ID: ∀z,g+4+18+8+5+4+7+7+8<=z->SeaH G3 z vL2 Z vC2 11 (l'++ [⟨d,i,y⟩]):=fun z hz=>by
       refine⟨?_,?_,?_,?_,aa,fun q=> ?_⟩
       ·rw[LL];refine ax.keep (x:=g+4+18+8+5+4+3+2) (h:=L) M7 aa fun q r m=> ?_
        have:=CH q m;rw[NH q aa (A.off this),aq,ac aa,CJ q aa (E.off this),aq,ac aa]
       ·rw[d6,show List.map Vis.fr [(⟨d,i,y⟩:Vis)]=[(i:Int)]from rfl,fB];refine ax.keep (x:=g+4+18+8+5+4+7+3+2) (h:=G2) Oy aa fun q r m=> ?_
        have:=LQ q m;rw[NH q aa (A.off this),aq,ac aa]
       ·rw[d6,show List.map Vis.x [(⟨d,i,y⟩:Vis)]=[y]from rfl,mw];exact Ox.le aa
       ·have f1:aK P 11:=E.offAt fun rs h=>by rw[N5]at h;cases h
        have g2:G2 11=L 11:=kp2 11 mx f1;have f2:aK N 11:=A.offAt fun rs h=>by rw[g2,N5]at h;cases h
        rw[NH 11 aa f2,aq,ac aa,g2,N5]
       ·rcases bw q (g+4+18+8+5+4+7+7+6)with h | h
        ·exact .inr (Nv q aa)
        ·exact .inl (M7.off aa)
      refine⟨aa,ak BO,ak C,l'++ [⟨d,i,y⟩],vL2,Z,vC2,ak B,by simp -dsimp only[go_sem,seval,Ma,M8,O9,Rk];exact ID _ aa,?_,by rw[zM,gp];omega,fun v' BQ=> ?_,K⟩
      ·rw[bU AV];exact BQ
      ·rcases cz.1 BQ with h | h
       ·exact Ii v' h
       ·rw[bB]at h;subst h;exact hd
      done
    ·rw[Dx]at C6;rw[ah Dx]at K;obtain⟨z,hz⟩:=rL.1 C6;rw[hz]at D3;simp -dsimp only[go_sem,seval,Bg,C,B,J,D,Ba,i0,W,Gw,iu,hy,ED,DA,LZ,D3,cZ,gx];exact⟨aa,ak BO,ak C,l',_,_,_,ak B,w.le av,BQ,CE,Ii,K⟩
   ·have Ba:=aI AN;have:j=cs.length:=aa
    subst this
    have Qc:q=(l',false):=by
     rw[K,G8,oU (by rw[cP];omega)];rfl
    rw[Qc]at Q;refine bT Bg C B J Ba ?_;exact⟨aa,ak hw,ak C,l',false,_,_,_,ak B,w.le av,aa,fun h=>by(cases h),fun _=>⟨by rw[Q,show c+1-(i+1)=c-i by omega];rfl,aa,CE,Ii⟩⟩
  ·have S:=aI Ad
   have Q:j8 p k c=(l,false):=by
    rw[g1]
    cases c+1-i with
    | zero=>rfl
    | succ f=>rw[goX,gq aa]
   rw[Q];simp -dsimp only[go_sem,seval,J,b1,b2,e3,S,fL,fF,fX,cF,cX,fT,ay,iu]
 ·have Q:=De rfl;rw[Q]
  by_cases Ad:i<l.length
  ·have S:=aW Ad;simp -dsimp only[go_sem,seval,J,b1,b2,e3,S,fL,fF,fX,cF,cX,fT,ay,iu]
  ·have S:=aI Ad;simp -dsimp only[go_sem,seval,J,b1,b2,e3,S,fL,fF,fX,cF,cX,fT,ay,iu]
theorem XJ (p:Prog) (i:p.sane) (h:aN p=true) (k:Int) (b:0<=k/\k<=2) (a:Nat) (m:1<=a) (n:a<=20000):Den Γ G 366 [(.agg [.t (.sl ((p).cells.map (Cell.enc))),.t (.sl ((p).modules.map (Contract.enc))),.t (.sl ((p).locks.map (Lock.enc))),.t (.sl ((p).threads.map (Thread.enc)))]),vi k,vi a]=some (vb true):=by
 have j:=wI p i;have g:(dl p).1=0:=by simpa[aN]using h
 have c:k>=0:=b.1;have d:k<=2:=b.2;have e:(a:Int)>=1:=aa
 have f:(a:Int)<=20000:=aa
 exact aD (q:=pv j g c d e f)
theorem Gq (p:Prog) (i:p.sane) (f:aN p=true) (k:Int) (g:0<=k/\k<=2) (a:Nat) (d:1<=a) (e:a<=20000):
 Den Γ G 345 [(zP p),vi k,vi a]=some (match eq p k a with
  | some l=> .tup [.t (.sl (l.map fun v=>Config.enc v.c)),vi 0]
  | none=> .tup [.t (.sl []),vi 2]):=by
 have c:=XJ p i f k g a d e;have b:=XI p i f k g a d e;rw[kc3]
 refine aD (q:=?_)
 cases h:(j8 p k a).2
 ·rw[h]at b;simp -dsimp only[go_sem,seval,c,b,zG,aX]
 ·rw[h]at b;simp -dsimp only[go_sem,seval,c,b,aU]
theorem Xp (p:Prog) (e:p.sane) (c:aN p=true) (k:Int) (d:0<=k/\k<=2):Den Γ G 342 [(zP p),vi k]=some (vb (eq p k 40).isSome):=by
 have a:Den Γ G 345 [(zP p),vi k,vi 40]=_:=Gq p e c k d 40 aa aa
 refine aD (q:=?_)
 cases b:eq p k 40 with
 | none=>
   rw[b]at a
   simp -dsimp only[go_sem,seval,a,mh]
 | some l=>
   rw[b]at a;simp -dsimp only[go_sem,seval,a,qW]
def me (c:Config):List V:=[.t (ints c.mem),.t (ints c.at_),.t (.sl (c.buf.map fun b=>[.sl (b.map Entry.enc)]))]
theorem kcc (c:Config):(Config.enc c).map V.t=me c:=rfl
theorem dj {h:ae} {a b:Nat} {c d:Option O} (f:h a=c) (g:h b=d) (e:c≠d):a≠b:=by
 rintro rfl;exact e (f.symm.trans g)
theorem Yr {H:ae} {n a:Nat} {vL:V} {l:List Vis} (d:Vis) (f:H a=some (.rows 1 [[vL]] false)) (c:ax H n vL 3 (dE l)) (E:a<n) (D:l.length<2^30):
 ∃r h' g,DenR Γ G 376 [.agg (me d.c),.mp a 0 0] H n=some (r,h',g)/\(r=vb false/\ ∃b,h' a=some (.rows 1 [[b]] false)/\ax h' g b 3 (dE (l++[d]))/\n<=g/\(∀j,j<n->aK b j)/\(∀j,j<n->j≠a->aK vL j->h' j=H j)):=by
 unfold me
 refine bO (q:=?_)
 have A:=c.valOf;have B:=c.r2;have y:a≠n+2+2:=aa
 refine a7 f A B ?_;refine ce (c.upd aa _) aa (by rw[iu];omega) aG rfl (OF _) ?_;intro v hp e m i;have C:=e.valOf;have o:=e.cellsV;unfold V.cells at o;have w:aK vL a:=c.offAt fun rs h=>by rw[f]at h;cases h
 have s:=i a aa w;rw[aq,ac y,f]at s;refine a7 C o s ?_;refine⟨rfl,v,am,?_,av,fun j x=>m j aa,fun j x u t=> ?_⟩
 ·rw[LL,kcc];refine ax.keep (h:=At (updC H (n+2+2) (some (O.rows 3 [me d.c] false))) hp) e av fun q F z=> ?_
  have:q≠a:=by
   rintro rfl;exact z (m q aa)
  refine aw this ?_;rfl
 ·refine aw u ?_;rw[i j aa t,aq,ac aa]
def qH (v:Vis):List V:=me v.c++[vi v.fr,vi v.x.thread,vi v.x.step,vi v.x.cell]
def iV (l:List Vis):List (List V):=l.map qH
theorem Qx {l:List Vis} {i:Nat} {v:Vis} (h:l[i]? =some v):(iV l)[i]? =some [.t (ints v.c.mem),.t (ints v.c.at_),.t (.sl (v.c.buf.map fun b=>[.sl (b.map Entry.enc)])),vi v.fr,vi v.x.thread,vi v.x.step,vi v.x.cell]:=by simp[iV,qH,me,h]
theorem my (l:List Vis):(iV l).length=l.length:=by simp[iV]
theorem Zj (l:List Vis):((iV l).all fun r=>decide (r.length=7))=true:=by simp[iV,qH,me]
theorem kcQ {h:ae} {n b s t u v f w i o:Nat} {env:Nat->V} {x1 x2 x3 x4 x5 vL:V} {l lst:List Vis} {d:Vis} (e:h b=some (.loop env [11] jT .ready)) (e3:env 3= .mp s 0 0) (e4:env 4= .mp t 0 0) (e5:env 5= .mp u 0 0)
 (J:h s=some (.rows 1 [[.mp v 0 0]] false)) (K:h t=some (.rows 1 [[vi o]] false)) (L:h u=some (.rows 1 [[.fn 376 [] [.mp f 0 0]]] false)) (M:h v=some (.rows 6 [[x1,x2,x3,x4,x5,.ms w 0 l.length]] false))
 (hV:h w=some (.rows 7 (iV l) false)) (N:l[i]? =some d) (y:h f=some (.rows 1 [[vL]] false)) (oL:ax h n vL 3 (dE lst)) (T:lst.length<2^30)
 (Z:b<n) (b3:s<n) (b4:t<n) (b5:u<n) (bS:v<n) (bV:w<n) (bL:f<n) (hi:(i:Int)≠o):
 ∃h' c,DenY Γ G b [vi i] h n=some (vb true,h',c)/\h' b=some (.loop env [11] jT .ready)/\(∃a,h' f=some (.rows 1 [[a]] false)/\ax h' c a 3 (dE (lst++[d]))/\(∀j,j<n->aK a j))/\n<=c/\
  (∀j,j<n->j≠b->j≠f->aK vL j->h' j=h j):=by
 have:=sx (Γ:=Γ) (G:=G) (vs:=[vi i]) (n:=n) (P:=fun x h' c=>x= .normal/\h' b=some (.loop env [11] jT .busy)/\(∃a,h' f=some (.rows 1 [[a]] false)/\ax h' c a 3 (dE (lst++[d]))/\(∀j,j<n->aK a j))/\n<=c/\
  (∀j,j<n->j≠b->j≠f->aK vL j->h' j=h j)) e rfl (fun x h' c hP=>⟨_,_,_,hP.2.1⟩) (by
  have n3:s≠b:=dj J e af;have n4:t≠b:=dj K e af;have n5:u≠b:=dj L e af;have nS:v≠b:=dj M e af;have nV:w≠b:=dj hV e af;have g:f≠b:=dj y e af;have S:=Qx N;have AV:=(zH.1 N).1;have i0:(0:Int)<=(i:Int):=aa
  have i1:(i:Int)<(l.length:Int):=aa
  simp -dsimp only[go_sem,seval,e3,e4,e5,J,K,L,M,hV,n3,n4,n5,nS,nV,g,hi,S,i0,i1,my];have F:aK vL b:=oL.offAt fun rs h=>by rw[e]at h;cases h
  refine bf (Yr d (l:=lst) (vL:=vL) (by rw[aq,ac g,aq,ac g];exact y) (oL.keep aa fun q B C=>by
   have:q≠b:=by rintro rfl;exact C F
   rw[aq,ac this,aq,ac this]) aa T) ?_
  rintro r h' c ⟨rfl,a,U,W,a3,X,H⟩;have I:=H b aa (bX g) F;rw[aq,ah rfl]at I;refine aA ?_;refine⟨rfl,I,⟨a,U,W,fun j hj=>X j aa⟩,aa,fun j Q m z A=> ?_⟩
  rw[H j aa z A,aq,ac m,aq,ac m])
 obtain⟨x,h',c,⟨rfl,B,⟨a,C,R,D⟩,q4,q5⟩,env',ps',Y,E,q7⟩:=this;rw[B]at E;simp only[zA,O.loop.injEq]at E;obtain⟨rfl,rfl,rfl,_⟩:=E;have g:f≠b:=dj y e af;refine⟨_,c,q7,by rw[aq,ah rfl];rfl,⟨a,by rw[aq,ac g];exact C,?_,D⟩,q4,fun j Q m z A=>by rw[aq,ac m];exact q5 j Q m z A⟩
 exact R.keep (ay _) fun q r1 r2=>by
  have:q≠b:=by rintro rfl;exact r2 (R.offAt fun rs h=>by rw[B]at h;cases h)
  rw[aq,ac this]
theorem kcP {h:ae} {n a r b c i:Nat} {env:Nat->V} {H I:Int} (e:h a=some (.loop env [11] jT .ready)) (v:env 4= .mp r 0 0) (w:env 6= .mp b 0 0) (x:env 7= .mp c 0 0)
 (t:h r=some (.rows 1 [[vi i]] false)) (o:h b=some (.rows 1 [[vi H]] false)) (q:h c=some (.rows 1 [[vi I]] false)) (j:b≠c):
 ∃h' d,DenY Γ G a [vi i] h n=some (vb false,h',d)/\h' a=some (.loop env [11] jT (.done .ret))/\h' b=some (.rows 1 [[vi 0]] false)/\h' c=some (.rows 1 [[vi 2]] false)/\n<=d:=by
 have:=sx (Γ:=Γ) (G:=G) (vs:=[vi i]) (n:=n) (P:=fun m h' d=>m= .ret/\h' a=some (.loop env [11] jT .busy)/\h' b=some (.rows 1 [[vi 0]] false)/\h' c=some (.rows 1 [[vi 2]] false)/\n<=d) e rfl (fun m h' d y=>⟨_,_,_,y.2.1⟩) (by
  have z:r≠a:=dj t e af;have f:b≠a:=dj o e af;have g:c≠a:=dj q e af;refine nK v w x t o q z f g j j.symm ?_
  refine⟨rfl,by simp -dsimp only[go_sem,seval,bX f,bX g];rfl,ak j,am,av⟩)
 obtain⟨m,h',d,⟨rfl,B,C,D,E⟩,env',A,u,s,F⟩:=this;rw[B]at s;simp only[zA,O.loop.injEq]at s;obtain⟨rfl,rfl,rfl,_⟩:=s;have f:b≠a:=dj o e af;have g:c≠a:=dj q e af;exact⟨_,d,F,by rw[aq,ah rfl];rfl,by rw[aq,ac f];exact C,by rw[aq,ac g];exact D,E⟩
def wl (l:List Int):List (List UInt8):=l.map num++[[59]]
theorem OB {h:ae} {x c:Nat} {v:V} {ws:List (List UInt8)} (d:ax h x v 1 (eV ws)) (f:h c=some (.rows 1 [[v]] false)):aK v c:=by
 rcases d with⟨rfl,_⟩ | ⟨k,rfl,g,b⟩
 ·intro i n e;cases e
 ·intro i n e;simp only[V.ms.injEq]at e;obtain⟨rfl,_,_⟩:=e;rw[f]at b;simp only[zA,O.rows.injEq,nN,nt]at b
  cases ws with
  | nil=>simp[eV]at b
  | cons a l=>simp[eV]at b
theorem tC {H:ae} {n b:Nat} {D:V} {ws:List (List UInt8)} {d:List Int} (N:H b=some (.rows 1 [[D]] false)) (P:ax H n D 1 (eV ws)) (Y:b<n) (X:ws.length+d.length<2^30) (hi: ∀z∈d,inI z):
 ∃r h' B,DenR Γ G 387 [.t (ints d),.mp b 0 0] H n=some (r,h',B)/\(∃a,h' b=some (.rows 1 [[a]] false)/\ax h' B a 1 (eV (ws++wl d))/\n<=B):=by
 refine bO (q:=aA ?_);refine aS 130960 d.length (fun i f h x=>(f 7).v=vi i/\ ∃a,h b=some (.rows 1 [[a]] false)/\ax h x a 1 (eV (ws++(d.take i).map num))/\n<=x) rfl ⟨am,D,ak N,by simp -dsimp only[go_sem,seval,fy,bc,bW];exact P.le (by simp[nB]),by simp[nB]⟩ ?_;rintro i f u h x bs U ⟨s,a,j,c,W⟩;have Q:=aB i aa;have J:=c.valOf;have F:=OB c j;have K:=c.r2;have S:=c.r3
 by_cases w:i<d.length
 ·have y:=aW w;obtain⟨z,I,M⟩:=au w;have L:=kbi z (hi z M);have m:b≠x+1+3+3:=aa
  refine dG s y I L j J S ?_;refine ce (c.upd aa _) aa (by rw[xX];simp;omega) aG rfl (xZ _) ?_;intro v hp e A t;have E:=e.valOf;have g:=t b aa F;rw[aq,ac m,j]at g;have o:=e.cellsV;unfold V.cells at o;refine bN E o g s ?_;refine⟨aa,ak Q,v,bg m g,?_,av⟩;refine aA ?_;rw[a_ I,d6,<- zQ,xY];refine ax.keep (h:=At (updC h (x+1+3+3) (some (O.rows 1 [[V.t (T.str (Rg.bs (num z)))]] false))) hp) e aa fun q R C=> ?_
  have:q≠b:=by
   rintro rfl;exact C (A q aa)
  exact ak this
 ·have y:=aI w;have:i=d.length:=aa
  subst this;rw[be]at c;have K:=c.r2;have m:b≠x+1+1:=aa
  refine de s y j J K c.r1 ?_;refine ce (c.upd aa _) aa (by rw[xX];simp;omega) aG rfl (xZ _) ?_;intro v hp e A t;have E:=e.valOf;have g:=t b aa F;rw[aq,ac m,j]at g;have o:=e.cellsV;unfold V.cells at o;refine bN E o g s ?_;refine⟨v,bg m g,?_,av⟩;refine aA ?_;rw[wl,<- zQ,xY];refine ax.keep (h:=At (updC h (x+1+1) (some (O.rows 1 [[V.t (T.str (Rg.bs [59]))]] false))) hp) e aa fun q R C=> ?_
  have:q≠b:=by
   rintro rfl;exact C (A q aa)
  exact ak this
end Rg
end

/- Part of the proof of laws of relyguardlaw36. No condition. -/
import Derived.Test.YtaiokglcgiemnaaGreatDoorEartAR
import Derived.Test.YtaiokglcgiemnaaGreatDoorEartAP
import Derived.Test.YtaiokglcgiemnaaGreatDoorEartAO
set_option linter.unusedSimpArgs false
set_option linter.unusedVariables false
set_option linter.defProp false
section
namespace Rg
open Go
theorem Lz {α:Type} {l:List α} {i i0:Nat} {a:α} (h:l[i]? =some a):(l.take (i+1)).eraseIdx i0=if i=i0 then(l.take i).eraseIdx i0 else(l.take i).eraseIdx i0++[a]:=by
 have b:(l.take i).length=i:=by rw[bJ];have:=(zH.1 h).1;omega
 rw[bc h];split
 ·rename_i e;subst e;rw[List.eraseIdx_append_of_length_le aa,b,dA,zY (l:=List.take i l) aa];simp
 ·rename_i e;rcases bv i i0 with c | c
  ·rw[zY (by rw[zM,b,fN];omega),zY aa]
  ·rw[List.eraseIdx_append_of_lt_length aa]
theorem Ww (p:Prog) (hf:aO p=true) (c:Config) (Z:IsB p c) (t:Nat) (ht:t<p.threads.length) (i0:Nat) (e:Entry) (he:(aF c t)[i0]? =some e)
 (DF: ∀(j:Nat) (f:Entry),j<i0->(aF c t)[j]? =some f->cg f≠cg e):
 Den Γ G 355 [(.agg [.t (ints (c).mem),.t (ints (c).at_),.t (.sl ((c).buf.map (fun b=>[.sl (b.map Entry.enc)])))]),vi t,vi (cg e)]=some (.agg [.t (ints (c9 c t i0).mem),.t (ints (c9 c t i0).at_),.t (.sl ((c9 c t i0).buf.map (fun b=>[.sl (b.map Entry.enc)])))]):=by
 obtain⟨⟨m1,m2,m3,m4⟩,_⟩:=cO (cP hf).1;have By:=(mj hf).1;have l1:=Z.lm;have l2:=Z.la;have l3:=Z.lb;have Ag:=fx (c:=c) (t:=t) aa;obtain⟨b1,b2,_⟩:=Z.buf t _ Ag;have AV:=(zH.1 he).1;have X:=b2 e (zL he)
 refine aD (q:=ax ?_);refine bf (MN p hf c Z _) ?_;rintro r h' s ⟨vM,vA,m,rfl,x1,x2,bd,vs,hM,hA,CK,AT,AF,hB,F,H8⟩;obtain⟨Kg,BI⟩:=hM.val;obtain⟨Bu,Bi⟩:=hA.val;obtain⟨v,hv,rows,B1,Bb,BC,Bh⟩:=F.at_ t _ Ag;have OM:=F.le (q:=0) (r:=t) aa aa;have OL:=F.le (q:=t+1) (r:=c.buf.length) aa (aA _);rcases B1 with⟨rfl,h0⟩ | ⟨kb,rfl,b3,b4,b5⟩
 ·exfalso;rw[h0]at Bb;simp at Bb;omega
 unfold V.cells at BI Bi;have t0:(0:Int)<=(t:Int):=aa
 have t1:(t:Int)<(c.buf.length:Int):=aa
 refine bw Kg BI Bu Bi ?_
 refine aS 2251799813672832 rows.length (fun i f h z=>(f 10).v=vi i/\(f 9).v=vb (decide (i0<i))/\(f 7).v= .lb/\(f 7).box=some [if i0<i then .t (ints (dY c.mem e))else vM,vA,.ms m 0 c.buf.length]/\
  ay h z (f 8).v 2 ((rows.take i).eraseIdx i0)/\(∀q,q<s->noF (h q)=noF (h' q)/\aK (f 8).v q)/\h m=some (.rows 1 vs false)/\s<=z) rfl
  ⟨am,by simp -dsimp only[go_sem,seval,sO,pN],am,by simp -dsimp only[go_sem,seval,sO,aX],.inl ⟨am,af⟩,fun q x=>⟨am,by simp -dsimp only[go_sem,seval];intro i n h;cases h⟩,al hB,av⟩ ?_
 rintro i f u H z bs hi ⟨R,J,I,D,E,y,S,hz⟩;have hw:=aC i aa;obtain⟨fb,Do⟩: ∃K,H kb=some (.rows 2 rows K):=pC (by rw[(y kb aa).1,b5])
 by_cases Ad:i<rows.length
 ·have W:=aW Ad;obtain⟨g,hg,Ku⟩:=aw (show i<(aF c t).length from aa);obtain⟨r,C,U,kv,rfl,a1,a2,a3,a4,a5,a6⟩:=Bh i g hg;have OY:=b2 g Ku;obtain⟨fc,DO⟩: ∃K,H U=some (.rows 1 (ai g.cells) K):=pC (by rw[(y U aa).1,a5]);obtain⟨fv,Eh⟩: ∃K,H kv=some (.rows 1 (ai g.values) K):=pC (by rw[(y kv aa).1,a6])
  have CM:(ai g.cells)[0]? =some [vi (cg g)]:=by
   have:=OY.ne
   cases AL:g.cells with
   | nil=>exact absurd AL this
   | cons n l=>simp[cg,AL,ai]
  have LK:(0:Int)<(g.cells.length:Int):=by
   have:=wg.2 OY.ne;omega
  have N:(0:Int)<=(i:Int):=aa
  have P:(i:Int)<(rows.length:Int):=aa
  by_cases Ks:i=i0
  ·subst Ks;rw[he]at hg;cases hg;have T:decide (i<i)=false:=af
   rw[T]at J;rw[ac (lr i)]at D
   have Y:toT H 1000=toT (fun q=>if q<s then h' q else H q) 1000:=funext (RF (fun q=>by
    show noF (H q)=noF (if q<s then h' q else H q);split
    ·exact(y q ‹_›).1
    ·rfl) 1000)
   have QV:toT1 H vM=some (.t (ints c.mem)):=by
    have L:=(hM.keep (h':=fun q=>if q<s then h' q else H q) fun q q1 q2=>by rw[ah aa]).tree 999;rw[<- Y]at L;rcases hM with⟨rfl,_⟩ | ⟨k,rfl,_⟩<;>simp only[toT1,L,cU]
   have QP:toT1 H (.agg [.ms U 0 e.cells.length,.ms kv 0 e.values.length])=some (.agg [.t (ints e.cells),.t (ints e.values)]):=by
    have hE:mX h' (bd t) (bd (t+1)) [.ms U 0 e.cells.length,.ms kv 0 e.values.length] e:=⟨U,kv,rfl,a1,a2,a3,a4,a5,a6⟩
    have L:=(hE.keep (h':=fun q=>if q<s then h' q else H q) (aA _) (aA _) fun q q1 q2 _=>by rw[ah aa]).tree 999;rw[<- Y]at L;simp only[toT1,L];rfl
   have Gy:=LY c.mem e aa X.len (fun n hn=>by have:=lA X hn;omega) (by obtain⟨n,hn⟩:=Fa _ X.ne;have:=(lA X hn).2.1;omega) (by have:=gQ X;omega)
   have hL: ∀k∈[vM,.agg [.ms U 0 e.cells.length,.ms kv 0 e.values.length]].flatMap (bU H),k<s/\k≠m:=by
    intro k B;simp only[dq,fK,bQ,cx]at B;rcases B with B | B
    ·rcases hM with⟨rfl,_⟩ | ⟨kM,rfl,g1,g2,g3⟩
     ·simp[bU,bZ]at B
     ·obtain⟨fm,GL⟩: ∃K,H kM=some (.rows 1 (ai c.mem) K):=pC (by rw[(y kM aa).1,g3]);rw[show bU H (.ms kM 0 (ai c.mem).length)=[kM]from wy (d:=999) (i:=0) (n:=(ai c.mem).length) GL]at B;simp at B;subst B;omega
    ·simp only[bU,dq,fK,bQ,wy (d:=999) DO,wy (d:=999) Eh]at B;simp at B;rcases B with rfl | rfl<;>omega
   simp -dsimp only[go_sem,seval,R,J,I,D,S,hv,t0,t1,Do,W,N,P,C,DO,CM,LK,Kg,↓QV,↓QP,Gy];refine kam fun H' Fj Fh=> ?_
   refine aY R I D ?_;have OE:H' m=some (.rows 1 vs false):=by rw[Fh m fun h=>(hL m h).2 rfl];exact S
   refine⟨aa,al hw,by simp -dsimp only[go_sem,seval,vl,lx],al I,by simp -dsimp only[go_sem,seval,D,vl,aU],?_,fun q x=>⟨by simp -dsimp only[go_sem,seval,Fj];exact(y q x).1,by simp -dsimp only[go_sem,seval];exact(y q x).2⟩,al OE,av⟩;rw[Lz C,ah rfl];refine ax ?_;refine E.keep aa fun k k1 k2=>Fh k fun h=>k2 (y k (hL k h).1).2
  ·have Q8: ∀(α:Type) (a b:α),(if i0<i+1 then a else b)=if i0<i then a else b:=fun α a b=>by
    rcases bv i0 i with A | A
    ·rw[ah A,ah aa]
    ·rw[ac aa,ac aa]
   have IB:decide (i0<i+1)=decide (i0<i):=by
    rcases bv i0 i with A | A
    ·rw[ql A,ql aa]
    ·rw[nk aa,nk aa]
   have QO:(((rows.take i).eraseIdx i0).all fun r=>decide (r.length=2))=true:=zN.2 fun r C=>ak (BC r (lq (vQ C)))
   have BX:((rows.take i).eraseIdx i0).length<2^32:=by
    have:=FC (rows.take i) i0;rw[bJ]at this;omega
   have v1:=E.valOf;have v4:=E.r4
   rcases(show(decide (i0<i)=false/\cg g≠cg e)\/decide (i0<i)=true by
    rcases bv i i0 with A | A
    ·exact .inl ⟨by simp;omega,DF i g A hg⟩
    ·exact .inr (by simp;omega))with⟨T,Az⟩ | T
   case' inl=>
    rw[T]at J;simp -dsimp only[go_sem,seval,R,J,I,D,S,hv,t0,t1,Do,W,N,P,C,DO,CM,LK,Az,v1,v4]
   case' inr=>
    rw[T]at J;simp -dsimp only[go_sem,seval,R,J,I,D,S,hv,t0,t1,Do,W,N,P,C,v1,v4]
   all_goals
    refine bX (E.upd aa _) aa BX aI rfl QO ?_;intro v2 hp hO Bp Aq;have w1:=hO.valOf;have C6:=Lz (i0:=i0) C;rw[ac Ks]at C6;rw[<- C6]at hO;refine bw w1 R I D ?_;refine⟨aa,al hw,dp J IB T,al I,a_ D Q8,by simp -dsimp only[go_sem,seval];exact hO.le aa,fun q x=>⟨?_,by simp -dsimp only[go_sem,seval];exact Bp q aa⟩,?_,av⟩
    ·refine ax ?_;rw[Aq q aa (y q x).2,aq,ac aa];exact(y q x).1
    ·refine ax ?_;rw[Aq m aa (y m aa).2,aq,ac aa];exact S
 ·have W:=aJ Ad;have:i=rows.length:=aa
  subst this;rw[bg]at E;rw[ah aa]at D;have v1:=E.valOf;have HP: ∀q,q<s->aK (f 8).v q:=fun q x=>(y q x).2
  have Qp: ∀q,q<s->noF (H q)=noF (h' q):=fun q x=>(y q x).1
  have Mv:=E.cellsV;unfold V.cells at Mv
  generalize hl:(f 8).v=l at *
  have hC:c9 c t i0=⟨dY c.mem e,c.at_,c.buf.set t ((aF c t).eraseIdx i0)⟩:=by simp only[c9,he]
  have Y: ∀(o:Option O) (d:Nat),toT (updC H m o) d=toT (fun q=>if q<s/\q≠m then h' q else updC H m o q) d:=fun o d=>funext (RF (fun q=>by
   show noF (updC H m o q)=noF (if q<s/\q≠m then h' q else updC H m o q);split
   ·rename_i h;rw[aq,ac h.2];exact Qp q h.1
   ·rfl) d)
  have AQ: ∀(o:Option O) q,q<s->q≠m->(fun q=>if q<s/\q≠m then h' q else updC H m o q) q=h' q:=fun o q q1 q2=>by
   show(if q<s/\q≠m then h' q else updC H m o q)=h' q;rw[ah ⟨q1,q2⟩]
  have f4: ∀o:Option O,toT (updC H m o) 1000 vA=some (ints c.at_):=fun o=>by
   rw[Y];exact(hA.keep fun q q1 q2=>AQ o q aa aa).tree 999
  have f5: ∀v,(vs.set t [v]).length=c.buf.length:=fun v=>by rw[cG];exact F.len
  have f6: ∀v,List.take c.buf.length (vs.set t [v])=vs.set t [v]:=fun v=>d7 (f5 v).symm
  have f7: ∀o:Option O,(vs.set t [l]).mapM (fun row=>row.mapM (toT (updC H m o) 999))=some ((c.buf.set t ((aF c t).eraseIdx i0)).map fun b=>[.sl (b.map Entry.enc)]):=by
   intro o;rw[Y];refine nQ _ _ (by rw[f5,cG]) fun j b M=> ?_
   rw[cH]at M
   by_cases hj:t=j
   ·subst hj;rw[ah rfl,ah aa]at M;simp only[zA]at M;subst M;refine⟨_,by rw[cH,ah rfl,ah (by have:=F.len;omega)],?_⟩;refine hJ.tree (lo:=0) (hi:=s+z) ⟨rows.eraseIdx i0,?_,by rw[pq aa,pq AV,Bb],fun r C=>BC r (vQ C),fun q e0 x=> ?_⟩ 997
    ·rcases E with h | ⟨Q,rfl,h2,L⟩
     ·exact .inl h
     ·have Mw: ¬Q<s:=fun h=>HP Q h 0 _ rfl
      refine .inr ⟨Q,rfl,aa,aa,?_⟩;show(if Q<s/\Q≠m then h' Q else updC H m o Q)=_;rw[ac fun h=>Mw h.1,aq,ac aa];exact L
    ·rw[FJ]at x⊢
     have key: ∀q',(aF c t)[q']? =some e0-> ∃r:List V,rows[q']? =some r/\mX (fun q=>if q<s/\q≠m then h' q else updC H m o q) 0 (s+z) r e0:=fun q' Eu=>by
      obtain⟨r,C,hE⟩:=Bh q' e0 Eu;exact⟨r,C,hE.keep (pm _) aa fun w w1 w2 _=>AQ o w aa aa⟩
     split at x
     ·rename_i A;rw[ah A];exact key _ x
     ·rename_i A;rw[ac A];exact key _ x
   ·rw[ac hj]at M;obtain⟨u,hu,Hn⟩:=F.at_ j b M;have AN:=(zH.1 M).1;have u1:=F.le (q:=0) (r:=j) aa aa;have u2:=F.le (q:=j+1) (r:=c.buf.length) aa (aA _);exact⟨u,by rw[cH,ac hj];exact hu,(Hn.keep (aA _) fun q q1 q2=>AQ o q aa aa).tree 997⟩
  rw[hC];simp -dsimp only[go_sem,seval,R,J,I,D,S,hv,t0,t1,Do,W,v1,hl,Mv,Bu,Bi,f4,f5,f6,f7,iB,aA]
theorem Yc {p:Prog} {k:Int} {c:Config} (b:IsK p k c) {t:Nat} {s:Step} (h:k=0\/s.kind≠3):
 mT p k c t s=⟨bm c.mem (aM c t) s.set,if s.kind=6 then(c.at_.set t s.to).set s.target.toNat 0 else c.at_.set t s.to,c.buf⟩:=by
 unfold mT;split
 ·rename_i a;have d:=b.q a;rw[K4 d,Yf b.b.lb d];rfl
 ·rename_i a;have e:s.kind≠3:=h.resolve_left a;simp only[eg,ac e]
theorem Y3 (p:Prog) (hs:p.sane) (R:aO p=true) (k:Int) (hk:0<=k/\k<=2) (c:Config) (D:IsK p k c) (y:Choice) (hy:y∈c_ p k c):
 Den Γ G 340 [(zP p),vi k,(.agg [.t (ints (c).mem),.t (ints (c).at_),.t (.sl ((c).buf.map (fun b=>[.sl (b.map Entry.enc)])))]),(.agg [.t (ti (y).thread),.t (ti (y).step),.t (ti (y).cell)])]=some (.tup [(.agg [.t (ints ((dy p k c y).1).mem),.t (ints ((dy p k c y).1).at_),.t (.sl (((dy p k c y).1).buf.map (fun b=>[.sl (b.map Entry.enc)])))]),vi 0]):=by
 have AJ:=Mt p hs R k hk c D;have Ch:=Hv p hs R k hk c D;have JH:=kbA (c_ p k c) y (by have:=tY R (k:=k) D.b;rw[q9 D];omega);rw[(Q9 _ _).2 hy]at JH;obtain⟨⟨m1,m2,m3,m4⟩,_⟩:=cO (cP R).1;have l1:=D.b.lm;have l2:=D.b.la;have l3:=D.b.lb;rcases Z3 R D hy with⟨t,x,i,s,hx,AE,he,rfl,hn,hd⟩ | ⟨CK,t,i,e,ht,hi,ho,rfl,hn,hd⟩
 ·rw[hn];have Bm:=mi R hx AE;have ht:t<p.threads.length:=(zH.1 hx).1;have E8:=xU Bm.set
  have BI: ∀a∈s.set,0<=a.cell/\a.cell<c.mem.length:=fun a ha=>by
   have:=(Bm.rng.2 a ha).1;simp only[inR,aR]at this;omega
  have C5:=Jk p R c D.b t ht;have ineg: ¬(i:Int)<0:=aa
  refine aD (q:=cw AJ Ch JH hx AE ineg ?_);refine bf (MN p R c D.b _) ?_;rintro r h' S ⟨vM,vA,F,rfl,x1,x2,bd,vs,hM,hA,CK,AT,AF,hB,C,H8⟩;obtain⟨Bu,X⟩:=hM.val;rcases hA with⟨_,Q⟩ | ⟨M,rfl,a1,a2,a3⟩
  ·exfalso;have d:=bz List.length Q;rw[aB]at d;simp at d;rw[d]at l2;simp at l2;omega
  unfold V.cells at X;have Om:=C.le (q:=0) (r:=c.buf.length) aa (aA _);have B5:=gt (l:=c.at_) (i:=t) aa;have KE:=dR c.at_ t s.to;have Ad:(t:Int)<(c.at_.length:Int):=aa
  have t0:(0:Int)<=(t:Int):=aa
  have M9:M≠F:=aa
  have Hm:F≠M:=aa
  generalize Y:(if s.kind=6 then(c.at_.set t s.to).set s.target.toNat 0 else c.at_.set t s.to)=P
  have FH:P.length=c.at_.length:=by rw[<- Y];split<;>simp
  by_cases BL:k=0\/s.kind≠3
  ·have hE:=Yc D (t:=t) (s:=s) BL;rw[Y]at hE;have Mn:=XW c.mem (aM c t) s.set aa aa BI;have f2:(ai P).length=c.at_.length:=by rw[aB,FH]
   have f3:List.take c.at_.length (ai P)=ai P:=d7 f2.symm;have L:vs.length=c.buf.length:=C.len;have f6:List.take c.buf.length vs=vs:=d7 L.symm
   have f7: ∀o:Option O,vs.mapM (fun row=>row.mapM (toT (updC h' M o) 999))=some (c.buf.map fun b=>[.sl (b.map Entry.enc)]):=fun o=>
    nQ _ _ L fun q b A=>by
     obtain⟨u,hu,OD⟩:=C.at_ q b A;have Ed:=(zH.1 A).1;have u1:=C.le (q:=0) (r:=q) aa aa;exact⟨u,hu,(OD.keep (aA _) fun z z1 z2=>by rw[aq,ac aa]).tree 997⟩
   rw[hE];refine qR Bu X a3 B5 Ad t0 KE @aB ?_
   by_cases h6:s.kind=6
   ·obtain⟨I,_⟩:=Bm.tgt (.inl h6);simp only[inR,aR]at I;have B:s.target<(c.at_.length:Int):=aa
    have g:=I.1;have GQ:=gt (l:=c.at_.set t s.to) (i:=s.target.toNat) (by simp;omega);have Gs:=dR (c.at_.set t s.to) s.target.toNat 0;rw[ah h6]at Y;subst Y;simp -dsimp only[go_sem,seval,h6,Bu,X,B,g,GQ,Gs,aB,cG,C5,Mn,Hm,hB,uj,f2,f3,L,f6,f7,gS,aA]
   ·rw[ac h6]at Y;subst Y;rcases BL with CK | W
    ·by_cases W:s.kind=3
     ·simp -dsimp only[go_sem,seval,CK,W,Bu,X,aB,cG,C5,Mn,Hm,hB,f2,f3,L,f6,f7,gS,aA]
     ·simp -dsimp only[go_sem,seval,h6,CK,W,Bu,X,aB,cG,C5,Mn,Hm,hB,f2,f3,L,f6,f7,gS,aA]
    ·simp -dsimp only[go_sem,seval,h6,W,Bu,X,aB,cG,C5,Mn,Hm,hB,f2,f3,L,f6,f7,gS,aA]
  ·have CK: ¬k=0:=fun h=>BL (.inl h)
   have W:s.kind=3:=Decidable.of_not_not fun h=>BL (.inr h)
   have k6: ¬s.kind=6:=aa
   rw[ac k6]at Y;subst Y;refine kT Bu X a3 B5 Ad t0 KE @aB W CK C5 ?_
   have hE:mT p k c t s=⟨bm c.mem (aM c t) (s.set.filter fun a=> !a8 p a),c.at_.set t s.to,c.buf.set t (aF c t++[mB p (aM c t) s.set])⟩:=by
    unfold mT;rw[ac CK];simp only[eg,ah W,ac k6]
   refine aS 2722258935367352965202086186919783424000 s.set.length (fun j f h z=>(f 14).v=vi j/\(f 13).v= .lb/\ ∃U vv,(f 13).box=some [U,vv]/\Gh h S z U vv (((s.set.take j).filter (a8 p)).map Assign.cell) (((s.set.take j).filter (a8 p)).map fun a=>a.to.eval (aM c t) (aM c t))/\
    jL h 0 x1 vM (ai (bm c.mem (aM c t) ((s.set.take j).filter fun a=> !a8 p a)))/\(∀q,x1<=q->q<S->h q=if q=M then some (O.rows 1 (ai (c.at_.set t s.to)) false)else h' q)/\S<=z) rfl
    ⟨am,am,.t .nils,.t .nils,am,.inl ⟨rfl,rfl,rfl,rfl⟩,hM.keep fun q B g=>by simp -dsimp only[go_sem,seval];rw[ac aa],fun q _ _=>am,av⟩ ?_
   rintro j f u H z bs hj ⟨E2,Z,U,vv,FK,N,F7,AG,hz⟩;have hw:=aC j aa
   by_cases N9:j<s.set.length
   ·have HU:=aW N9;obtain⟨a,ha,Cp⟩:=aw N9;obtain⟨c0,c1⟩:=BI a Cp;obtain⟨y,hy,_⟩:=Bm.wid a Cp;have Ak:=xp a.to (aM c t) (aM c t);have Bo:a8 p a=decide (y.thread= -1):=by rw[a8,ff hy]
    by_cases Gj:y.thread= -1
    ·have Ff:a8 p a=true:=by rw[Bo];simpa using Gj
     have Fc:Rg.valOf U=some U:=by rcases N with⟨rfl,_⟩ | ⟨_,_,rfl,_⟩<;>rfl
     have Bs:Rg.valOf vv=some vv:=by rcases N with⟨_,rfl,_⟩ | ⟨_,_,_,rfl,_⟩<;>rfl
     generalize AL:((s.set.take j).filter (a8 p)).map Assign.cell=cs at *
     generalize Fy:(((s.set.take j).filter (a8 p)).map fun a=>a.to.eval (aM c t) (aM c t))=ws at *
     have By:cs.length<=32:=by
      rw[<- AL,cL];have:=kf (a8 p) (s.set.take j);rw[bJ]at this;omega
     have Er:ws.length<=32:=by
      rw[<- Fy,cL];have:=kf (a8 p) (s.set.take j);rw[bJ]at this;omega
     have G9: ∀q,(q<S\/z<=q)->aK U q:=fun q A=>by
      rcases N with⟨rfl,_⟩ | ⟨m,kv,rfl,_,e1,e2,_⟩
      ·intro i n Q;cases Q
      ·exact cV aa _ _
     have AM: ∀q,(q<S\/z<=q)->aK vv q:=fun q A=>by
      rcases N with⟨_,rfl,_⟩ | ⟨m,kv,_,rfl,_,_,e1,e2,_⟩
      ·intro i n Q;cases Q
      ·exact cV aa _ _
     have KX:ay (updC H (z+5+7+6+8+4) (some (O.rows 1 [[V.t (ti a.cell)]] false))) (z+5+7+6+8+5) U 1 (ai cs):=by
      rcases N with⟨rfl,_,rfl,_⟩ | ⟨m,kv,rfl,_,e1,e2,e3,e4,e5,e6,e7⟩
      ·exact .inl ⟨rfl,rfl⟩
      ·exact .inr ⟨m,rfl,aa,by rw[aq,ac aa];exact e6⟩
     have Iy:=KX.rowsS;refine kT E2 Z FK HU ha Ak c0 hy Gj Fc Iy ?_;refine bX KX (aA _) (by rw[aB];omega) aI rfl (eu _) ?_;intro v1 DN O0 Jq J3;rcases O0 with⟨_,CY⟩ | ⟨k1,rfl,NK,J9⟩
     ·simp at CY
     have NJ:z+5+7+6+8+5<=k1:=by
      rcases bv k1 (z+5+7+6+8+5)with d | d
      ·exact absurd rfl (Jq k1 d 0 _)
      ·exact d
     have G5: ∀q,q<z->aK U q->At (updC H (z+5+7+6+8+4) (some (O.rows 1 [[V.t (ti a.cell)]] false))) DN q=H q:=fun q B g=>by
      rw[J3 q aa g,aq,ac aa]
     have GB:ay (updC (At (updC H (z+5+7+6+8+4) (some (O.rows 1 [[V.t (ti a.cell)]] false))) DN) (z+5+7+6+8+8+3) (some (O.rows 1 [[V.t (T.int IntKind.i64 (a.to.eval (aM c t) (aM c t)))]] false))) (z+5+7+6+8+8+4) vv 1 (ai ws):=by
      rcases N with⟨_,rfl,_,rfl⟩ | ⟨m,kv,rfl,rfl,e1,e2,e3,e4,e5,e6,e7⟩
      ·exact .inl ⟨rfl,rfl⟩
      ·exact .inr ⟨kv,rfl,aa,by rw[aq,ac aa,G5 kv e4 (cV aa _ _)];exact e7⟩
     have DY:=GB.rowsS;refine bG E2 Z FK Bs DY ?_;refine bX GB (aA _) (by rw[aB];omega) aI rfl (eu _) ?_;intro v2 D0 Cz Jp GK;rcases Cz with⟨_,CY⟩ | ⟨E,rfl,HW,C4⟩
     ·simp at CY
     have FA:z+5+7+6+8+8+4<=E:=by
      rcases bv E (z+5+7+6+8+8+4)with d | d
      ·exact absurd rfl (Jp E d 0 _)
      ·exact d
     have G4: ∀q,q<S->At (updC (At (updC H (z+5+7+6+8+4) (some (O.rows 1 [[V.t (ti a.cell)]] false))) DN) (z+5+7+6+8+8+3) (some (O.rows 1 [[V.t (T.int IntKind.i64 (a.to.eval (aM c t) (aM c t)))]] false))) D0 q=H q:=fun q A=>by
      rw[GK q aa (AM q (.inl A)),aq,ac aa,G5 q aa (G9 q (.inl A))]
     have JA:At (updC (At (updC H (z+5+7+6+8+4) (some (O.rows 1 [[V.t (ti a.cell)]] false))) DN) (z+5+7+6+8+8+3) (some (O.rows 1 [[V.t (T.int IntKind.i64 (a.to.eval (aM c t) (aM c t)))]] false))) D0 k1=some (.rows 1 (ai cs++[[V.t (ti a.cell)]]) false):=by
      rw[GK k1 aa (AM k1 (.inr aa)),aq,ac aa];exact J9
     have CW:(s.set.take (j+1)).filter (a8 p)=(s.set.take j).filter (a8 p)++[a]:=by
      rw[bc ha,ix];simp[Ff]
     have Ax:((s.set.take (j+1)).filter fun a=> !a8 p a)=(s.set.take j).filter fun a=> !a8 p a:=by
      rw[bc ha,ix];simp[Ff]
     refine aG E2 Z ?_;refine⟨aa,al hw,al Z,.ms k1 0 (ai cs++[[V.t (ti a.cell)]]).length,.ms E 0 (ai ws++[[V.t (T.int IntKind.i64 (a.to.eval (aM c t) (aM c t)))]]).length,al FK,?_,?_,?_,av⟩
     ·rw[CW,dZ,dZ,AL,Fy];refine .inr ⟨k1,E,by rw[<- fw];rfl,by rw[<- fw];rfl,aa,av,aa,av,aa,?_,?_⟩
      ·refine ax ?_;rw[JA,<- fw]
      ·refine ax ?_;rw[C4,<- fw]
     ·rw[Ax];exact F7.keep fun q B g=>by simp -dsimp only[go_sem,seval];exact G4 q aa
     ·intro q B g;refine ax ?_;rw[G4 q g];exact AG q B g
    ·have Ff:a8 p a=false:=by rw[Bo];simpa using Gj
     have Ac:(bm c.mem (aM c t) ((s.set.take j).filter fun a=> !a8 p a)).length=c.mem.length:=iz (aM c t) _ c.mem
     have CW:(s.set.take (j+1)).filter (a8 p)=(s.set.take j).filter (a8 p):=by
      rw[bc ha,ix];simp[Ff]
     have Ax:((s.set.take (j+1)).filter fun a=> !a8 p a)=((s.set.take j).filter fun a=> !a8 p a)++[a]:=by
      rw[bc ha,ix];simp[Ff]
     rcases F7 with⟨_,Q⟩ | ⟨kM,rfl,m5,m6,m7⟩
     ·exfalso;have d:=bz List.length Q;rw[aB,Ac]at d;simp at d;rw[d]at c1;simp at c1;omega
     have B5:=gt (l:=bm c.mem (aM c t) ((s.set.take j).filter fun a=> !a8 p a)) (i:=a.cell.toNat) aa;have AE:=dR (bm c.mem (aM c t) ((s.set.take j).filter fun a=> !a8 p a)) a.cell.toNat (a.to.eval (aM c t) (aM c t))
     have Fy:bm c.mem (aM c t) (((s.set.take j).filter fun a=> !a8 p a)++[a])=(bm c.mem (aM c t) ((s.set.take j).filter fun a=> !a8 p a)).set a.cell.toNat (a.to.eval (aM c t) (aM c t)):=by
      unfold bm;rw[iy];rfl
     rw[<- Fy]at AE;have C7:(ai (bm c.mem (aM c t) ((s.set.take j).filter fun a=> !a8 p a))).length=c.mem.length:=by rw[aB,Ac]
     have D9:(ai (bm c.mem (aM c t) (((s.set.take j).filter fun a=> !a8 p a)++[a]))).length=c.mem.length:=by rw[aB,iz]
     simp -dsimp only[go_sem,seval,E2,Z,HU,ha,Ak,hy,Gj,C7,c0,c1,m7,B5,AE];refine⟨aa,al hw,al Z,U,vv,al FK,?_,?_,?_,av⟩
     ·rw[CW];rcases N with d | ⟨m,kv,e0,e0',e1,e2,e3,e4,e5,e6,e7⟩
      ·exact .inl d
      ·have u1:m≠kM:=aa
       have u2:kv≠kM:=aa
       exact .inr ⟨m,kv,e0,e0',e1,av,e3,av,e5,a_ u1 e6,a_ u2 e7⟩
     ·rw[Ax];exact .inr ⟨kM,by rw[D9,C7],m5,m6,am⟩
     ·intro q B g;have u1:q≠kM:=aa
      refine ar u1 ?_;exact AG q B g
   ·have HU:=aJ N9;have Lu:j=s.set.length:=aa
    subst Lu;rw[bg]at F7 N;have Gz:=w8 Bm W (aM c t);rcases N with⟨_,_,d,_⟩ | ⟨m,kv,rfl,rfl,e1,e2,e3,e4,e5,e6,e7⟩
    ·exact absurd d Gz.ne
    have g1:H M=some (.rows 1 (ai (c.at_.set t s.to)) false):=by rw[AG M a1 aa,ah rfl]
    have g2:H F=some (.rows 1 vs false):=by rw[AG F aa aa,ac Hm];exact hB
    have Ag:=fx (c:=c) (t:=t) aa;obtain⟨v,hv,EU⟩:=C.at_ t _ Ag;have OM:=C.le (q:=0) (r:=t) aa aa;have OL:=C.le (q:=t+1) (r:=c.buf.length) aa (aA _);have Rt:=C.mono t aa;obtain⟨Bs,_⟩:=EU.val;obtain⟨rows,B1,Bb,BC,Bh⟩:=EU;have t1:(t:Int)<(c.buf.length:Int):=aa
    have LB: ∀q,x1<=q->q<S->q≠M->H q=h' q:=fun q B g q3=>by rw[AG q B g,ac q3]
    generalize Dm:(ai (List.map Assign.cell (List.filter (a8 p) s.set))).length=J at *
    generalize La:(ai (List.map (fun a=>a.to.eval (aM c t) (aM c t)) (List.filter (a8 p) s.set))).length=K at *
    have B7: ∀q,(q<bd t\/bd (t+1)<=q\/ ∀rs fz,h' q≠some (O.rows 2 rs fz))->aK v q:=fun q A=>by
     rcases B1 with⟨rfl,_⟩ | ⟨kb,rfl,d1,d2,d3⟩
     ·intro i n Q;cases Q
     ·refine cV ?_ _ _;rintro rfl;rcases A with h | h | h
      ·omega
      ·omega
      ·exact h _ _ d3
    have GB:ay (updC H (z+5+11) (some (O.rows 2 [[V.ms m 0 J,V.ms kv 0 K]] false))) (z+5+12) v 2 rows:=by
     rcases B1 with⟨rfl,d⟩ | ⟨kb,rfl,d1,d2,d3⟩
     ·exact .inl ⟨rfl,d⟩
     ·exact .inr ⟨kb,rfl,aa,by rw[aq,ac aa,LB kb aa aa aa];exact d3⟩
    have DY:=GB.rowsS;refine jk E2 HU Z FK g2 hv Bs t0 t1 DY ?_;have Aa:(rows.all fun r=>decide (r.length=2))=true:=ak BC
    obtain⟨b1,b2,_⟩:=D.b.buf t _ Ag;refine bX GB (aA _) (by rw[Bb];omega) aI rfl Aa ?_;intro v2 hp hO Bn A8;rcases hO with⟨_,CY⟩ | ⟨E,rfl,HW,C4⟩
    ·simp at CY
    have FA:z+5+12<=E:=by
     rcases bv E (z+5+12)with d | d
     ·exact absurd rfl (Bn E d 0 _)
     ·exact d
    have Ev: ∀q,q<z->aK v q->At (updC H (z+5+11) (some (O.rows 2 [[V.ms m 0 J,V.ms kv 0 K]] false))) hp q=H q:=fun q B g=>by
     rw[A8 q aa g,aq,ac aa]
    have gB:=Ev F aa (B7 F (.inl aa));rw[g2]at gB;have gA:=Ev M aa (B7 M (.inl aa));rw[g1]at gA
    have CJ: ∀(o:Option O) q,q≠F->updC (At (updC H (z+5+11) (some (O.rows 2 [[V.ms m 0 J,V.ms kv 0 K]] false))) hp) F o q=At (updC H (z+5+11) (some (O.rows 2 [[V.ms m 0 J,V.ms kv 0 K]] false))) hp q:=fun o q g=>by
     rw[aq,ac g]
    have AQ: ∀(o:Option O) q,x1<=q->q<S->q≠M->q≠F->aK v q->updC (At (updC H (z+5+11) (some (O.rows 2 [[V.ms m 0 J,V.ms kv 0 K]] false))) hp) F o q=h' q:=fun o q q0 B g q3 q4=>by
     rw[CJ o q q3,Ev q aa q4,LB q q0 B g]
    have fM: ∀o,toT (updC (At (updC H (z+5+11) (some (O.rows 2 [[V.ms m 0 J,V.ms kv 0 K]] false))) hp) F o) 1000 vM=some (ints (bm c.mem (aM c t) (s.set.filter fun a=> !a8 p a))):=fun o=>
     (F7.keep fun q B g=>by rw[CJ o q aa,Ev q aa (B7 q (.inl aa))]).tree 999
    have f3:List.take c.at_.length (ai (c.at_.set t s.to))=ai (c.at_.set t s.to):=d7 (by rw[aB,cG]);have L: ∀v,(vs.set t [v]).length=c.buf.length:=fun v=>by rw[cG];exact C.len
    have f6: ∀v,List.take c.buf.length (vs.set t [v])=vs.set t [v]:=fun v=>d7 (L v).symm
    have f7: ∀o:Option O,(vs.set t [V.ms E 0 (rows++[[V.ms m 0 J,V.ms kv 0 K]]).length]).mapM (fun row=>row.mapM (toT (updC (At (updC H (z+5+11) (some (O.rows 2 [[V.ms m 0 J,V.ms kv 0 K]] false))) hp) F o) 999))=some ((c.buf.set t (aF c t++[mB p (aM c t) s.set])).map fun b=>[.sl (b.map Entry.enc)]):=by
     intro o;refine nQ _ _ (by rw[L,cG]) fun j b hb=> ?_
     rw[cH]at hb
     by_cases hj:t=j
     ·subst hj;rw[ah rfl,ah aa]at hb;simp only[zA]at hb;subst hb;refine⟨_,by rw[cH,ah rfl,ah (by have:=C.len;omega)],?_⟩;refine hJ.tree (lo:=bd t) (hi:=E+1) ⟨rows++[[V.ms m 0 J,V.ms kv 0 K]],.inr ⟨E,rfl,aa,aa,by rw[CJ o E aa];exact C4⟩,by rw[zM,zM,Bb];rfl,?_,fun q e0 A=> ?_⟩ 997
      ·intro r I;rcases cx.1 I with I | I
       ·exact BC r I
       ·rw[bD]at I;rw[I];rfl
      ·rcases bv q (aF c t).length with d | d
       ·rw[bP d]at A;obtain⟨r,I,hE⟩:=Bh q e0 A;refine⟨r,by rw[bP aa];exact I,hE.keep (aA _) aa fun w w1 w2 w3=> ?_⟩;exact AQ o w aa aa aa aa (B7 w (.inr (.inr w3)))
       ·have Cc:q=(aF c t).length:=by
         have:=(zH.1 A).1;rw[zM,fN]at this;omega
        subst Cc;rw[eE (aA _),dA]at A;simp only[dr,zA]at A;subst A;refine⟨[V.ms m 0 J,V.ms kv 0 K],by rw[eE aa,Bb,dA];rfl,?_⟩
        have u1: ∀q,S<=q->q<z->updC (At (updC H (z+5+11) (some (O.rows 2 [[V.ms m 0 J,V.ms kv 0 K]] false))) hp) F o q=H q:=fun q B g=>by
         rw[CJ o q aa,Ev q g (B7 q (.inr (.inl aa)))]
        rw[aB]at Dm La;refine⟨m,kv,by rw[<- Dm,<- La];rfl,aa,aa,aa,aa,by rw[u1 m e1 e2];exact e6,by rw[u1 kv e3 e4];exact e7⟩
     ·rw[ac hj]at hb;obtain⟨u,hu,Hn⟩:=C.at_ j b hb;have AN:=(zH.1 hb).1;refine⟨u,by rw[cH,ac hj];exact hu,?_⟩;refine(Hn.keep (aA _) fun q B g=> ?_).tree 997;have u1:=C.le (q:=0) (r:=j) aa aa;have u2:=C.le (q:=j+1) (r:=c.buf.length) aa (aA _);refine AQ o q aa aa aa aa (B7 q ?_);rcases bv j t with d | d
      ·have:=C.le (q:=j+1) (r:=t) aa aa;exact .inl aa
      ·have:=C.le (q:=t+1) (r:=j) aa aa;exact .inr (.inl aa)
    rw[hE];simp -dsimp only[go_sem,seval,Z,FK,gB,hv,t0,t1,M9,gA,Bu,X,Hm,fM,f3,L,f6,f7,aB,cG,gS,aA]
 ·rw[hn];obtain⟨H9,EV,_⟩:=D.b.buf t _ (fx (c:=c) (t:=t) aa);have Od:=Ww p R c D.b t ht i e hi fun j f hj Dg=>zg EV Dg hi ho hj
  exact aD (q:=jR AJ Ch JH Od)
def nxK (p:Prog) (k:Int) (c:Config) (x:Choice):Config:=(dy p k c x).1
def EI (E:Nat->List Nat) (a:Nat->Bool) (u v:Nat):Prop:=a u=true/\a v=true/\v∈E u
structure DfsSt (E:Nat->List Nat) (ins:Nat->Bool) (ord stk:List Nat) (nx:Nat->Nat) (sn:Nat->Bool) (S:Nat->Nat->Prop):Prop where
 seen: ∀v,sn v=true<->v∈ord\/v∈stk
 nd:(ord++stk).Nodup
 insd: ∀v,sn v=true->ins v=true
 chain: ∀(i a b:Nat),stk[i]? =some a->stk[i+1]? =some b->EI E ins a b
 nxt: ∀v j w,j<nx v->(E v)[j]? =some w->ins w=true->sn w=true
 le: ∀v,nx v<=(E v).length
 fin:DfsOrd (EI E ins) ord S
 sub: ∀i v,i<ord.length->S i v->sn v=true
def aV {α:Type} (f:Nat->α) (k:Nat) (x:α):Nat->α:=fun i=>if i=k then x else f i
theorem DfsSt.init (E:Nat->List Nat) (a:Nat->Bool):DfsSt E a [] [] (fun _=>0) (fun _=>false) (fun _ _=>False):=
 ⟨af,af,af,af,fun _ _ _ h=>aa,fun _=>pm _,⟨af,af,af⟩,af⟩
theorem DfsSt.root {E:Nat->List Nat} {d:Nat->Bool} {f:List Nat} {nx:Nat->Nat} {sn:Nat->Bool} {S:Nat->Nat->Prop} (h:DfsSt E d f [] nx sn S) {r:Nat} (y:d r=true) (x:sn r=false):
 DfsSt E d f [r] nx (aV sn r true) S:=by
 have q:r∉ f:=fun h'=>by have:=(h.seen r).2 (.inl h');rw[x]at this;cases this
 have o: ∀v,sn v=true->aV sn r true v=true:=fun v c=>by unfold aV;split<;>simp_all
 refine⟨?_,?_,?_,?_,fun v j w m n t=>o _ (h.nxt v j w m n t),h.le,h.fin,fun i v m n=>o _ (h.sub i v m n)⟩
 ·intro v;have:=h.seen v;unfold aV
  by_cases c:v=r
  ·simp[c]
  ·simpa[c]using this
 ·rw[oU];exact⟨ak h.nd,af,fun a u b g s=>by simp only[bD]at g;subst g s;exact q u⟩
 ·intro v c;unfold aV at c;split at c
  ·rename_i e;rw[e];exact y
  ·exact h.insd v c
 ·intro i a b _ g;simp at g
theorem DfsSt.skip {E:Nat->List Nat} {a:Nat->Bool} {b c:List Nat} {nx:Nat->Nat} {sn:Nat->Bool} {S:Nat->Nat->Prop} (h:DfsSt E a b c nx sn S) {u w:Nat} (g:(E u)[nx u]? =some w) (m:a w=true->sn w=true):
 DfsSt E a b c (aV nx u (nx u+1)) sn S:=by
 refine⟨h.seen,h.nd,h.insd,h.chain,?_,?_,h.fin,h.sub⟩
 ·intro v j w' f d hi;unfold aV at f;split at f
  ·rename_i e;subst e;rcases bv j (nx v)with i | n
   ·exact h.nxt v j w' i d hi
   ·have:j=nx v:=aa
    subst this;rw[g]at d;cases d;exact m hi
  ·exact h.nxt v j w' f d hi
 ·intro v;unfold aV;split
  ·rename_i e;subst e;have:=(zH.1 g).1;omega
  ·exact h.le v
theorem DfsSt.push {E:Nat->List Nat} {d:Nat->Bool} {m c:List Nat} {nx:Nat->Nat} {sn:Nat->Bool} {S:Nat->Nat->Prop} {u w:Nat} (h:DfsSt E d m (c++[u]) nx sn S) (t:(E u)[nx u]? =some w) (hi:d w=true) (H:sn w=false):
 DfsSt E d m (c++[u]++[w]) (aV nx u (nx u+1)) (aV sn w true) S:=by
 have I:d u=true:=h.insd u ((h.seen u).2 (.inr af))
 have C:w∉ m++(c++[u]):=fun h'=>by
  have:=(h.seen w).2 (cx.1 h');rw[H]at this;cases this
 have r: ∀v,sn v=true->aV sn w true v=true:=fun v g=>by unfold aV;split<;>simp_all
 refine⟨?_,?_,?_,?_,?_,?_,h.fin,fun i v F G=>r _ (h.sub i v F G)⟩
 ·intro v;have:=h.seen v;unfold aV
  by_cases g:v=w
  ·simp[g]
  ·simp only[ac g,cx,bD,g,dQ]at this⊢;exact this
 ·rw[<- zQ,oU];exact⟨h.nd,af,fun a n b f D=>by simp only[bD]at f;subst f D;exact C n⟩
 ·intro v g;unfold aV at g;split at g
  ·rename_i e;rw[e];exact hi
  ·exact h.insd v g
 ·intro i a b n f;rcases bv (i+1) (c++[u]).length with q | A
  ·rw[bP aa]at n;rw[bP q]at f;exact h.chain i a b n f
  ·have z:=(zH.1 f).1;rw[zM]at z;simp only[d6,i6]at z;have y:i+1=(c++[u]).length:=aa
   rw[eE A,y,dA]at f;cases f;have B:i=c.length:=by simp at y;omega
   rw[bP aa,B,eE (aA _),dA]at n;cases n;exact⟨I,hi,zL t⟩
 ·intro v j w' s o x;unfold aV at s;split at s
  ·rename_i e;subst e;rcases bv j (nx v)with q | A
   ·exact r _ (h.nxt v j w' q o x)
   ·have:j=nx v:=aa
    subst this;rw[t]at o;cases o;simp[aV]
  ·exact r _ (h.nxt v j w' s o x)
 ·intro v;unfold aV;split
  ·rename_i e;subst e;have:=(zH.1 t).1;omega
  ·exact h.le v
theorem yf {E:Nat->Nat->Prop}: ∀{c:List Nat} {u v:Nat},(∀(i a b:Nat),(c++[u])[i]? =some a->(c++[u])[i+1]? =some b->E a b)->v∈c++[u]->Rch E v u
 | [],u,v,_,d=>by simp at d;subst d;exact .refl _
 | x::c,u,v,h,d=>by
   have e: ∀(i a b:Nat),(c++[u])[i]? =some a->(c++[u])[i+1]? =some b->E a b:=fun i a b f g=>h (i+1) a b (ak f) (ak g)
   rcases cq.1 d with rfl | d
   ·cases c with
    | nil=>exact .cons (h 0 v u rfl rfl) (.refl _)
    | cons y c=>exact .cons (h 0 v y rfl rfl) (yf e af)
   ·exact yf e d
theorem DfsSt.pop {E:Nat->List Nat} {m:Nat->Bool} {c n:List Nat} {nx:Nat->Nat} {sn:Nat->Bool} {S:Nat->Nat->Prop} {u:Nat} (h:DfsSt E m c (n++[u]) nx sn S) (B:nx u=(E u).length):
 ∃y,DfsSt E m (c++[u]) n nx sn y:=by
 refine⟨fun i v=>if i=c.length then sn v=true else S i v,?_,?_,h.insd,?_,h.nxt,h.le,⟨?_,?_,?_⟩,?_⟩
 ·intro v;have:=h.seen v;simp only[cx,bD]at this⊢;rw[this];constructor
  ·rintro(h | h | h)
   ·exact .inl (.inl h)
   ·exact .inr h
   ·exact .inl (.inr h)
  ·rintro((h | h) | h)
   ·exact .inl h
   ·exact .inr (.inr h)
   ·exact .inr (.inl h)
 ·have:=h.nd;refine(List.Perm.nodup_iff ?_).1 this;rw[zQ];exact List.Perm.append_left c List.perm_append_comm
 ·intro i a b z s;have:=(zH.1 s).1;exact h.chain i a b (by rw[bP aa];exact z) (by rw[bP aa];exact s)
 ·intro i x v e r;rcases bv i c.length with o | w
  ·rw[bP o]at e;simp only[ac (show ¬i=c.length from aa)];exact h.fin.succ i x v e r
  ·have q:=(zH.1 e).1;simp only[zM,d6,i6]at q;have hi:i=c.length:=aa
   rw[hi,eE (aA _),dA]at e;cases e;simp only[ah hi];obtain⟨j,f⟩:=eC r.2.2;exact h.nxt u j v (by rw[B];exact(zH.1 f).1) f r.2.1
 ·intro i j v t f d;simp only[zM,d6,i6]at f
  by_cases hi:i=c.length
  ·rw[ah hi]at d;rw[ah aa];exact d
  ·rw[ac hi]at d;split
   ·exact h.sub i v aa d
   ·exact h.fin.mono i j v t aa d
 ·intro i x v e d;rcases bv i c.length with o | w
  ·rw[bP o]at e;rw[ac aa]at d;rcases h.fin.gray i x v e d with⟨j,f,g⟩ | A
   ·exact .inl ⟨j,f,by rw[bP aa];exact g⟩
   ·exact .inr A
  ·have q:=(zH.1 e).1;simp only[zM,d6,i6]at q;have hi:i=c.length:=aa
   rw[hi,eE (aA _),dA]at e;cases e;rw[ah hi]at d;rcases(h.seen v).1 d with g | g
   ·obtain⟨j,f⟩:=eC g;have:=(zH.1 f).1;exact .inl ⟨j,aa,by rw[bP this];exact f⟩
   ·exact .inr (yf h.chain g)
 ·intro i v hi d;simp only[zM,d6,i6]at hi;split at d
  ·exact d
  ·exact h.sub i v aa d
structure PartOk (E:Nat->Nat->Prop) (ord:List Nat) (part:Nat->Int) (m:Nat):Prop where
 con: ∀v,part v≠ -1-> ∃r:Nat,part v=r/\Rch E v r/\Rch E r v
 done: ∀(j v:Nat),m<=j->ord[j]? =some v->part v≠ -1
theorem PartOk.root {E:Nat->Nat->Prop} {a:List Nat} {part:Nat->Int} {m r:Nat} (h:PartOk E a part (m+1)) (c:a[m]? =some r):PartOk E a (aV part r r) m/\Pln E a m r 0 r:=by
 refine⟨⟨fun v b=> ?_,fun j v g b=> ?_⟩,.root c⟩
 ·unfold aV at b⊢;split
  ·rename_i e;exact⟨r,rfl,e▸ .refl _,e▸ .refl _⟩
  ·rename_i e;rw[ac e]at b;exact h.con v b
 ·unfold aV;split
  ·omega
  ·rename_i e;refine h.done j v ?_ b;rcases bv m j with d | f
   ·exact d
   ·have:j=m:=aa
    subst this;rw[c]at b;cases b;exact absurd rfl e
theorem PartOk.add {E:Nat->Nat->Prop} {a:List Nat} {S:Nat->Nat->Prop} (n:DfsOrd E a S) (d:a.Nodup) {part:Nat->Int} {m r k u w:Nat} (h:PartOk E a part m) (s:Pln E a m r k u) (o:E w u) (t:w∈a) (q:part w= -1):
 PartOk E a (aV part w r) m/\Pln E a m r (k+1) w:=by
 obtain⟨j,c⟩:=eC t
 have i:j<=m:=by
  rcases bv j m with y | f
  ·omega
  ·exact absurd q (h.done j w f c)
 have hp:Pln E a m r (k+1) w:=.step c i o s;refine⟨⟨fun v b=> ?_,fun x v g b=> ?_⟩,hp⟩
 ·unfold aV at b⊢;split
  ·rename_i e;exact⟨r,rfl,e▸hp.rch,e▸ZU n d _ _ _ (aA _) hp⟩
  ·rename_i e;rw[ac e]at b;exact h.con v b
 ·unfold aV;split
  ·omega
  ·exact h.done x v g b
def okN (p:Prog) (k:Int):Config->List Choice->Bool
 | _,[]=>true
 | c,y::r=>decide (y∈c_ p k c)&&okN p k (nxK p k c y) r
def dJ (l:List Vis) (i:Nat):Config:=(l.getD i default).c
def hX (l:List Vis) (c:Config):Nat:=l.findIdx fun v=>decide (v.c=c)
def cn (p:Prog) (k:Int) (l:List Vis) (u:Nat):List (Nat×Choice):=(c_ p k (dJ l u)).map fun x=>(hX l (nxK p k (dJ l u) x),x)
def m9 (l:List Vis) (t:Nat) (lp:Loop) (i:Nat):Bool:=gl lp (atI (dJ l i).at_ t)
theorem kP {l:List Vis} {i:Nat} {v:Vis} (h:l[i]? =some v):dJ l i=v.c:=by simp[dJ,zK,h]
theorem zh {l:List Vis} {c:Config} (h: ∃v∈l,v.c=c):hX l c<l.length/\dJ l (hX l c)=c:=by
 have a:hX l c<l.length:=by
  unfold hX;rw[List.findIdx_lt_length];obtain⟨v,b,e⟩:=h;exact⟨v,b,by simp[e]⟩
 refine⟨a,?_⟩;have:=List.findIdx_getElem (w:=a);rw[kP (zI a)];exact pW this
theorem xM {p:Prog} {k:Int} {l:List Vis} {n:Nat} (h:VisOk p k l n) {i:Nat} (hi:i<l.length):hX l (dJ l i)=i:=by
 have f: ∃v∈l,v.c=dJ l i:=⟨l[i],ma hi,(kP (zI hi)).symm⟩
 obtain⟨b,d⟩:=zh f
 have a: ∀j,j<l.length->(l.map Vis.c)[j]? =some (dJ l j):=fun j c=>by
  rw[zJ,zI c,kP (zI c)];rfl
 have e:(l.map Vis.c)[hX l (dJ l i)]? =(l.map Vis.c)[i]? :=by rw[a _ b,a _ hi,d]
 exact(we (ak b) h.nd).1 e
section
variable {p:Prog} {k:Int} {l:List Vis} (hV:VisOk p k l l.length)
include hV
theorem rH {i:Nat} (hi:i<l.length):IsK p k (dJ l i):=by
 rw[kP (zI hi)];exact hV.is _ (ma hi)
theorem SG {u:Nat} (b:u<l.length) {x:Choice} (c:x∈c_ p k (dJ l u)):hX l (nxK p k (dJ l u) x)<l.length/\dJ l (hX l (nxK p k (dJ l u) x))=nxK p k (dJ l u) x:=by
 have a:=zI b;rw[kP a]at c⊢;exact zh (hV.cl u _ b a x c)
theorem yy {u:Nat} (b:u<l.length): ∀e∈cn p k l u,e.1<l.length:=by
 intro e a;obtain⟨x,c,rfl⟩:=df.1 a;exact(SG hV b c).1
end
def mapL {α:Type} (b:α->ByteArray) (c:α->V) (l:List α):List (T×V):=l.map fun a=>(T.str (b a),c a)
theorem xS {α:Type} (b:α->ByteArray) (c:α->V) (l:List α) (a:α):mapL b c (l++[a])=mapL b c l++[(T.str (b a),c a)]:=by simp[mapL]
theorem u0 {α:Type} (c:α->ByteArray) (d:α->V) (b:ByteArray): ∀l:List α,dD (.str b) (mapL c d l)=some ((l.find? fun a=>b==c a).map d)
 | []=>rfl
 | a::l=>by
   rw[mapL,aT,dD,eT,List.find?_cons];cases h:(b==c a)
   ·simp only[];exact u0 c d b l
   ·rfl
theorem vk {α:Type} (c:α->ByteArray) (d:α->V) (b:ByteArray) (v:V): ∀l:List α,(∀a∈l,(b==c a)=false)->cZ (.str b) v (mapL c d l)=some (mapL c d l++[(.str b,v)])
 | [],_=>rfl
 | a::l,h=>by
   rw[mapL,aT,cZ,eT,h a af];simp only[];rw[show(l.map fun a=>(T.str (c a),d a))=mapL c d l from rfl,vk c d b v l fun x e=>h x (by simp[e])];rfl
theorem qp {a b:ByteArray}:(a==b)=true<->a=b:=by
 rw[yg];constructor
 ·intro h;have:=(oz).1 h;rw[ByteArray.toList_eq,ByteArray.toList_eq]at this;have c:a.data=b.data:=gP.1 this;cases a;cases b;simp_all
 ·rintro rfl;simp
theorem S0 {a b:ByteArray} (h:a≠b):(a==b)=false:=by
 cases c:(a==b)
 ·rfl
 ·exact absurd (qp.1 c) h
def jH (a:Nat):List Vis->List Vis->List Vis×Bool
 | l,[]=>(l,false)
 | l,v::r=>if g6 l v.c then jH a l r else if a<=l.length then(l,true)else jH a (l++[v]) r
def goX (p:Prog) (k:Int) (a:Nat):Nat->Nat->List Vis->List Vis×Bool
 | 0,_,l=>(l,false)
 | f+1,i,l=>match l[i]? with
   | some v=>if(jH a l (eX p k v.c i)).2 then jH a l (eX p k v.c i)else goX p k a f (i+1) (jH a l (eX p k v.c i)).1
   | none=>(l,false)
def j4 (p:Prog) (k:Int) (a:Nat):List Vis×Bool:=goX p k a (a+1) 0 [v0 p]
theorem xw (a:Nat): ∀(r l:List Vis),g9 a l r=if(jH a l r).2 then none else some (jH a l r).1
 | [],l=>rfl
 | v::r,l=>by
   rw[g9,jH,lH];split
   ·rw[zD];exact xw a r l
   ·split
    ·rfl
    ·rw[zD];exact xw a r _
theorem SO (p:Prog) (k:Int) (a:Nat): ∀(f i:Nat) (l:List Vis),goV p k a f i l=if(goX p k a f i l).2 then none else some (goX p k a f i l).1
 | 0,i,l=>rfl
 | f+1,i,l=>by
   rw[goV,goX]
   cases l[i]? with
   | none=>rfl
   | some v=>
     simp only;rw[xw];cases h:(jH a l (eX p k v.c i)).2
     ·simp only[zG,aX,zD];exact SO p k a f (i+1) _
     ·simp[h]
theorem kcH (p:Prog) (k:Int) (a:Nat):dX p k a=if(j4 p k a).2 then none else some (j4 p k a).1:=SO p k a _ _ _
theorem Xz {p:Prog} (g:aO p=true) {l:List Vis} (i: ∀v∈l,IsB p v.c) {c:Config} (e:IsB p c):(l.find? fun a=>gy c==gy a.c).isSome=g6 l c:=by
 cases h:g6 l c
 ·rw[Sp,E_,pV];intro v b f;have:=ZP g e (i v b) (qp.1 f);have d:g6 l c=true:=pu.2 ⟨v,b,this.symm⟩;rw[h]at d;cases d
 ·obtain⟨v,b,rfl⟩:=pu.1 h;rw[List.find?_isSome];exact⟨v,b,qp.2 rfl⟩
theorem Wg {p:Prog} (g:aO p=true) {l:List Vis} (i: ∀v∈l,IsB p v.c) {c:Config} (e:IsB p c):(l.find? fun a=>ey c==ey a.c).isSome=g6 l c:=by
 cases h:g6 l c
 ·rw[Sp,E_,pV];intro v b f;have:=ZQ g e (i v b) (qp.1 f);have d:g6 l c=true:=pu.2 ⟨v,b,this.symm⟩;rw[h]at d;cases d
 ·obtain⟨v,b,rfl⟩:=pu.1 h;rw[List.find?_isSome];exact⟨v,b,qp.2 rfl⟩
def dx (l:List Vis):List (List V):=(l.map fun v=>Config.enc v.c).map (·.map V.t)
theorem io (l:List Vis):(dx l).length=l.length:=by simp[dx]
theorem KT (l:List Vis) (v:Vis):dx (l++[v])=dx l++[(Config.enc v.c).map V.t]:=by simp[dx]
theorem M4 (l:List Vis):((dx l).all fun r=>decide (r.length=3))=true:=by simp[dx,Config.enc]
theorem Pf {l:List Vis} {i:Nat} {v:Vis} (h:l[i]? =some v):(dx l)[i]? =some [.t (ints v.c.mem),.t (ints v.c.at_),.t (.sl (v.c.buf.map fun b=>[.sl (b.map Entry.enc)]))]:=by simp[dx,h,Config.enc]
structure SeaH (h:Nat->Option O) (x:Nat) (vL vF vC:V) (kM:Nat) (l:List Vis):Prop where
 L:ay h x vL 3 (dx l)
 F:ay h x vF 1 (ai (l.map Vis.fr))
 X:ay h x vC 3 (bj (l.map Vis.x))
 M:h kM=some (.map (mapL (fun v:Vis=>gy v.c) (fun _=>vb true) l))
 mx:kM<x
 LX: ∀k,aK vL k\/aK vC k
theorem ay.offAt {h:ae} {x:Nat} {v:V} {a:Nat} {rows:List (List V)} (o:ay h x v a rows) {k:Nat} (b: ∀rs,h k≠some (.rows a rs false)):aK v k:=by
 rcases o with⟨rfl,_⟩ | ⟨q,rfl,_,c⟩
 ·intro i n h;cases h
 ·exact cV (fun e=>b _ (e▸c)) _ _
theorem SeaH.le {h:ae} {x y:Nat} {vL c b:V} {kM:Nat} {l:List Vis} (s:SeaH h x vL c b kM l) (a:x<=y):SeaH h y vL c b kM l:=
 ⟨s.L.le a,s.F.le a,s.X.le a,s.M,by have:=s.mx;omega,s.LX⟩
theorem SeaH.LF {h:ae} {x:Nat} {vL b d:V} {kM:Nat} {l:List Vis} (s:SeaH h x vL b d kM l) (k:Nat):aK vL k\/aK b k:=by
 rcases s.L with⟨e,_⟩ | ⟨q,e,_,c⟩
 ·exact .inl (by rw[e];intro i n h;cases h)
 ·by_cases a:k=q
  ·subst a;exact .inr (s.F.offAt fun rs h=>by rw[c]at h;cases h)
  ·exact .inl (by rw[e];exact cV a _ _)
theorem SeaH.FX {h:ae} {x:Nat} {vL c b:V} {kM:Nat} {l:List Vis} (s:SeaH h x vL c b kM l) (k:Nat):aK c k\/aK b k:=by
 rcases s.F with⟨e,_⟩ | ⟨q,e,_,d⟩
 ·exact .inl (by rw[e];intro i n h;cases h)
 ·by_cases a:k=q
  ·subst a;exact .inr (s.X.offAt fun rs h=>by rw[d]at h;cases h)
  ·exact .inl (by rw[e];exact cV a _ _)
theorem Xf (p:Prog) (hs:p.sane) (M:aO p=true) (k:Int) (hk:0<=k/\k<=2) (c:Nat) (U:1<=c) (h2:c<=20000):
 Den Γ G 367 [(zP p),vi k,vi c]=some (.agg [.t (.sl ((j4 p k c).1.map fun v=>Config.enc v.c)),.t (ints ((j4 p k c).1.map Vis.fr)),.t (.sl ((j4 p k c).1.map fun v=>v.x.enc)),vb (j4 p k c).2]):=by
 have AE:=XU p hs;have CK:=Ng p M (ee p) (r7 M k).b;have N3: ∀(q:T) (v:V),cZ q v []=some [(q,v)]:=fun q v=>rfl
 have E0: ∀l:List Vis,∀e∈l.map fun v=>Config.enc v.c,∀t∈e,T.norm t=t:=by
  intro l e he t ht;obtain⟨v,_,rfl⟩:=df.1 he;simp only[Config.enc,cq,ka,dQ]at ht;rcases ht with rfl | rfl | rfl<;>rfl
 have fin: ∀{h:ae} {x:Nat} {vL I F:V} {l:List Vis},SeaH h x vL I F 11 l->(dx l).mapM (fun row=>row.mapM (toT h 999))=some (l.map fun v=>Config.enc v.c)/\toT h 1000 I=some (ints (l.map Vis.fr))/\toT h 1000 F=some (.sl ((l.map Vis.x).map Choice.enc))/\
  V.cells I=some [I]/\V.cells F=some [F]:=fun s=>
  ⟨mu _ 999 (List.map (fun v:Vis=>Config.enc v.c) _) (E0 _),jy (es:=(_:List Int).map fun n=>[ti n]) s.F (iB _),jy s.X (o7 _),s.F.cellsV,s.X.cellsV⟩
 have D8: ∀l:List Vis,(l.map Vis.x).map Choice.enc=l.map fun v=>v.x.enc:=fun l=>by rw[me];rfl
 simp only[D8]at fin
 refine aD (q:=aY AE CK N3 ?_)
 refine aS 162259276829213363391577741868672 (c+1) (fun i f h x=>(f 9).v=vi i/\(f 7).v= .lb/\ ∃(l:List Vis) (ov:Bool) (vL I F:V),(f 7).box=some [vL,I,F,vb ov]/\SeaH h x vL I F 11 l/\1<=l.length/\(ov=true->j4 p k c=(l,true))/\
  (ov=false->j4 p k c=goX p k c (c+1-i) i l/\i<=l.length/\l.length<=c/\(∀v∈l,IsK p k v.c))) rfl
  ⟨am,am,[v0 p],false,_,_,_,by simp -dsimp only[go_sem,seval];exact⟨rfl,rfl,rfl⟩,⟨.inr ⟨4,rfl,am,by simp -dsimp only[go_sem,seval];rfl⟩,.inr ⟨5,rfl,am,by simp -dsimp only[go_sem,seval];rfl⟩,.inr ⟨7,rfl,am,by simp -dsimp only[go_sem,seval];rfl⟩,by simp -dsimp only[go_sem,seval,mapL,aT,be,v0],am,fun k=> ?_⟩,af,fun h=>Bool.noConfusion h,fun _=>⟨rfl,af,U,fun v R=> ?_⟩⟩ ?_
 ·by_cases hq:k=4
  ·exact .inr (cV aa _ _)
  ·exact .inl (cV hq _ _)
 ·simp only[bD]at R;subst R;exact r7 M k
 rintro i f u H x bs hi ⟨J,b1,l,ov,vL,I,F,b2,hS,AO,De,Be⟩;have hw:=aC i aa;obtain⟨fL,fF,fX,cF,cX⟩:=fin hS;unfold V.cells at cF cX;have fT:List.take l.length (dx l)=dx l:=d7 (io l).symm;rcases hS.L with⟨e0,e1⟩ | ⟨kL,rfl,e2,e3⟩
 ·rw[<- io,e1]at AO;simp at AO
 rw[io]at hS b2;cases ov
 ·obtain⟨g1,g2,g3,g5⟩:=Be rfl
  by_cases Ad:i<l.length
  ·have S:=aW Ad;obtain⟨v,R,Kg⟩:=aw Ad;have Gm:=g5 v Kg;have Ch:=Hv p hs M k hk v.c Gm;have Ap:=Pf R;have i0:(0:Int)<=(i:Int):=aa
   have i1:(i:Int)<(l.length:Int):=aa
   refine jk J b1 b2 e3 S i0 i1 Ap @io Ch ?_
   generalize AL:c_ p k v.c=cs at *
   have By:=tY M (k:=k) Gm.b;rw[<- q9 Gm,AL]at By;have G8:eX p k v.c i=cs.map fun x=>⟨(dy p k v.c x).1,i,x⟩:=by rw[eX,AL]
   generalize hq:jH c l (eX p k v.c i)=q
   have Q:j4 p k c=if q.2 then q else goX p k c (c-i) (i+1) q.1:=by
    rw[g1,show c+1-i=c-i+1 from aa,goX,R];simp only[hq]
   refine aS 162259276829213363110103033591936 cs.length (fun j f h x=>(f 11).v=vi j/\(f 7).v= .lb/\ ∃(l':List Vis) (vL I F:V),(f 7).box=some [vL,I,F,vb false]/\SeaH h x vL I F 11 l'/\l'[i]? =some v/\l'.length<=c/\(∀v∈l',IsK p k v.c)/\
    q=jH c l' ((eX p k v.c i).drop j)) rfl
    ⟨am,al b1,l,_,_,_,al b2,hS.le av,R,g3,g5,by rw[ie,hq]⟩ ?_
   rintro j f2 u2 H2 g bs2 hj ⟨Bg,C,l',vL',P,N,B,w,BQ,CE,Ii,K⟩;have BO:=aC j aa;have AV:=(zH.1 BQ).1;rcases w.L with⟨e0,e1'⟩ | ⟨X,rfl,e2',D⟩
   ·have:=io l';rw[e1']at this;simp at this;omega
   rw[io]at w B
   by_cases AN:j<cs.length
   ·have Ba:=aW AN;obtain⟨y,hy,Eq⟩:=aw AN;have Hs:y∈c_ p k v.c:=by rw[AL];exact Eq
    have ED:=Y3 p hs M k hk v.c Gm y Hs;obtain⟨d,Bt,hd⟩:=sc M Gm Hs;rw[Bt]at ED;have DA:=Ng p M d hd.b;have D3:=u0 (fun v:Vis=>gy v.c) (fun _=>vb true) (gy d) l';have C6:=Xz M (fun v R=>(Ii v R).b) hd.b (l:=l');have LZ:=w.M;have Gw:=Pf BQ;have W:(i:Int)<(l'.length:Int):=aa
    have Gb:(eX p k v.c i).drop j=⟨d,i,y⟩::(eX p k v.c i).drop (j+1):=by
     have:(eX p k v.c i)[j]? =some ⟨d,i,y⟩:=by rw[G8,zJ,hy];simp[Bt]
     exact je this
    rw[Gb,jH]at K;cases Dx:g6 l' d
    ·rw[Dx]at C6;have hz:l'.find? (fun a=>gy d==gy a.c)=none:=ak C6
     rw[hz]at D3;rw[ac (by simp[Dx])]at K
     by_cases AC:c<=l'.length
     ·rw[ah AC]at K;have JM:(l'.length:Int)>=(c:Int):=aa
      rw[K]at Q;simp -dsimp only[go_sem,seval,Bg,C,B,J,D,Ba,i0,W,Gw,io,hy,ED,DA,LZ,D3,no,j_,JM];exact⟨aa,al hw,al C,l',true,_,_,_,al B,w.le av,aa,fun _=>by rw[Q];rfl,fun h=>by(cases h)⟩
     ·rw[ac AC]at K;have JM: ¬(l'.length:Int)>=(c:Int):=aa
      have Jj:=vk (fun v:Vis=>gy v.c) (fun _=>vb true) (gy d) (vb true) l' fun a ha=>by
       have:=pV.1 hz a ha;simpa using this
      have n1:(X=g+4+18+8+5+4+3)=False:=aJ aa;have n2:(X=11)=False:=aJ fun h=>by rw[h,LZ]at D;cases D
      have fT':List.take l'.length (dx l')=dx l':=d7 (io l').symm
      have JB: ∀{v:V} {sz:Nat} {rows:List (List V)},ay H2 g v sz rows->ay (updC H2 11 (some (O.map (mapL (fun v:Vis=>gy v.c) (fun _=>vb true) l'++ [(T.str (gy d),vb true)])))) g v sz rows:=fun o=>o.keep (aA _) fun q _ hq=>by
       rw[aq,ac];rintro rfl;exact hq (o.offAt fun rs h=>by rw[LZ]at h;cases h)
      have oL:=JB w.L;have oF:=JB w.F;have oX:=JB w.X;have mx:=w.mx;simp -dsimp only[go_sem,seval,Bg,C,B,J,D,Ba,i0,W,Gw,io,hy,ED,DA,LZ,D3,no,j_,JM,Jj,n1,n2,fT',aA,aU,aX];refine bX (oL.upd aa _) aa (by rw[io];omega) aI rfl (M4 _) ?_;intro vL2 Qg M7 Nw Q2;have w1:=M7.valOf
      generalize Ma:updC H2 11 (some (O.map (mapL (fun v:Vis=>gy v.c) (fun _=>vb true) l'++ [(T.str (gy d),vb true)])))=H3 at *
      have Qu:H3 11=some (O.map (mapL (fun v:Vis=>gy v.c) (fun _=>vb true) (l'++ [⟨d,i,y⟩]))):=by rw[<- Ma,aq,ah rfl,xS]
      have c1:=M7.cellsV;unfold V.cells at c1
      generalize M8:At (updC H3 (g+4+18+8+5+4+3) (some (O.rows 3 [[V.t (ints d.mem),V.t (ints d.at_),V.t (T.sl (d.buf.map fun b=>[T.sl (b.map Entry.enc)]))]] false))) Qg=L at *
      have Y: ∀q,q<g->aK (.ms X 0 l'.length) q->L q=H3 q:=fun q r m=>by rw[Q2 q aa m,aq,ac aa]
      have E:ay L g P 1 (ai (l'.map Vis.fr)):=oF.keep (aA _) fun q r m=>Y q r ((w.LF q).resolve_right m)
      have oX1:ay L g N 3 (bj (l'.map Vis.x)):=oX.keep (aA _) fun q r m=>Y q r ((w.LX q).resolve_right m)
      have N5:L 11=_:=(Y 11 mx (cV (fun h=>by rw[h]at n2;simp at n2) _ _)).trans Qu;have w2:=E.valOf;have r2: ∀r m q3 q4 q5 q6 q7 b,rowsS (updC L (g+r+m+q3+q4+q5+q6+q7) b) P=some (ai (l'.map Vis.fr)):=fun r m q3 q4 q5 q6 q7 b=>(E.upd aa b).rowsS
      refine nJ w1 c1 C B J w2 r2 Ma M8 ?_;refine bX (E.upd aa _) aa (by rw[aB];simp;omega) aI rfl (eu _) ?_;intro Z Qh Oy Nx CJ;have w3:=Oy.valOf;have c3:=Oy.cellsV;unfold V.cells at c3
      generalize O9:At (updC L (g+4+18+8+5+4+7+3) (some (O.rows 1 [[V.t (T.int IntKind.i64 i)]] false))) Qh=G2 at *
      have kp2: ∀q,q<g->aK P q->G2 q=L q:=fun q r m=>by rw[CJ q aa m,aq,ac aa]
      have A:ay G2 g N 3 (bj (l'.map Vis.x)):=oX1.keep (aA _) fun q r m=>kp2 q r ((w.FX q).resolve_right m)
      have w4:=A.valOf;have r3: ∀r m q3 q4 q5 q6 q7 q8 b,rowsS (updC G2 (g+r+m+q3+q4+q5+q6+q7+q8) b) N=some (bj (l'.map Vis.x)):=fun r m q3 q4 q5 q6 q7 q8 b=>(A.upd aa b).rowsS
      simp -dsimp only[go_sem,seval,w1,c1,w3,c3,C,B,J,Bg,hy,w4,r3,Ma,M8,O9];refine bX (A.upd aa _) aa (by rw[i_];simp;omega) aI rfl (o9 _) ?_;intro vC2 Qf Ox Nv NH;have w5:=Ox.valOf;have c5:=Ox.cellsV;unfold V.cells at c5;refine qV w1 c1 w3 c3 w5 c5 C B Bg Ma M8 O9 ?_
      generalize Rk:At (updC G2 (g+4+18+8+5+4+7+7+6) (some (O.rows 3 [[V.t (ti y.thread),V.t (ti y.step),V.t (ti y.cell)]] false))) Qf=G3 at *
      have CH: ∀q,¬aK vL2 q->g<=q:=fun q h=>by
       rcases bv q g with U | U
       ·exact absurd (Nw q aa) h
       ·exact U
      have LQ: ∀q,¬aK Z q->g<=q:=fun q h=>by
       rcases bv q g with U | U
       ·exact absurd (Nx q aa) h
       ·exact U
      have ID: ∀z,g+4+18+8+5+4+7+7+8<=z->SeaH G3 z vL2 Z vC2 11 (l'++ [⟨d,i,y⟩]):=fun z hz=>by
       refine⟨?_,?_,?_,?_,aa,fun q=> ?_⟩
       ·rw[KT];refine ay.keep (x:=g+4+18+8+5+4+3+2) (h:=L) M7 aa fun q r m=> ?_
        have:=CH q m;rw[NH q aa (A.off this),aq,ac aa,CJ q aa (E.off this),aq,ac aa]
       ·rw[dZ,show List.map Vis.fr [(⟨d,i,y⟩:Vis)]=[(i:Int)]from rfl,fw];refine ay.keep (x:=g+4+18+8+5+4+7+3+2) (h:=G2) Oy aa fun q r m=> ?_
        have:=LQ q m;rw[NH q aa (A.off this),aq,ac aa]
       ·rw[dZ,show List.map Vis.x [(⟨d,i,y⟩:Vis)]=[y]from rfl,mq];exact Ox.le aa
       ·have f1:aK P 11:=E.offAt fun rs h=>by rw[N5]at h;cases h
        have g2:G2 11=L 11:=kp2 11 mx f1;have f2:aK N 11:=A.offAt fun rs h=>by rw[g2,N5]at h;cases h
        rw[NH 11 aa f2,aq,ac aa,g2,N5]
       ·rcases bv q (g+4+18+8+5+4+7+7+6)with h | h
        ·exact .inr (Nv q aa)
        ·exact .inl (M7.off aa)
      refine⟨aa,al BO,al C,l'++ [⟨d,i,y⟩],vL2,Z,vC2,al B,by simp -dsimp only[go_sem,seval,Ma,M8,O9,Rk];exact ID _ aa,?_,by rw[zM,fN];omega,fun v' BQ=> ?_,K⟩
      ·rw[bP AV];exact BQ
      ·rcases cx.1 BQ with h | h
       ·exact Ii v' h
       ·rw[bD]at h;subst h;exact hd
      done
    ·rw[Dx]at C6;rw[ah Dx]at K;obtain⟨z,hz⟩:=rG.1 C6;rw[hz]at D3;simp -dsimp only[go_sem,seval,Bg,C,B,J,D,Ba,i0,W,Gw,io,hy,ED,DA,LZ,D3,cU,gp];exact⟨aa,al BO,al C,l',_,_,_,al B,w.le av,BQ,CE,Ii,K⟩
   ·have Ba:=aJ AN;have:j=cs.length:=aa
    subst this
    have Qc:q=(l',false):=by
     rw[K,G8,oy (by rw[cL];omega)];rfl
    rw[Qc]at Q;refine bG Bg C B J Ba ?_;exact⟨aa,al hw,al C,l',false,_,_,_,al B,w.le av,aa,fun h=>by(cases h),fun _=>⟨by rw[Q,show c+1-(i+1)=c-i by omega];rfl,aa,CE,Ii⟩⟩
  ·have S:=aJ Ad
   have Q:j4 p k c=(l,false):=by
    rw[g1]
    cases c+1-i with
    | zero=>rfl
    | succ f=>rw[goX,fO aa]
   rw[Q];simp -dsimp only[go_sem,seval,J,b1,b2,e3,S,fL,fF,fX,cF,cX,fT,aA,io]
 ·have Q:=De rfl;rw[Q]
  by_cases Ad:i<l.length
  ·have S:=aW Ad;simp -dsimp only[go_sem,seval,J,b1,b2,e3,S,fL,fF,fX,cF,cX,fT,aA,io]
  ·have S:=aJ Ad;simp -dsimp only[go_sem,seval,J,b1,b2,e3,S,fL,fF,fX,cF,cX,fT,aA,io]
theorem Xg (p:Prog) (i:p.sane) (h:aO p=true) (k:Int) (b:0<=k/\k<=2) (a:Nat) (m:1<=a) (n:a<=20000):Den Γ G 366 [(.agg [.t (.sl ((p).cells.map (Cell.enc))),.t (.sl ((p).modules.map (Contract.enc))),.t (.sl ((p).locks.map (Lock.enc))),.t (.sl ((p).threads.map (Thread.enc)))]),vi k,vi a]=some (vb true):=by
 have j:=wG p i;have g:(dh p).1=0:=by simpa[aO]using h
 have c:k>=0:=b.1;have d:k<=2:=b.2;have e:(a:Int)>=1:=aa
 have f:(a:Int)<=20000:=aa
 exact aD (q:=po j g c d e f)
theorem Wj (p:Prog) (i:p.sane) (f:aO p=true) (k:Int) (g:0<=k/\k<=2) (a:Nat) (d:1<=a) (e:a<=20000):
 Den Γ G 345 [(zP p),vi k,vi a]=some (match dX p k a with
  | some l=> .tup [.t (.sl (l.map fun v=>Config.enc v.c)),vi 0]
  | none=> .tup [.t (.sl []),vi 2]):=by
 have c:=Xg p i f k g a d e;have b:=Xf p i f k g a d e;rw[kcH]
 refine aD (q:=?_)
 cases h:(j4 p k a).2
 ·rw[h]at b;simp -dsimp only[go_sem,seval,c,b,zG,aX]
 ·rw[h]at b;simp -dsimp only[go_sem,seval,c,b,aU]
theorem WT (p:Prog) (e:p.sane) (c:aO p=true) (k:Int) (d:0<=k/\k<=2):Den Γ G 342 [(zP p),vi k]=some (vb (dX p k 40).isSome):=by
 have a:Den Γ G 345 [(zP p),vi k,vi 40]=_:=Wj p e c k d 40 aa aa
 refine aD (q:=?_)
 cases b:dX p k 40 with
 | none=>
   rw[b]at a
   simp -dsimp only[go_sem,seval,a,mc]
 | some l=>
   rw[b]at a;simp -dsimp only[go_sem,seval,a,na]
def l6 (c:Config):List V:=[.t (ints c.mem),.t (ints c.at_),.t (.sl (c.buf.map fun b=>[.sl (b.map Entry.enc)]))]
theorem kbP (c:Config):(Config.enc c).map V.t=l6 c:=rfl
theorem db {h:ae} {a b:Nat} {c d:Option O} (f:h a=c) (g:h b=d) (e:c≠d):a≠b:=by
 rintro rfl;exact e (f.symm.trans g)
theorem X0 {H:ae} {n a:Nat} {vL:V} {l:List Vis} (d:Vis) (f:H a=some (.rows 1 [[vL]] false)) (c:ay H n vL 3 (dx l)) (E:a<n) (D:l.length<2^30):
 ∃r h' g,DenR Γ G 376 [.agg (l6 d.c),.mp a 0 0] H n=some (r,h',g)/\(r=vb false/\ ∃b,h' a=some (.rows 1 [[b]] false)/\ay h' g b 3 (dx (l++[d]))/\n<=g/\(∀j,j<n->aK b j)/\(∀j,j<n->j≠a->aK vL j->h' j=H j)):=by
 unfold l6
 refine bM (q:=?_)
 have A:=c.valOf;have B:=c.r2;have y:a≠n+2+2:=aa
 refine aY f A B ?_;refine bX (c.upd aa _) aa (by rw[io];omega) aI rfl (M4 _) ?_;intro v hp e m i;have C:=e.valOf;have o:=e.cellsV;unfold V.cells at o;have w:aK vL a:=c.offAt fun rs h=>by rw[f]at h;cases h
 have s:=i a aa w;rw[aq,ac y,f]at s;refine aY C o s ?_;refine⟨rfl,v,am,?_,av,fun j x=>m j aa,fun j x u t=> ?_⟩
 ·rw[KT,kbP];refine ay.keep (h:=At (updC H (n+2+2) (some (O.rows 3 [l6 d.c] false))) hp) e av fun q F z=> ?_
  have:q≠a:=by
   rintro rfl;exact z (m q aa)
  refine ar this ?_;rfl
 ·refine ar u ?_;rw[i j aa t,aq,ac aa]
def qB (v:Vis):List V:=l6 v.c++[vi v.fr,vi v.x.thread,vi v.x.step,vi v.x.cell]
def iN (l:List Vis):List (List V):=l.map qB
theorem Ph {l:List Vis} {i:Nat} {v:Vis} (h:l[i]? =some v):(iN l)[i]? =some [.t (ints v.c.mem),.t (ints v.c.at_),.t (.sl (v.c.buf.map fun b=>[.sl (b.map Entry.enc)])),vi v.fr,vi v.x.thread,vi v.x.step,vi v.x.cell]:=by simp[iN,qB,l6,h]
theorem mr (l:List Vis):(iN l).length=l.length:=by simp[iN]
theorem YT (l:List Vis):((iN l).all fun r=>decide (r.length=7))=true:=by simp[iN,qB,l6]
theorem kcu {h:ae} {n b s t u v f w i o:Nat} {env:Nat->V} {x1 x2 x3 x4 x5 vL:V} {l lst:List Vis} {d:Vis} (e:h b=some (.loop env [11] jQ .ready)) (e3:env 3= .mp s 0 0) (e4:env 4= .mp t 0 0) (e5:env 5= .mp u 0 0)
 (J:h s=some (.rows 1 [[.mp v 0 0]] false)) (K:h t=some (.rows 1 [[vi o]] false)) (L:h u=some (.rows 1 [[.fn 376 [] [.mp f 0 0]]] false)) (M:h v=some (.rows 6 [[x1,x2,x3,x4,x5,.ms w 0 l.length]] false))
 (hV:h w=some (.rows 7 (iN l) false)) (N:l[i]? =some d) (y:h f=some (.rows 1 [[vL]] false)) (oL:ay h n vL 3 (dx lst)) (T:lst.length<2^30)
 (Z:b<n) (b3:s<n) (b4:t<n) (b5:u<n) (bS:v<n) (bV:w<n) (bL:f<n) (hi:(i:Int)≠o):
 ∃h' c,DenY Γ G b [vi i] h n=some (vb true,h',c)/\h' b=some (.loop env [11] jQ .ready)/\(∃a,h' f=some (.rows 1 [[a]] false)/\ay h' c a 3 (dx (lst++[d]))/\(∀j,j<n->aK a j))/\n<=c/\
  (∀j,j<n->j≠b->j≠f->aK vL j->h' j=h j):=by
 have:=su (Γ:=Γ) (G:=G) (vs:=[vi i]) (n:=n) (P:=fun x h' c=>x= .normal/\h' b=some (.loop env [11] jQ .busy)/\(∃a,h' f=some (.rows 1 [[a]] false)/\ay h' c a 3 (dx (lst++[d]))/\(∀j,j<n->aK a j))/\n<=c/\
  (∀j,j<n->j≠b->j≠f->aK vL j->h' j=h j)) e rfl (fun x h' c hP=>⟨_,_,_,hP.2.1⟩) (by
  have n3:s≠b:=db J e af;have n4:t≠b:=db K e af;have n5:u≠b:=db L e af;have nS:v≠b:=db M e af;have nV:w≠b:=db hV e af;have g:f≠b:=db y e af;have S:=Ph N;have AV:=(zH.1 N).1;have i0:(0:Int)<=(i:Int):=aa
  have i1:(i:Int)<(l.length:Int):=aa
  simp -dsimp only[go_sem,seval,e3,e4,e5,J,K,L,M,hV,n3,n4,n5,nS,nV,g,hi,S,i0,i1,mr];have F:aK vL b:=oL.offAt fun rs h=>by rw[e]at h;cases h
  refine bf (X0 d (l:=lst) (vL:=vL) (by rw[aq,ac g,aq,ac g];exact y) (oL.keep aa fun q B C=>by
   have:q≠b:=by rintro rfl;exact C F
   rw[aq,ac this,aq,ac this]) aa T) ?_
  rintro r h' c ⟨rfl,a,U,W,a3,X,H⟩;have I:=H b aa (bW g) F;rw[aq,ah rfl]at I;refine ax ?_;refine⟨rfl,I,⟨a,U,W,fun j hj=>X j aa⟩,aa,fun j Q m z A=> ?_⟩
  rw[H j aa z A,aq,ac m,aq,ac m])
 obtain⟨x,h',c,⟨rfl,B,⟨a,C,R,D⟩,q4,q5⟩,env',ps',Y,E,q7⟩:=this;rw[B]at E;simp only[zA,O.loop.injEq]at E;obtain⟨rfl,rfl,rfl,_⟩:=E;have g:f≠b:=db y e af;refine⟨_,c,q7,by rw[aq,ah rfl];rfl,⟨a,by rw[aq,ac g];exact C,?_,D⟩,q4,fun j Q m z A=>by rw[aq,ac m];exact q5 j Q m z A⟩
 exact R.keep (aA _) fun q r1 r2=>by
  have:q≠b:=by rintro rfl;exact r2 (R.offAt fun rs h=>by rw[B]at h;cases h)
  rw[aq,ac this]
theorem kct {h:ae} {n a r b c i:Nat} {env:Nat->V} {H I:Int} (e:h a=some (.loop env [11] jQ .ready)) (v:env 4= .mp r 0 0) (w:env 6= .mp b 0 0) (x:env 7= .mp c 0 0)
 (t:h r=some (.rows 1 [[vi i]] false)) (o:h b=some (.rows 1 [[vi H]] false)) (q:h c=some (.rows 1 [[vi I]] false)) (j:b≠c):
 ∃h' d,DenY Γ G a [vi i] h n=some (vb false,h',d)/\h' a=some (.loop env [11] jQ (.done .ret))/\h' b=some (.rows 1 [[vi 0]] false)/\h' c=some (.rows 1 [[vi 2]] false)/\n<=d:=by
 have:=su (Γ:=Γ) (G:=G) (vs:=[vi i]) (n:=n) (P:=fun m h' d=>m= .ret/\h' a=some (.loop env [11] jQ .busy)/\h' b=some (.rows 1 [[vi 0]] false)/\h' c=some (.rows 1 [[vi 2]] false)/\n<=d) e rfl (fun m h' d y=>⟨_,_,_,y.2.1⟩) (by
  have z:r≠a:=db t e af;have f:b≠a:=db o e af;have g:c≠a:=db q e af;refine kT v w x t o q z f g j j.symm ?_
  refine⟨rfl,by simp -dsimp only[go_sem,seval,bW f,bW g];rfl,al j,am,av⟩)
 obtain⟨m,h',d,⟨rfl,B,C,D,E⟩,env',A,u,s,F⟩:=this;rw[B]at s;simp only[zA,O.loop.injEq]at s;obtain⟨rfl,rfl,rfl,_⟩:=s;have f:b≠a:=db o e af;have g:c≠a:=db q e af;exact⟨_,d,F,by rw[aq,ah rfl];rfl,by rw[aq,ac f];exact C,by rw[aq,ac g];exact D,E⟩
def wl (l:List Int):List (List UInt8):=l.map num++[[59]]
theorem M3 {h:ae} {x c:Nat} {v:V} {ws:List (List UInt8)} (d:ay h x v 1 (eR ws)) (f:h c=some (.rows 1 [[v]] false)):aK v c:=by
 rcases d with⟨rfl,_⟩ | ⟨k,rfl,g,b⟩
 ·intro i n e;cases e
 ·intro i n e;simp only[V.ms.injEq]at e;obtain⟨rfl,_,_⟩:=e;rw[f]at b;simp only[zA,O.rows.injEq,nK,nr]at b
  cases ws with
  | nil=>simp[eR]at b
  | cons a l=>simp[eR]at b
theorem tv {H:ae} {n b:Nat} {D:V} {ws:List (List UInt8)} {d:List Int} (N:H b=some (.rows 1 [[D]] false)) (P:ay H n D 1 (eR ws)) (Y:b<n) (X:ws.length+d.length<2^30) (hi: ∀z∈d,inI z):
 ∃r h' B,DenR Γ G 387 [.t (ints d),.mp b 0 0] H n=some (r,h',B)/\(∃a,h' b=some (.rows 1 [[a]] false)/\ay h' B a 1 (eR (ws++wl d))/\n<=B):=by
 refine bM (q:=ax ?_);refine aS 130960 d.length (fun i f h x=>(f 7).v=vi i/\ ∃a,h b=some (.rows 1 [[a]] false)/\ay h x a 1 (eR (ws++(d.take i).map num))/\n<=x) rfl ⟨am,D,al N,by simp -dsimp only[go_sem,seval,ft,be,bQ];exact P.le (by simp[nC]),by simp[nC]⟩ ?_;rintro i f u h x bs U ⟨s,a,j,c,W⟩;have Q:=aC i aa;have J:=c.valOf;have F:=M3 c j;have K:=c.r2;have S:=c.r3
 by_cases w:i<d.length
 ·have y:=aW w;obtain⟨z,I,M⟩:=aw w;have L:=kaV z (hi z M);have m:b≠x+1+3+3:=aa
  refine dc s y I L j J S ?_;refine bX (c.upd aa _) aa (by rw[xW];simp;omega) aI rfl (xY _) ?_;intro v hp e A t;have E:=e.valOf;have g:=t b aa F;rw[aq,ac m,j]at g;have o:=e.cellsV;unfold V.cells at o;refine bw E o g s ?_;refine⟨aa,al Q,v,a_ m g,?_,av⟩;refine ax ?_;rw[bc I,dZ,<- zQ,xX];refine ay.keep (h:=At (updC h (x+1+3+3) (some (O.rows 1 [[V.t (T.str (Rg.bs (num z)))]] false))) hp) e aa fun q R C=> ?_
  have:q≠b:=by
   rintro rfl;exact C (A q aa)
  exact al this
 ·have y:=aJ w;have:i=d.length:=aa
  subst this;rw[bg]at c;have K:=c.r2;have m:b≠x+1+1:=aa
  refine cw s y j J K c.r1 ?_;refine bX (c.upd aa _) aa (by rw[xW];simp;omega) aI rfl (xY _) ?_;intro v hp e A t;have E:=e.valOf;have g:=t b aa F;rw[aq,ac m,j]at g;have o:=e.cellsV;unfold V.cells at o;refine bw E o g s ?_;refine⟨v,a_ m g,?_,av⟩;refine ax ?_;rw[wl,<- zQ,xX];refine ay.keep (h:=At (updC h (x+1+1) (some (O.rows 1 [[V.t (T.str (Rg.bs [59]))]] false))) hp) e aa fun q R C=> ?_
  have:q≠b:=by
   rintro rfl;exact C (A q aa)
  exact al this
def entW (e:Entry):List (List UInt8):=wl e.cells++wl e.values
def bufW (b:List Entry):List (List UInt8):=b.flatMap entW++[[47]]
def cfgW (c:Config):List (List UInt8):=wl c.mem++wl c.at_++c.buf.flatMap bufW
def lK (c:Config):ByteArray:=bs (Go.Lib.join (cfgW c) [32])
structure SmlC (c:Config):Prop where
 m: ∀n∈c.mem,inI n
 a: ∀n∈c.at_,inI n
 e: ∀b∈c.buf,b.length<=3/\ ∀e∈b,(∀n∈e.cells,inI n)/\(∀n∈e.values,inI n)/\e.cells.length<=32/\e.values.length<=32
 l:c.mem.length<=32/\c.at_.length<=4/\c.buf.length<=4
theorem Sv {p:Prog} (f:aO p=true) {c:Config} (d:IsB p c):SmlC c:=by
 obtain⟨⟨F,G,H,I⟩,_⟩:=cO (cP f).1;obtain⟨w,o,_⟩:=mj f;have C:=d.lm;have D:=d.la;have E:=d.lb;have g:iQ 1 c=c.mem++c.at_.map (· +1)++c.buf.flatMap dW:=rfl;have h: ∀n∈iQ 1 c,0<=n/\n<256:=fun n a=>by have:=qa f (sh:=1) aa d n a;omega
 refine⟨fun n a=> ?_,fun n a=> ?_,fun b j=> ?_,aa,aa,aa⟩
 ·have:=h n (by rw[g];simp[a]);unfold inI;omega
 ·have:=h (n+1) (by rw[g];simp only[cx,df];exact .inl (.inr ⟨n,a,rfl⟩));unfold inI;omega
 ·obtain⟨t,v⟩:=eC j;refine⟨(d.buf t b v).1,fun e u=> ?_⟩;have hp:=d.ent b j e u;have B:=gQ hp;have s:=hp.len;refine⟨fun n a=> ?_,fun n a=> ?_,aa,aa⟩
  ·have:=lA hp a;unfold inI;omega
  ·obtain⟨i,hi⟩:=eC a;have m:i<e.cells.length:=by rw[<- s];exact(zH.1 hi).1
   obtain⟨A,y,q,x,_,z,r⟩:=hp.cell i _ n (zI m) hi;have:=yI (o y (zL q)) r;unfold inI;omega
theorem kW (l:List Int):(wl l).length=l.length+1:=by simp[wl]
theorem uS {l:List Int} (h: ∀n∈l,inI n): ∀w∈wl l,w.length<=21:=by
 intro w a;simp only[wl,cx,df,bD]at a;rcases a with⟨n,b,rfl⟩ | rfl
 ·exact kbX n (h n b)
 ·simp
theorem tO {α β:Type} {f:α->List β} {m:Nat}: ∀{l:List α},(∀x∈l,(f x).length<=m)->(l.flatMap f).length<=m*l.length
 | [],_=>af
 | x::l,h=>by
   have b:=h x af;have c:=tO (l:=l) fun y a=>h y (by simp[a])
   rw[dq,zM,d6,xg];omega
theorem SmlC.entW {c:Config} (h:SmlC c) {b:List Entry} (g:b∈c.buf):(∀e∈b,(Rg.entW e).length<=66)/\(Rg.bufW b).length<=199:=by
 obtain⟨f,i⟩:=h.e b g
 have d: ∀e∈b,(Rg.entW e).length<=66:=fun e j=>by
  obtain⟨_,_,a,b⟩:=i e j;rw[Rg.entW,zM,kW,kW];omega
 refine⟨d,?_⟩;have:=tO d;have:66*b.length<=66*3:=rx _ f;rw[Rg.bufW,zM,fN];omega
theorem SmlC.bufs {c:Config} (h:SmlC c) (t:Nat):((c.buf.take t).flatMap Rg.bufW).length<=796:=by
 have:=tO (l:=c.buf.take t) fun b d=>(h.entW (lq d)).2
 have a:(c.buf.take t).length<=4:=by rw[bJ];have:=h.l.2.2;omega
 have:199*(c.buf.take t).length<=199*4:=rx _ a;omega
theorem SmlC.cfgW {c:Config} (h:SmlC c):(Rg.cfgW c).length<=850/\ ∀w∈Rg.cfgW c,w.length<=21:=by
 constructor
 ·have:=h.bufs c.buf.length;rw[bg]at this;obtain⟨g,i,j⟩:=h.l;rw[Rg.cfgW,zM,zM,kW,kW];omega
 ·intro w a;simp only[Rg.cfgW,cx,de,Rg.bufW,bD,Rg.entW]at a;rcases a with(a | a) | ⟨b,d,⟨e,f,a | a⟩ | rfl⟩
  ·exact uS h.m w a
  ·exact uS h.a w a
  ·exact uS ((h.e b d).2 e f).1 w a
  ·exact uS ((h.e b d).2 e f).2.1 w a
  ·simp
theorem Si {m:Nat}: ∀{l:List (List UInt8)},(∀w∈l,w.length<=m)->(l.map List.length).sum<=m*l.length
 | [],_=>af
 | x::l,h=>by
   have b:=h x af;have c:=Si (l:=l) fun y a=>h y (by simp[a])
   rw[aT,qX,d6,xg];omega
theorem SmlC.joinD {c:Config} (h:SmlC c):Den Γ G 259 [.t (.sl ((Rg.cfgW c).map fun x=>[.str (bs x)])),.t (.str (bs [32]))]=some (.t (.str (lK c))):=by
 obtain⟨a,b⟩:=h.cfgW;have d:=Zw (Rg.cfgW c);have e:=Si b;have:21*(Rg.cfgW c).length<=21*850:=rx _ a;exact kav _ aa aa
theorem Le (c:Config) (j:SmlC c):Den Γ G 377 [(.agg [.t (ints (c).mem),.t (ints (c).at_),.t (.sl ((c).buf.map (fun b=>[.sl (b.map Entry.enc)])))])]=some (.t (.str (lK c))):=by
 obtain⟨l1,l2,l3⟩:=j.l;have e0:eR []=[]:=rfl
 refine aD (q:=ax ?_);refine bf (tv (ws:=[]) am (.inl ⟨rfl,rfl⟩) aa (by simp;omega) j.m) ?_;rintro r h' n' ⟨g,d,a,q3⟩;rw[eY]at a;refine ax ?_;refine bf (tv d (a.le aa) aa (by rw[kW];omega) j.a) ?_;clear d a;rintro r h' n2 ⟨g,d,a,q4⟩;refine ax ?_
 refine aS 17592183947584 c.buf.length (fun t f h x=>(f 21).v=vi t/\ ∃g,h 2=some (.rows 1 [[g]] false)/\ay h x g 1 (eR ((wl c.mem++wl c.at_)++(c.buf.take t).flatMap bufW))/\2<x) rfl
  ⟨am,g,al d,by simp -dsimp only[go_sem,seval,ft,fK,bQ];exact a.le aa,av⟩ ?_
 clear d a;rintro t f u h x bs H ⟨m,g,d,a,I⟩;have hw:=aC t aa;have D4:=j.bufs t
 by_cases o:t<c.buf.length
 ·have s:=aW o;obtain⟨b,E,C⟩:=aw o;obtain⟨S,b2⟩:=j.entW C;obtain⟨b3,U⟩:=j.e b C;refine aY m s E ?_
  refine aS 1099377410304 b.length (fun i f h x=>(f 27).v=vi i/\ ∃g,h 2=some (.rows 1 [[g]] false)/\ay h x g 1 (eR (((wl c.mem++wl c.at_)++(c.buf.take t).flatMap bufW)++(b.take i).flatMap entW))/\2<x) rfl
   ⟨am,g,al d,by simp -dsimp only[go_sem,seval,ft,fK,bQ];exact a.le aa,av⟩ ?_
  clear d a I;rintro i f u h x bs hi ⟨w,g,d,a,I⟩;have M:=aC i aa
  have Q:((b.take i).flatMap entW).length<=198:=by
   have:=tO (l:=b.take i) fun e n=>S e (lq n)
   have:66*(b.take i).length<=66*3:=rx _ (by rw[bJ];omega);omega
  by_cases z:i<b.length
  ·have y:=aW z;obtain⟨e,n,P⟩:=aw z;obtain⟨Y,Z,f3,f4⟩:=U e P
   generalize D:((wl c.mem++wl c.at_)++(c.buf.take t).flatMap bufW)++(b.take i).flatMap entW=L at *
   have Pu:L.length<=2000:=by
    rw[<- D,zM,zM,zM,kW,kW];omega
   refine bw w y n @Entry.enc.eq_1 ?_;refine bf (tv d (a.le aa) aa aa Y) ?_;clear d a;rintro r h' n3 ⟨g,d,a,q6⟩;refine ax ?_;refine bf (tv d (a.le aa) aa (by rw[zM,kW];omega) Z) ?_;clear d a;rintro r h' n4 ⟨g,d,a,q7⟩;refine ar w ?_;refine⟨aa,al M,g,al d,?_,av⟩;refine ax ?_;rw[bc n,i7,<- zQ,D,show [e].flatMap entW=wl e.cells++wl e.values by simp[entW],<- zQ];exact a.le aa
  ·have y:=aJ z;have:i=b.length:=aa
   subst this;rw[bg]at a Q;have v1:=a.valOf;have v2:=a.r2;have v3:=a.r3;have R:=M3 a d;refine dc w y m d v1 v2 v3 ?_;have n1:(2:Nat)≠x+1+1:=aa
   refine bX (a.upd aa _) aa (by rw[xW,zM,zM,zM,kW,kW];omega) aI rfl (xY _) ?_;intro v hp A N K;have w1:=A.valOf;have J:=A.cellsV;unfold V.cells at J;have B:=K 2 aa R;rw[aq,ac n1,d]at B;refine bw w1 J B m ?_;refine⟨aa,al hw,v,al B,?_,av⟩;refine ax ?_;rw[bc E,i7,<- zQ,show [b].flatMap bufW=b.flatMap entW++[[47]]by simp[bufW],<- zQ,xX];refine ay.keep (h:=At (updC h (x+1+1) (some (O.rows 1 [[V.t (T.str (Rg.bs [47]))]] false))) hp) A aa fun q d a=> ?_
   have:q≠2:=by
    rintro rfl;exact a (N _ aa)
   exact al this
 ·have s:=aJ o;have:t=c.buf.length:=aa
  subst this;rw[bg]at a;have F:=j.joinD;unfold cfgW at F;have H:=XB h 999 ((wl c.mem++wl c.at_)++c.buf.flatMap bufW);rcases a with⟨rfl,W⟩ | ⟨k,rfl,e2,X⟩
  ·simp[eR,wl]at W
  ·refine bw m s d X ?_;rw[ah (aA _),bg,zD,H];exact al F
end Rg
end

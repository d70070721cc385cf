/- Part of the proof of laws of relyguardlaw36. No condition. -/
import Derived.Test.YtaiokglcgiemnaaGreatDoorFartAR
import Derived.Test.YtaiokglcgiemnaaGreatDoorFartAP
import Derived.Test.YtaiokglcgiemnaaGreatDoorFartAO
set_option linter.unusedSimpArgs false
set_option linter.unusedVariables false
set_option linter.defProp false
section
namespace Rg
open Go
def noF:Option O->Option O
 | some (.rows sz rs _)=>some (.rows sz rs true)
 | o=>o
theorem pH {o:Option O} {b:Nat} {rs:List (List V)} {f:Bool} (h:noF o=noF (some (.rows b rs f))): ∃a,o=some (.rows b rs a):=by
 match o with
 | none=>cases h
 | some (.rows sz' rs' a)=>cases h;exact⟨a,rfl⟩
 | some (.map _)=>cases h
 | some (.loop _ _ _ _)=>cases h
 | some (.raw _)=>cases h
 | some .dead=>cases h
theorem zd {a b:Option O} (h:noF a=noF b):a=b\/ ∃c rs f d,a=some (.rows c rs f)/\b=some (.rows c rs d):=by
 match a,b with
 | some (.rows c rs f),b=>
   obtain⟨d,rfl⟩:=pH h.symm
   exact .inr ⟨c,rs,f,d,rfl,rfl⟩
 | a,some (.rows c rs f)=>
   obtain⟨d,rfl⟩:=pH h
   exact .inr ⟨c,rs,d,f,rfl,rfl⟩
 | none,none=>exact .inl rfl
 | none,some (.map _)=>cases h
 | none,some (.loop _ _ _ _)=>cases h
 | none,some (.raw _)=>cases h
 | none,some .dead=>cases h
 | some (.map _),none=>cases h
 | some (.loop _ _ _ _),none=>cases h
 | some (.raw _),none=>cases h
 | some .dead,none=>cases h
 | some (.map _),some (.map _)=>exact .inl h
 | some (.map _),some (.loop _ _ _ _)=>exact .inl h
 | some (.map _),some (.raw _)=>exact .inl h
 | some (.map _),some .dead=>exact .inl h
 | some (.loop _ _ _ _),some (.map _)=>exact .inl h
 | some (.loop _ _ _ _),some (.loop _ _ _ _)=>exact .inl h
 | some (.loop _ _ _ _),some (.raw _)=>exact .inl h
 | some (.loop _ _ _ _),some .dead=>exact .inl h
 | some (.raw _),some (.map _)=>exact .inl h
 | some (.raw _),some (.loop _ _ _ _)=>exact .inl h
 | some (.raw _),some (.raw _)=>exact .inl h
 | some (.raw _),some .dead=>exact .inl h
 | some .dead,some (.map _)=>exact .inl h
 | some .dead,some (.loop _ _ _ _)=>exact .inl h
 | some .dead,some (.raw _)=>exact .inl h
 | some .dead,some .dead=>exact .inl h
theorem Sy {h h':ae} (m: ∀k,noF (h k)=noF (h' k)): ∀(d:Nat) (v:V),toT h d v=toT h' d v:=by
 intro d
 induction d with
 | zero=>intro v;cases v<;>simp only[toT]
 | succ d r=>
   intro v;have j:toT h d=toT h' d:=funext r
   match v with
   | .t x=>simp only[toT]
   | .ms k i n=>
     rcases zd (m k)with e | ⟨q,rs,f,o,c,g⟩
     ·simp only[toT,e,j]
     ·simp only[toT,c,g,j]
   | .mp k i n=>
     rcases zd (m k)with e | ⟨q,rs,f,o,c,g⟩
     ·simp only[toT,e,j]
     ·simp only[toT,c,g,j]
   | .fn f a b=>simp only[toT,j]
   | .mm k=>
     rcases zd (m k)with e | ⟨q,rs,f,o,c,g⟩
     ·simp only[toT,e]
     ·simp only[toT,c,g]
   | .yl k=>simp only[toT]
   | .agg cs=>simp only[toT]
   | .tup cs=>simp only[toT]
   | .undef=>simp only[toT]
   | .lb=>simp only[toT]
theorem SY (h:ae): ∀(l:List Nat) (g:ae) (k:Nat),noF (g k)=noF (h k)->noF (At g (freezes h l) k)=noF (h k)
 | [],g,k,hg=>by simpa only[freezes,rC,bE]using hg
 | q::l,g,k,hg=>by
   have c:=SY h l;unfold freezes at c⊢;rw[sZ];split
   ·exact c g k hg
   ·rename_i b a;rw[cB];split at a
    ·rename_i i rs f e;cases a;refine c _ k ?_;rw[aq];split
     ·rename_i d;rw[d,e];rfl
     ·exact hg
    ·cases a
theorem S6 (h:ae): ∀(l:List Nat) (g:ae) (k:Nat),k∉ l->At g (freezes h l) k=g k
 | [],g,k,_=>by simp only[freezes,rC,bE]
 | q::l,g,k,hk=>by
   have c:=S6 h l;unfold freezes at c⊢;rw[sZ];simp only[cj,ld]at hk;split
   ·exact c g k hk.2
   ·rename_i b a;rw[cB];split at a
    ·cases a;rw[c _ k hk.2,aq,ac hk.1]
    ·cases a
theorem kaU {r:V} {h:ae} {vs:List V} {K:V->ae->Prop} {w:WK K} (a: ∀b,(∀k,noF (b k)=noF (h k))->(∀k,k∉ vs.flatMap (bX h)->b k=h k)->K r b):fe (some r) false h vs K w:=by
 unfold fe;simp only;split
 ·exact a _ (fun _=>rfl) fun _ _=>rfl
 ·exact⟨fun h=>Bool.noConfusion h,a _ (fun k=>SY h _ h k rfl) fun k a=>S6 h _ h k a⟩
theorem wG {h:ae} {k:Nat} {l:List Int} {f:Bool} {i n d:Nat} (g:h k=some (.rows 1 (ai l) f)):b_ h (d+1) (.ms k i n)=[k]:=by
 have e: ∀r∈ai l,∀v∈r,V.tree v=true:=by
  intro r j v a;obtain⟨b,c,rfl⟩:=cv.1 j;obtain⟨n,_,rfl⟩:=cv.1 c;simp at a;subst a;rfl
 simp only[b_,g,Mt h d e]
theorem M3 {α:Type} {l:List α} {i i0:Nat} {a:α} (h:l[i]? =some a):(l.take (i+1)).eraseIdx i0=if i=i0 then(l.take i).eraseIdx i0 else(l.take i).eraseIdx i0++[a]:=by
 have b:(l.take i).length=i:=by rw[bJ];have:=(zH.1 h).1;omega
 rw[a8 h];split
 ·rename_i e;subst e;rw[List.eraseIdx_append_of_length_le aa,b,dJ,A_ (l:=List.take i l) aa];simp
 ·rename_i e;rcases bv i i0 with c | c
  ·rw[A_ (by rw[zM,b,fR];omega),A_ aa]
  ·rw[List.eraseIdx_append_of_lt_length aa]
theorem Xf (p:Prog) (hf:aM p=true) (c:Config) (Z:IsB p c) (t:Nat) (ht:t<p.threads.length) (i0:Nat) (e:Entry) (he:(aF c t)[i0]? =some e)
 (DF: ∀(j:Nat) (f:Entry),j<i0->(aF c t)[j]? =some f->cn f≠cn e):
 Den Γ G 355 [(.agg [.t (ints (c).mem),.t (ints (c).at_),.t (.sl ((c).buf.map (fun b=>[.sl (b.map Entry.enc)])))]),vi t,vi (cn e)]=some (.agg [.t (ints (c6 c t i0).mem),.t (ints (c6 c t i0).at_),.t (.sl ((c6 c t i0).buf.map (fun b=>[.sl (b.map Entry.enc)])))]):=by
 obtain⟨⟨m1,m2,m3,m4⟩,_⟩:=cR (cS hf).1;have By:=(mw hf).1;have l1:=Z.lm;have l2:=Z.la;have l3:=Z.lb;have Ag:=fA (c:=c) (t:=t) aa;obtain⟨b1,b2,_⟩:=Z.buf t _ Ag;have AV:=(zH.1 he).1;have X:=b2 e (zL he)
 refine aB (q:=aE ?_);refine be (OJ p hf c Z _) ?_;rintro r h' s ⟨vM,vA,m,rfl,x1,x2,bd,vs,hM,hA,CK,AT,AF,hB,F,H8⟩;obtain⟨Kg,BI⟩:=hM.val;obtain⟨Bu,Bi⟩:=hA.val;obtain⟨v,hv,rows,B1,Bb,BC,Bh⟩:=F.at_ t _ Ag;have OM:=F.le (q:=0) (r:=t) aa aa;have OL:=F.le (q:=t+1) (r:=c.buf.length) aa (ax _);rcases B1 with⟨rfl,h0⟩ | ⟨kb,rfl,b3,b4,b5⟩
 ·exfalso;rw[h0]at Bb;simp at Bb;omega
 unfold V.cells at BI Bi;have t0:(0:Int)<=(t:Int):=aa
 have t1:(t:Int)<(c.buf.length:Int):=aa
 refine cV Kg BI Bu Bi ?_
 refine aS 2251799813672832 rows.length (fun i f h z=>(f 10).v=vi i/\(f 9).v=vb (decide (i0<i))/\(f 7).v= .lb/\(f 7).box=some [if i0<i then .t (ints (d6 c.mem e))else vM,vA,.ms m 0 c.buf.length]/\
  aw h z (f 8).v 2 ((rows.take i).eraseIdx i0)/\(∀q,q<s->noF (h q)=noF (h' q)/\aJ (f 8).v q)/\h m=some (.rows 1 vs false)/\s<=z) rfl
  ⟨am,by simp -dsimp only[go_sem,seval,sT,pU],am,by simp -dsimp only[go_sem,seval,sT,aX],.inl ⟨am,af⟩,fun q x=>⟨am,by simp -dsimp only[go_sem,seval];intro i n h;cases h⟩,al hB,av⟩ ?_
 rintro i f u H z bs hi ⟨R,J,I,D,E,y,S,hz⟩;have hw:=ay i aa;obtain⟨fb,Do⟩: ∃K,H kb=some (.rows 2 rows K):=pH (by rw[(y kb aa).1,b5])
 by_cases Ad:i<rows.length
 ·have W:=aW Ad;obtain⟨g,hg,Ku⟩:=au (show i<(aF c t).length from aa);obtain⟨r,C,U,kv,rfl,a1,a2,a3,a4,a5,a6⟩:=Bh i g hg;have OY:=b2 g Ku;obtain⟨fc,DO⟩: ∃K,H U=some (.rows 1 (ai g.cells) K):=pH (by rw[(y U aa).1,a5]);obtain⟨fv,Eh⟩: ∃K,H kv=some (.rows 1 (ai g.values) K):=pH (by rw[(y kv aa).1,a6])
  have CM:(ai g.cells)[0]? =some [vi (cn g)]:=by
   have:=OY.ne
   cases AL:g.cells with
   | nil=>exact absurd AL this
   | cons n l=>simp[cn,AL,ai]
  have LK:(0:Int)<(g.cells.length:Int):=by
   have:=wn.2 OY.ne;omega
  have N:(0:Int)<=(i:Int):=aa
  have P:(i:Int)<(rows.length:Int):=aa
  by_cases Ks:i=i0
  ·subst Ks;rw[he]at hg;cases hg;have T:decide (i<i)=false:=af
   rw[T]at J;rw[ac (lH i)]at D
   have Y:toT H 1000=toT (fun q=>if q<s then h' q else H q) 1000:=funext (Sy (fun q=>by
    show noF (H q)=noF (if q<s then h' q else H q);split
    ·exact(y q ‹_›).1
    ·rfl) 1000)
   have QV:toT1 H vM=some (.t (ints c.mem)):=by
    have L:=(hM.keep (h':=fun q=>if q<s then h' q else H q) fun q q1 q2=>by rw[ah aa]).tree 999;rw[<- Y]at L;rcases hM with⟨rfl,_⟩ | ⟨k,rfl,_⟩<;>simp only[toT1,L,cZ]
   have QP:toT1 H (.agg [.ms U 0 e.cells.length,.ms kv 0 e.values.length])=some (.agg [.t (ints e.cells),.t (ints e.values)]):=by
    have hE:m8 h' (bd t) (bd (t+1)) [.ms U 0 e.cells.length,.ms kv 0 e.values.length] e:=⟨U,kv,rfl,a1,a2,a3,a4,a5,a6⟩
    have L:=(hE.keep (h':=fun q=>if q<s then h' q else H q) (ax _) (ax _) fun q q1 q2 _=>by rw[ah aa]).tree 999;rw[<- Y]at L;simp only[toT1,L];rfl
   have Gy:=Nl c.mem e aa X.len (fun n hn=>by have:=lK X hn;omega) (by obtain⟨n,hn⟩:=HA _ X.ne;have:=(lK X hn).2.1;omega) (by have:=g6 X;omega)
   have hL: ∀k∈[vM,.agg [.ms U 0 e.cells.length,.ms kv 0 e.values.length]].flatMap (bX H),k<s/\k≠m:=by
    intro k B;simp only[dr,fQ,bK,cA]at B;rcases B with B | B
    ·rcases hM with⟨rfl,_⟩ | ⟨kM,rfl,g1,g2,g3⟩
     ·simp[bX,b_]at B
     ·obtain⟨fm,GL⟩: ∃K,H kM=some (.rows 1 (ai c.mem) K):=pH (by rw[(y kM aa).1,g3]);rw[show bX H (.ms kM 0 (ai c.mem).length)=[kM]from wG (d:=999) (i:=0) (n:=(ai c.mem).length) GL]at B;simp at B;subst B;omega
    ·simp only[bX,dr,fQ,bK,wG (d:=999) DO,wG (d:=999) Eh]at B;simp at B;rcases B with rfl | rfl<;>omega
   simp -dsimp only[go_sem,seval,R,J,I,D,S,hv,t0,t1,Do,W,N,P,C,DO,CM,LK,Kg,↓QV,↓QP,Gy];refine kaU fun H' Fj Fh=> ?_
   refine bj R I D ?_;have OE:H' m=some (.rows 1 vs false):=by rw[Fh m fun h=>(hL m h).2 rfl];exact S
   refine⟨aa,al hw,by simp -dsimp only[go_sem,seval,vm,jt],al I,by simp -dsimp only[go_sem,seval,D,vm,aT],?_,fun q x=>⟨by simp -dsimp only[go_sem,seval,Fj];exact(y q x).1,by simp -dsimp only[go_sem,seval];exact(y q x).2⟩,al OE,av⟩;rw[M3 C,ah rfl];refine aE ?_;refine E.keep aa fun k k1 k2=>Fh k fun h=>k2 (y k (hL k h).1).2
  ·have Q8: ∀(α:Type) (a b:α),(if i0<i+1 then a else b)=if i0<i then a else b:=fun α a b=>by
    rcases bv i0 i with A | A
    ·rw[ah A,ah aa]
    ·rw[ac aa,ac aa]
   have IB:decide (i0<i+1)=decide (i0<i):=by
    rcases bv i0 i with A | A
    ·rw[sD A,sD aa]
    ·rw[no aa,no aa]
   have QO:(((rows.take i).eraseIdx i0).all fun r=>decide (r.length=2))=true:=zN.2 fun r C=>ak (BC r (lG (v6 C)))
   have BX:((rows.take i).eraseIdx i0).length<2^32:=by
    have:=HL (rows.take i) i0;rw[bJ]at this;omega
   have v1:=E.valOf;have v4:=E.r4
   rcases(show(decide (i0<i)=false/\cn g≠cn e)\/decide (i0<i)=true by
    rcases bv i i0 with A | A
    ·exact .inl ⟨by simp;omega,DF i g A hg⟩
    ·exact .inr (by simp;omega))with⟨T,Az⟩ | T
   case' inl=>
    rw[T]at J;simp -dsimp only[go_sem,seval,R,J,I,D,S,hv,t0,t1,Do,W,N,P,C,DO,CM,LK,Az,v1,v4]
   case' inr=>
    rw[T]at J;simp -dsimp only[go_sem,seval,R,J,I,D,S,hv,t0,t1,Do,W,N,P,C,v1,v4]
   all_goals
    refine bY (E.upd aa _) aa BX aG rfl QO ?_;intro v2 hp hO Bp Aq;have w1:=hO.valOf;have C6:=M3 (i0:=i0) C;rw[ac Ks]at C6;rw[<- C6]at hO;refine cV w1 R I D ?_;refine⟨aa,al hw,dx J IB T,al I,bh D Q8,by simp -dsimp only[go_sem,seval];exact hO.le aa,fun q x=>⟨?_,by simp -dsimp only[go_sem,seval];exact Bp q aa⟩,?_,av⟩
    ·refine aE ?_;rw[Aq q aa (y q x).2,aq,ac aa];exact(y q x).1
    ·refine aE ?_;rw[Aq m aa (y m aa).2,aq,ac aa];exact S
 ·have W:=aI Ad;have:i=rows.length:=aa
  subst this;rw[bc]at E;rw[ah aa]at D;have v1:=E.valOf;have HP: ∀q,q<s->aJ (f 8).v q:=fun q x=>(y q x).2
  have Qp: ∀q,q<s->noF (H q)=noF (h' q):=fun q x=>(y q x).1
  have Mv:=E.cellsV;unfold V.cells at Mv
  generalize hl:(f 8).v=l at *
  have hC:c6 c t i0=⟨d6 c.mem e,c.at_,c.buf.set t ((aF c t).eraseIdx i0)⟩:=by simp only[c6,he]
  have Y: ∀(o:Option O) (d:Nat),toT (updC H m o) d=toT (fun q=>if q<s/\q≠m then h' q else updC H m o q) d:=fun o d=>funext (Sy (fun q=>by
   show noF (updC H m o q)=noF (if q<s/\q≠m then h' q else updC H m o q);split
   ·rename_i h;rw[aq,ac h.2];exact Qp q h.1
   ·rfl) d)
  have AQ: ∀(o:Option O) q,q<s->q≠m->(fun q=>if q<s/\q≠m then h' q else updC H m o q) q=h' q:=fun o q q1 q2=>by
   show(if q<s/\q≠m then h' q else updC H m o q)=h' q;rw[ah ⟨q1,q2⟩]
  have f4: ∀o:Option O,toT (updC H m o) 1000 vA=some (ints c.at_):=fun o=>by
   rw[Y];exact(hA.keep fun q q1 q2=>AQ o q aa aa).tree 999
  have f5: ∀v,(vs.set t [v]).length=c.buf.length:=fun v=>by rw[cJ];exact F.len
  have f6: ∀v,List.take c.buf.length (vs.set t [v])=vs.set t [v]:=fun v=>ec (f5 v).symm
  have f7: ∀o:Option O,(vs.set t [l]).mapM (fun row=>row.mapM (toT (updC H m o) 999))=some ((c.buf.set t ((aF c t).eraseIdx i0)).map fun b=>[.sl (b.map Entry.enc)]):=by
   intro o;rw[Y];refine nU _ _ (by rw[f5,cJ]) fun j b M=> ?_
   rw[cu]at M
   by_cases hj:t=j
   ·subst hj;rw[ah rfl,ah aa]at M;simp only[zA]at M;subst M;refine⟨_,by rw[cu,ah rfl,ah (by have:=F.len;omega)],?_⟩;refine ic.tree (lo:=0) (hi:=s+z) ⟨rows.eraseIdx i0,?_,by rw[px aa,px AV,Bb],fun r C=>BC r (v6 C),fun q e0 x=> ?_⟩ 997
    ·rcases E with h | ⟨Q,rfl,h2,L⟩
     ·exact .inl h
     ·have Mw: ¬Q<s:=fun h=>HP Q h 0 _ rfl
      refine .inr ⟨Q,rfl,aa,aa,?_⟩;show(if Q<s/\Q≠m then h' Q else updC H m o Q)=_;rw[ac fun h=>Mw h.1,aq,ac aa];exact L
    ·rw[H7]at x⊢
     have key: ∀q',(aF c t)[q']? =some e0-> ∃r:List V,rows[q']? =some r/\m8 (fun q=>if q<s/\q≠m then h' q else updC H m o q) 0 (s+z) r e0:=fun q' Eu=>by
      obtain⟨r,C,hE⟩:=Bh q' e0 Eu;exact⟨r,C,hE.keep (pn _) aa fun w w1 w2 _=>AQ o w aa aa⟩
     split at x
     ·rename_i A;rw[ah A];exact key _ x
     ·rename_i A;rw[ac A];exact key _ x
   ·rw[ac hj]at M;obtain⟨u,hu,Hn⟩:=F.at_ j b M;have AN:=(zH.1 M).1;have u1:=F.le (q:=0) (r:=j) aa aa;have u2:=F.le (q:=j+1) (r:=c.buf.length) aa (ax _);exact⟨u,by rw[cu,ac hj];exact hu,(Hn.keep (ax _) fun q q1 q2=>AQ o q aa aa).tree 997⟩
  rw[hC];simp -dsimp only[go_sem,seval,R,J,I,D,S,hv,t0,t1,Do,W,v1,hl,Mv,Bu,Bi,f4,f5,f6,f7,iI,ax]
theorem YQ {p:Prog} {k:Int} {c:Config} (b:IsK p k c) {t:Nat} {s:Step} (h:k=0\/s.kind≠3):
 kZ p k c t s=⟨bm c.mem (aK c t) s.set,if s.kind=6 then(c.at_.set t s.to).set s.target.toNat 0 else c.at_.set t s.to,c.buf⟩:=by
 unfold kZ;split
 ·rename_i a;have d:=b.q a;rw[Mx d,YT b.b.lb d];rfl
 ·rename_i a;have e:s.kind≠3:=h.resolve_left a;simp only[eg,ac e]
theorem ZD (p:Prog) (hs:p.sane) (R:aM p=true) (k:Int) (hk:0<=k/\k<=2) (c:Config) (D:IsK p k c) (y:Choice) (hy:y∈cw p k c):
 Den Γ G 340 [(zP p),vi k,(.agg [.t (ints (c).mem),.t (ints (c).at_),.t (.sl ((c).buf.map (fun b=>[.sl (b.map Entry.enc)])))]),(.agg [.t (ti (y).thread),.t (ti (y).step),.t (ti (y).cell)])]=some (.tup [(.agg [.t (ints ((dw p k c y).1).mem),.t (ints ((dw p k c y).1).at_),.t (.sl (((dw p k c y).1).buf.map (fun b=>[.sl (b.map Entry.enc)])))]),vi 0]):=by
 have AJ:=N8 p hs R k hk c D;have Ch:=Jw p hs R k hk c D;have JH:=kb7 (cw p k c) y (by have:=tZ R (k:=k) D.b;rw[rh D];omega);rw[(Sn _ _).2 hy]at JH;obtain⟨⟨m1,m2,m3,m4⟩,_⟩:=cR (cS R).1;have l1:=D.b.lm;have l2:=D.b.la;have l3:=D.b.lb;rcases Hp R D hy with⟨t,x,i,s,hx,AE,he,rfl,hn,hd⟩ | ⟨CK,t,i,e,ht,hi,ho,rfl,hn,hd⟩
 ·rw[hn];have Bm:=lf R hx AE;have ht:t<p.threads.length:=(zH.1 hx).1;have E8:=xX Bm.set
  have BI: ∀a∈s.set,0<=a.cell/\a.cell<c.mem.length:=fun a ha=>by
   have:=(Bm.rng.2 a ha).1;simp only[inR,aQ]at this;omega
  have C5:=K2 p R c D.b t ht;have ineg: ¬(i:Int)<0:=aa
  refine aB (q:=fZ AJ Ch JH hx AE ineg ?_);refine be (OJ p R c D.b _) ?_;rintro r h' S ⟨vM,vA,F,rfl,x1,x2,bd,vs,hM,hA,CK,AT,AF,hB,C,H8⟩;obtain⟨Bu,X⟩:=hM.val;rcases hA with⟨_,Q⟩ | ⟨M,rfl,a1,a2,a3⟩
  ·exfalso;have d:=bx List.length Q;rw[aA]at d;simp at d;rw[d]at l2;simp at l2;omega
  unfold V.cells at X;have Om:=C.le (q:=0) (r:=c.buf.length) aa (ax _);have B5:=gP (l:=c.at_) (i:=t) aa;have KE:=dW c.at_ t s.to;have Ad:(t:Int)<(c.at_.length:Int):=aa
  have t0:(0:Int)<=(t:Int):=aa
  have M9:M≠F:=aa
  have Hm:F≠M:=aa
  generalize Y:(if s.kind=6 then(c.at_.set t s.to).set s.target.toNat 0 else c.at_.set t s.to)=P
  have FH:P.length=c.at_.length:=by rw[<- Y];split<;>simp
  by_cases BL:k=0\/s.kind≠3
  ·have hE:=YQ D (t:=t) (s:=s) BL;rw[Y]at hE;have Mn:=Yx c.mem (aK c t) s.set aa aa BI;have f2:(ai P).length=c.at_.length:=by rw[aA,FH]
   have f3:List.take c.at_.length (ai P)=ai P:=ec f2.symm;have L:vs.length=c.buf.length:=C.len;have f6:List.take c.buf.length vs=vs:=ec L.symm
   have f7: ∀o:Option O,vs.mapM (fun row=>row.mapM (toT (updC h' M o) 999))=some (c.buf.map fun b=>[.sl (b.map Entry.enc)]):=fun o=>
    nU _ _ L fun q b A=>by
     obtain⟨u,hu,OD⟩:=C.at_ q b A;have Ed:=(zH.1 A).1;have u1:=C.le (q:=0) (r:=q) aa aa;exact⟨u,hu,(OD.keep (ax _) fun z z1 z2=>by rw[aq,ac aa]).tree 997⟩
   rw[hE];refine vw Bu X a3 B5 Ad t0 KE @aA ?_
   by_cases h6:s.kind=6
   ·obtain⟨I,_⟩:=Bm.tgt (.inl h6);simp only[inR,aQ]at I;have B:s.target<(c.at_.length:Int):=aa
    have g:=I.1;have GQ:=gP (l:=c.at_.set t s.to) (i:=s.target.toNat) (by simp;omega);have Gs:=dW (c.at_.set t s.to) s.target.toNat 0;rw[ah h6]at Y;subst Y;simp -dsimp only[go_sem,seval,h6,Bu,X,B,g,GQ,Gs,aA,cJ,C5,Mn,Hm,hB,uk,f2,f3,L,f6,f7,g7,ax]
   ·rw[ac h6]at Y;subst Y;rcases BL with CK | W
    ·by_cases W:s.kind=3
     ·simp -dsimp only[go_sem,seval,CK,W,Bu,X,aA,cJ,C5,Mn,Hm,hB,f2,f3,L,f6,f7,g7,ax]
     ·simp -dsimp only[go_sem,seval,h6,CK,W,Bu,X,aA,cJ,C5,Mn,Hm,hB,f2,f3,L,f6,f7,g7,ax]
    ·simp -dsimp only[go_sem,seval,h6,W,Bu,X,aA,cJ,C5,Mn,Hm,hB,f2,f3,L,f6,f7,g7,ax]
  ·have CK: ¬k=0:=fun h=>BL (.inl h)
   have W:s.kind=3:=Decidable.of_not_not fun h=>BL (.inr h)
   have k6: ¬s.kind=6:=aa
   rw[ac k6]at Y;subst Y;refine qY Bu X a3 B5 Ad t0 KE @aA W CK C5 ?_
   have hE:kZ p k c t s=⟨bm c.mem (aK c t) (s.set.filter fun a=> !a_ p a),c.at_.set t s.to,c.buf.set t (aF c t++[mH p (aK c t) s.set])⟩:=by
    unfold kZ;rw[ac CK];simp only[eg,ah W,ac k6]
   refine aS 2722258935367352965202086186919783424000 s.set.length (fun j f h z=>(f 14).v=vi j/\(f 13).v= .lb/\ ∃U vv,(f 13).box=some [U,vv]/\IH h S z U vv (((s.set.take j).filter (a_ p)).map Assign.cell) (((s.set.take j).filter (a_ p)).map fun a=>a.to.eval (aK c t) (aK c t))/\
    jQ h 0 x1 vM (ai (bm c.mem (aK c t) ((s.set.take j).filter fun a=> !a_ p a)))/\(∀q,x1<=q->q<S->h q=if q=M then some (O.rows 1 (ai (c.at_.set t s.to)) false)else h' q)/\S<=z) rfl
    ⟨am,am,.t .nils,.t .nils,am,.inl ⟨rfl,rfl,rfl,rfl⟩,hM.keep fun q B g=>by simp -dsimp only[go_sem,seval];rw[ac aa],fun q _ _=>am,av⟩ ?_
   rintro j f u H z bs hj ⟨E2,Z,U,vv,FK,N,F7,AG,hz⟩;have hw:=ay j aa
   by_cases N9:j<s.set.length
   ·have HU:=aW N9;obtain⟨a,ha,Cp⟩:=au N9;obtain⟨c0,c1⟩:=BI a Cp;obtain⟨y,hy,_⟩:=Bm.wid a Cp;have Ak:=xv a.to (aK c t) (aK c t);have Bo:a_ p a=decide (y.thread= -1):=by rw[a_,fh hy]
    by_cases Gj:y.thread= -1
    ·have Ff:a_ p a=true:=by rw[Bo];simpa using Gj
     have Fc:Rg.valOf U=some U:=by rcases N with⟨rfl,_⟩ | ⟨_,_,rfl,_⟩<;>rfl
     have Bs:Rg.valOf vv=some vv:=by rcases N with⟨_,rfl,_⟩ | ⟨_,_,_,rfl,_⟩<;>rfl
     generalize AL:((s.set.take j).filter (a_ p)).map Assign.cell=cs at *
     generalize Fy:(((s.set.take j).filter (a_ p)).map fun a=>a.to.eval (aK c t) (aK c t))=ws at *
     have By:cs.length<=32:=by
      rw[<- AL,cO];have:=ku (a_ p) (s.set.take j);rw[bJ]at this;omega
     have Er:ws.length<=32:=by
      rw[<- Fy,cO];have:=ku (a_ p) (s.set.take j);rw[bJ]at this;omega
     have G9: ∀q,(q<S\/z<=q)->aJ U q:=fun q A=>by
      rcases N with⟨rfl,_⟩ | ⟨m,kv,rfl,_,e1,e2,_⟩
      ·intro i n Q;cases Q
      ·exact c7 aa _ _
     have AM: ∀q,(q<S\/z<=q)->aJ vv q:=fun q A=>by
      rcases N with⟨_,rfl,_⟩ | ⟨m,kv,_,rfl,_,_,e1,e2,_⟩
      ·intro i n Q;cases Q
      ·exact c7 aa _ _
     have KX:aw (updC H (z+5+7+6+8+4) (some (O.rows 1 [[V.t (ti a.cell)]] false))) (z+5+7+6+8+5) U 1 (ai cs):=by
      rcases N with⟨rfl,_,rfl,_⟩ | ⟨m,kv,rfl,_,e1,e2,e3,e4,e5,e6,e7⟩
      ·exact .inl ⟨rfl,rfl⟩
      ·exact .inr ⟨m,rfl,aa,by rw[aq,ac aa];exact e6⟩
     have Iy:=KX.rowsS;refine qY E2 Z FK HU ha Ak c0 hy Gj Fc Iy ?_;refine bY KX (ax _) (by rw[aA];omega) aG rfl (ey _) ?_;intro v1 DN O0 Jq J3;rcases O0 with⟨_,CY⟩ | ⟨k1,rfl,NK,J9⟩
     ·simp at CY
     have NJ:z+5+7+6+8+5<=k1:=by
      rcases bv k1 (z+5+7+6+8+5)with d | d
      ·exact absurd rfl (Jq k1 d 0 _)
      ·exact d
     have G5: ∀q,q<z->aJ U q->At (updC H (z+5+7+6+8+4) (some (O.rows 1 [[V.t (ti a.cell)]] false))) DN q=H q:=fun q B g=>by
      rw[J3 q aa g,aq,ac aa]
     have GB:aw (updC (At (updC H (z+5+7+6+8+4) (some (O.rows 1 [[V.t (ti a.cell)]] false))) DN) (z+5+7+6+8+8+3) (some (O.rows 1 [[V.t (T.int IntKind.i64 (a.to.eval (aK c t) (aK c t)))]] false))) (z+5+7+6+8+8+4) vv 1 (ai ws):=by
      rcases N with⟨_,rfl,_,rfl⟩ | ⟨m,kv,rfl,rfl,e1,e2,e3,e4,e5,e6,e7⟩
      ·exact .inl ⟨rfl,rfl⟩
      ·exact .inr ⟨kv,rfl,aa,by rw[aq,ac aa,G5 kv e4 (c7 aa _ _)];exact e7⟩
     have DY:=GB.rowsS;refine cN E2 Z FK Bs DY ?_;refine bY GB (ax _) (by rw[aA];omega) aG rfl (ey _) ?_;intro v2 D0 Cz Jp GK;rcases Cz with⟨_,CY⟩ | ⟨E,rfl,HW,C4⟩
     ·simp at CY
     have FA:z+5+7+6+8+8+4<=E:=by
      rcases bv E (z+5+7+6+8+8+4)with d | d
      ·exact absurd rfl (Jp E d 0 _)
      ·exact d
     have G4: ∀q,q<S->At (updC (At (updC H (z+5+7+6+8+4) (some (O.rows 1 [[V.t (ti a.cell)]] false))) DN) (z+5+7+6+8+8+3) (some (O.rows 1 [[V.t (T.int IntKind.i64 (a.to.eval (aK c t) (aK c t)))]] false))) D0 q=H q:=fun q A=>by
      rw[GK q aa (AM q (.inl A)),aq,ac aa,G5 q aa (G9 q (.inl A))]
     have JA:At (updC (At (updC H (z+5+7+6+8+4) (some (O.rows 1 [[V.t (ti a.cell)]] false))) DN) (z+5+7+6+8+8+3) (some (O.rows 1 [[V.t (T.int IntKind.i64 (a.to.eval (aK c t) (aK c t)))]] false))) D0 k1=some (.rows 1 (ai cs++[[V.t (ti a.cell)]]) false):=by
      rw[GK k1 aa (AM k1 (.inr aa)),aq,ac aa];exact J9
     have CW:(s.set.take (j+1)).filter (a_ p)=(s.set.take j).filter (a_ p)++[a]:=by
      rw[a8 ha,iF];simp[Ff]
     have Ax:((s.set.take (j+1)).filter fun a=> !a_ p a)=(s.set.take j).filter fun a=> !a_ p a:=by
      rw[a8 ha,iF];simp[Ff]
     refine aR E2 Z ?_;refine⟨aa,al hw,al Z,.ms k1 0 (ai cs++[[V.t (ti a.cell)]]).length,.ms E 0 (ai ws++[[V.t (T.int IntKind.i64 (a.to.eval (aK c t) (aK c t)))]]).length,al FK,?_,?_,?_,av⟩
     ·rw[CW,d7,d7,AL,Fy];refine .inr ⟨k1,E,by rw[<- fy];rfl,by rw[<- fy];rfl,aa,av,aa,av,aa,?_,?_⟩
      ·refine aE ?_;rw[JA,<- fy]
      ·refine aE ?_;rw[C4,<- fy]
     ·rw[Ax];exact F7.keep fun q B g=>by simp -dsimp only[go_sem,seval];exact G4 q aa
     ·intro q B g;refine aE ?_;rw[G4 q g];exact AG q B g
    ·have Ff:a_ p a=false:=by rw[Bo];simpa using Gj
     have Ac:(bm c.mem (aK c t) ((s.set.take j).filter fun a=> !a_ p a)).length=c.mem.length:=iG (aK c t) _ c.mem
     have CW:(s.set.take (j+1)).filter (a_ p)=(s.set.take j).filter (a_ p):=by
      rw[a8 ha,iF];simp[Ff]
     have Ax:((s.set.take (j+1)).filter fun a=> !a_ p a)=((s.set.take j).filter fun a=> !a_ p a)++[a]:=by
      rw[a8 ha,iF];simp[Ff]
     rcases F7 with⟨_,Q⟩ | ⟨kM,rfl,m5,m6,m7⟩
     ·exfalso;have d:=bx List.length Q;rw[aA,Ac]at d;simp at d;rw[d]at c1;simp at c1;omega
     have B5:=gP (l:=bm c.mem (aK c t) ((s.set.take j).filter fun a=> !a_ p a)) (i:=a.cell.toNat) aa;have AE:=dW (bm c.mem (aK c t) ((s.set.take j).filter fun a=> !a_ p a)) a.cell.toNat (a.to.eval (aK c t) (aK c t))
     have Fy:bm c.mem (aK c t) (((s.set.take j).filter fun a=> !a_ p a)++[a])=(bm c.mem (aK c t) ((s.set.take j).filter fun a=> !a_ p a)).set a.cell.toNat (a.to.eval (aK c t) (aK c t)):=by
      unfold bm;rw[f8];rfl
     rw[<- Fy]at AE;have C7:(ai (bm c.mem (aK c t) ((s.set.take j).filter fun a=> !a_ p a))).length=c.mem.length:=by rw[aA,Ac]
     have D9:(ai (bm c.mem (aK c t) (((s.set.take j).filter fun a=> !a_ p a)++[a]))).length=c.mem.length:=by rw[aA,iG]
     simp -dsimp only[go_sem,seval,E2,Z,HU,ha,Ak,hy,Gj,C7,c0,c1,m7,B5,AE];refine⟨aa,al hw,al Z,U,vv,al FK,?_,?_,?_,av⟩
     ·rw[CW];rcases N with d | ⟨m,kv,e0,e0',e1,e2,e3,e4,e5,e6,e7⟩
      ·exact .inl d
      ·have u1:m≠kM:=aa
       have u2:kv≠kM:=aa
       exact .inr ⟨m,kv,e0,e0',e1,av,e3,av,e5,bh u1 e6,bh u2 e7⟩
     ·rw[Ax];exact .inr ⟨kM,by rw[D9,C7],m5,m6,am⟩
     ·intro q B g;have u1:q≠kM:=aa
      refine aC u1 ?_;exact AG q B g
   ·have HU:=aI N9;have Lu:j=s.set.length:=aa
    subst Lu;rw[bc]at F7 N;have Gz:=xd Bm W (aK c t);rcases N with⟨_,_,d,_⟩ | ⟨m,kv,rfl,rfl,e1,e2,e3,e4,e5,e6,e7⟩
    ·exact absurd d Gz.ne
    have g1:H M=some (.rows 1 (ai (c.at_.set t s.to)) false):=by rw[AG M a1 aa,ah rfl]
    have g2:H F=some (.rows 1 vs false):=by rw[AG F aa aa,ac Hm];exact hB
    have Ag:=fA (c:=c) (t:=t) aa;obtain⟨v,hv,EU⟩:=C.at_ t _ Ag;have OM:=C.le (q:=0) (r:=t) aa aa;have OL:=C.le (q:=t+1) (r:=c.buf.length) aa (ax _);have Rt:=C.mono t aa;obtain⟨Bs,_⟩:=EU.val;obtain⟨rows,B1,Bb,BC,Bh⟩:=EU;have t1:(t:Int)<(c.buf.length:Int):=aa
    have LB: ∀q,x1<=q->q<S->q≠M->H q=h' q:=fun q B g q3=>by rw[AG q B g,ac q3]
    generalize Dm:(ai (List.map Assign.cell (List.filter (a_ p) s.set))).length=J at *
    generalize La:(ai (List.map (fun a=>a.to.eval (aK c t) (aK c t)) (List.filter (a_ p) s.set))).length=K at *
    have B7: ∀q,(q<bd t\/bd (t+1)<=q\/ ∀rs fz,h' q≠some (O.rows 2 rs fz))->aJ v q:=fun q A=>by
     rcases B1 with⟨rfl,_⟩ | ⟨kb,rfl,d1,d2,d3⟩
     ·intro i n Q;cases Q
     ·refine c7 ?_ _ _;rintro rfl;rcases A with h | h | h
      ·omega
      ·omega
      ·exact h _ _ d3
    have GB:aw (updC H (z+5+11) (some (O.rows 2 [[V.ms m 0 J,V.ms kv 0 K]] false))) (z+5+12) v 2 rows:=by
     rcases B1 with⟨rfl,d⟩ | ⟨kb,rfl,d1,d2,d3⟩
     ·exact .inl ⟨rfl,d⟩
     ·exact .inr ⟨kb,rfl,aa,by rw[aq,ac aa,LB kb aa aa aa];exact d3⟩
    have DY:=GB.rowsS;refine zX E2 HU Z FK g2 hv Bs t0 t1 DY ?_;have Aa:(rows.all fun r=>decide (r.length=2))=true:=ak BC
    obtain⟨b1,b2,_⟩:=D.b.buf t _ Ag;refine bY GB (ax _) (by rw[Bb];omega) aG rfl Aa ?_;intro v2 hp hO Bn A8;rcases hO with⟨_,CY⟩ | ⟨E,rfl,HW,C4⟩
    ·simp at CY
    have FA:z+5+12<=E:=by
     rcases bv E (z+5+12)with d | d
     ·exact absurd rfl (Bn E d 0 _)
     ·exact d
    have Ev: ∀q,q<z->aJ v q->At (updC H (z+5+11) (some (O.rows 2 [[V.ms m 0 J,V.ms kv 0 K]] false))) hp q=H q:=fun q B g=>by
     rw[A8 q aa g,aq,ac aa]
    have gB:=Ev F aa (B7 F (.inl aa));rw[g2]at gB;have gA:=Ev M aa (B7 M (.inl aa));rw[g1]at gA
    have CJ: ∀(o:Option O) q,q≠F->updC (At (updC H (z+5+11) (some (O.rows 2 [[V.ms m 0 J,V.ms kv 0 K]] false))) hp) F o q=At (updC H (z+5+11) (some (O.rows 2 [[V.ms m 0 J,V.ms kv 0 K]] false))) hp q:=fun o q g=>by
     rw[aq,ac g]
    have AQ: ∀(o:Option O) q,x1<=q->q<S->q≠M->q≠F->aJ v q->updC (At (updC H (z+5+11) (some (O.rows 2 [[V.ms m 0 J,V.ms kv 0 K]] false))) hp) F o q=h' q:=fun o q q0 B g q3 q4=>by
     rw[CJ o q q3,Ev q aa q4,LB q q0 B g]
    have fM: ∀o,toT (updC (At (updC H (z+5+11) (some (O.rows 2 [[V.ms m 0 J,V.ms kv 0 K]] false))) hp) F o) 1000 vM=some (ints (bm c.mem (aK c t) (s.set.filter fun a=> !a_ p a))):=fun o=>
     (F7.keep fun q B g=>by rw[CJ o q aa,Ev q aa (B7 q (.inl aa))]).tree 999
    have f3:List.take c.at_.length (ai (c.at_.set t s.to))=ai (c.at_.set t s.to):=ec (by rw[aA,cJ]);have L: ∀v,(vs.set t [v]).length=c.buf.length:=fun v=>by rw[cJ];exact C.len
    have f6: ∀v,List.take c.buf.length (vs.set t [v])=vs.set t [v]:=fun v=>ec (L v).symm
    have f7: ∀o:Option O,(vs.set t [V.ms E 0 (rows++[[V.ms m 0 J,V.ms kv 0 K]]).length]).mapM (fun row=>row.mapM (toT (updC (At (updC H (z+5+11) (some (O.rows 2 [[V.ms m 0 J,V.ms kv 0 K]] false))) hp) F o) 999))=some ((c.buf.set t (aF c t++[mH p (aK c t) s.set])).map fun b=>[.sl (b.map Entry.enc)]):=by
     intro o;refine nU _ _ (by rw[L,cJ]) fun j b hb=> ?_
     rw[cu]at hb
     by_cases hj:t=j
     ·subst hj;rw[ah rfl,ah aa]at hb;simp only[zA]at hb;subst hb;refine⟨_,by rw[cu,ah rfl,ah (by have:=C.len;omega)],?_⟩;refine ic.tree (lo:=bd t) (hi:=E+1) ⟨rows++[[V.ms m 0 J,V.ms kv 0 K]],.inr ⟨E,rfl,aa,aa,by rw[CJ o E aa];exact C4⟩,by rw[zM,zM,Bb];rfl,?_,fun q e0 A=> ?_⟩ 997
      ·intro r I;rcases cA.1 I with I | I
       ·exact BC r I
       ·rw[bD]at I;rw[I];rfl
      ·rcases bv q (aF c t).length with d | d
       ·rw[bR d]at A;obtain⟨r,I,hE⟩:=Bh q e0 A;refine⟨r,by rw[bR aa];exact I,hE.keep (ax _) aa fun w w1 w2 w3=> ?_⟩;exact AQ o w aa aa aa aa (B7 w (.inr (.inr w3)))
       ·have Cc:q=(aF c t).length:=by
         have:=(zH.1 A).1;rw[zM,fR]at this;omega
        subst Cc;rw[eF (ax _),dJ]at A;simp only[ds,zA]at A;subst A;refine⟨[V.ms m 0 J,V.ms kv 0 K],by rw[eF aa,Bb,dJ];rfl,?_⟩
        have u1: ∀q,S<=q->q<z->updC (At (updC H (z+5+11) (some (O.rows 2 [[V.ms m 0 J,V.ms kv 0 K]] false))) hp) F o q=H q:=fun q B g=>by
         rw[CJ o q aa,Ev q g (B7 q (.inr (.inl aa)))]
        rw[aA]at Dm La;refine⟨m,kv,by rw[<- Dm,<- La];rfl,aa,aa,aa,aa,by rw[u1 m e1 e2];exact e6,by rw[u1 kv e3 e4];exact e7⟩
     ·rw[ac hj]at hb;obtain⟨u,hu,Hn⟩:=C.at_ j b hb;have AN:=(zH.1 hb).1;refine⟨u,by rw[cu,ac hj];exact hu,?_⟩;refine(Hn.keep (ax _) fun q B g=> ?_).tree 997;have u1:=C.le (q:=0) (r:=j) aa aa;have u2:=C.le (q:=j+1) (r:=c.buf.length) aa (ax _);refine AQ o q aa aa aa aa (B7 q ?_);rcases bv j t with d | d
      ·have:=C.le (q:=j+1) (r:=t) aa aa;exact .inl aa
      ·have:=C.le (q:=t+1) (r:=j) aa aa;exact .inr (.inl aa)
    rw[hE];simp -dsimp only[go_sem,seval,Z,FK,gB,hv,t0,t1,M9,gA,Bu,X,Hm,fM,f3,L,f6,f7,aA,cJ,g7,ax]
 ·rw[hn];obtain⟨H9,EV,_⟩:=D.b.buf t _ (fA (c:=c) (t:=t) aa);have Od:=Xf p R c D.b t ht i e hi fun j f hj Dg=>zj EV Dg hi ho hj
  exact aB (q:=li AJ Ch JH Od)
theorem TL {p:Prog} {k:Int} {c:Config} {t:Nat} {s:Step} {u:Nat} (d:u≠t) (h:s.kind=6->(u:Int)≠s.target) (e:s.kind=6->0<=s.target):(kZ p k c t s).at_[u]? =c.at_[u]? :=by
 have a:(if s.kind=6 then(c.at_.set t s.to).set s.target.toNat 0 else c.at_.set t s.to)[u]? =c.at_[u]? :=by
  split
  ·rename_i b;have:=h b;have:=e b;rw[cu,ac aa,cu,ac (bT d)]
  ·rw[cu,ac (bT d)]
 unfold kZ;split
 ·exact a
 ·exact a
theorem B9 {p:Prog} (f:aM p=true) {k:Int} {c:Config} (n:IsK p k c) {y:Choice} (w:y∈cw p k c) {t:Nat} (r:atI c.at_ t≠ -1) (o:cg t y=false):
 atI (dw p k c y).1.at_ t=atI c.at_ t:=by
 rcases Hp f n w with⟨u,x,i,s,v,q,b,rfl,d,_⟩ | ⟨A,u,i,e,B,hi,z,rfl,d,_⟩
 ·rw[d]
  have j:t≠u:=by
   rintro rfl;simp[cg]at o
  have g:=lf f v q
  have a:s.kind=6->(t:Int)≠s.target/\0<=s.target:=by
   intro a;have m:=g.tgt (.inl a);simp only[inR,aQ]at m;simp only[db,a,zF,aQ]at b;simp at b;refine⟨fun e=> ?_,aa⟩;rw[<- e]at b;exact r b.2.2
  simp only[atI,zK,k_];rw[TL j (fun h=>(a h).1) (fun h=>(a h).2)]
 ·rw[d];simp only[c6,hi]
def nxK (p:Prog) (k:Int) (c:Config) (x:Choice):Config:=(dw p k c x).1
def kU (p:Prog) (k:Int) (t:Nat) (l:Loop):Config->List Choice->Prop
 | c,[]=>dq l (atI c.at_ t)=true
 | c,x::r=>dq l (atI c.at_ t)=true/\x∈cw p k c/\kU p k t l (nxK p k c x) r
theorem kU.here {p:Prog} {k:Int} {t:Nat} {l:Loop} {c:Config} {r:List Choice} (h:kU p k t l c r):dq l (atI c.at_ t)=true:=by
 cases r with
 | nil=>exact h
 | cons x r=>exact h.1
theorem B' {p:Prog} (a:aM p=true) {k:Int} {t:Nat} {l:Loop} (g:dq l (-1)=false): ∀{r:List Choice} {c:Config},IsK p k c->kU p k t l c r->(∀x∈r,cg t x=false)->
 atI (r.foldl (nxK p k) c).at_ t=atI c.at_ t
 | [],c,_,_,_=>rfl
 | x::r,c,hc,h,ho=>by
   obtain⟨b,f,j⟩:=h;have i:atI c.at_ t≠ -1:=fun e=>by rw[e,g]at b;cases b
   obtain⟨d,o,m⟩:=l0 a hc f;have n:=B9 a hc f i (ho x af);rw[eQ,B' a g (by rw[nxK,o];exact m) j (fun y q=>ho y (by simp[q]))];exact n
theorem B_ {p:Prog} (g:aM p=true) {k:Int} {t:Nat} {l:Loop} (n:dq l (-1)=false): ∀{r:List Choice} {c:Config} {s:It},s.c=c->IsK p k c->kU p k t l c r->
 s.arr<=(r.foldl (itS (nxK p k) t l) s).arr/\(atI (r.foldl (nxK p k) c).at_ t=l.head->(∃x∈r,cg t x=true)->s.arr+1<=(r.foldl (itS (nxK p k) t l) s).arr)
 | [],c,s,_,_,_=>⟨gz _,fun _ h=>by obtain⟨x,D,_⟩:=h;simp at D⟩
 | x::r,c,s,hs,hc,h=>by
   obtain⟨G,A,f⟩:=h;obtain⟨d,C,B⟩:=l0 g hc A;have j:IsK p k (nxK p k c x):=by rw[nxK,C];exact B
   have hi:=f.here;rw[eQ,eQ];have v:(itS (nxK p k) t l s x).c=nxK p k c x:=by rw[itS,It.see,hs]
   have b:(itS (nxK p k) t l s x).arr=if(cg t x||decide (atI c.at_ t= -1))&&decide (atI (nxK p k c x).at_ t=l.head)then s.arr+1 else s.arr:=by
    simp only[itS,It.see,hs,hi,iA,aX,zG]
   have u:s.arr<=(itS (nxK p k) t l s x).arr:=by rw[b];split<;>omega
   obtain⟨E,F⟩:=B_ g n v j f;refine⟨Int.le_trans u E,fun e o=> ?_⟩
   by_cases i: ∃y∈r,cg t y=true
   ·have:=F e i;omega
   ·have q: ∀y∈r,cg t y=false:=fun y a=>by
     cases z:cg t y
     ·rfl
     ·exact absurd ⟨y,a,z⟩ i
    obtain⟨y,a,m⟩:=o
    have w:cg t x=true:=by
     rcases cj.1 a with rfl | a
     ·exact m
     ·exact absurd ⟨y,a,m⟩ i
    rw[B' g n j f q]at e;rw[w,e]at b;simp only[sI,jt,sH,aT]at b;omega
theorem Cb {p:Prog} (g:aM p=true) {k:Int} {t:Nat} {l:Loop} (u:dq l (-1)=false): ∀{r:List Choice} {c:Config} {s:It},s.c=c->IsK p k c->0<=s.arr->
 (atI c.at_ t=l.head->1<=s.arr)->(∀(a:List Choice) (x:Choice) (b:List Choice),r=a++x::b->x∈cw p k (a.foldl (nxK p k) c))->
 0<=(r.foldl (itS (nxK p k) t l) s).arr/\(atI (r.foldl (nxK p k) c).at_ t=l.head->1<=(r.foldl (itS (nxK p k) t l) s).arr)
 | [],c,s,_,_,h0,h,_=>⟨h0,h⟩
 | x::r,c,s,hs,hc,h0,h,Bm=>by
   have i:x∈cw p k c:=Bm [] x r rfl;obtain⟨d,v,q⟩:=l0 g hc i;have o:IsK p k (nxK p k c x):=by rw[nxK,v];exact q
   have n:(itS (nxK p k) t l s x).c=nxK p k c x:=by rw[itS,It.see,hs]
   have m:dq l l.head=true:=by simp[dq]
   rw[eQ,eQ];refine Cb g u n o ?_ ?_ fun a y b e=>by rw[<- eQ];exact Bm (x::a) y b (by rw[e];rfl)
   ·simp only[itS,It.see];split
    ·exact gz _
    ·split<;>omega
   ·intro j;simp only[itS,It.see,hs,j,m,iA,aX,zG,jt,fV];split
    ·omega
    ·rename_i f;simp only[eH,aQ,ld,z_]at f;exact h (by rw[<- B9 g hc i f.2 f.1];exact j)
def EI (E:Nat->List Nat) (a:Nat->Bool) (u v:Nat):Prop:=a u=true/\a v=true/\v∈E u
structure DfsSt (E:Nat->List Nat) (ins:Nat->Bool) (ord stk:List Nat) (nx:Nat->Nat) (sn:Nat->Bool) (S:Nat->Nat->Prop):Prop where
 seen: ∀v,sn v=true<->v∈ord\/v∈stk
 nd:(ord++stk).Nodup
 insd: ∀v,sn v=true->ins v=true
 chain: ∀(i a b:Nat),stk[i]? =some a->stk[i+1]? =some b->EI E ins a b
 nxt: ∀v j w,j<nx v->(E v)[j]? =some w->ins w=true->sn w=true
 le: ∀v,nx v<=(E v).length
 fin:DfsOrd (EI E ins) ord S
 sub: ∀i v,i<ord.length->S i v->sn v=true
def aV {α:Type} (f:Nat->α) (k:Nat) (x:α):Nat->α:=fun i=>if i=k then x else f i
theorem DfsSt.init (E:Nat->List Nat) (a:Nat->Bool):DfsSt E a [] [] (fun _=>0) (fun _=>false) (fun _ _=>False):=
 ⟨af,af,af,af,fun _ _ _ h=>aa,fun _=>pn _,⟨af,af,af⟩,af⟩
theorem DfsSt.root {E:Nat->List Nat} {d:Nat->Bool} {f:List Nat} {nx:Nat->Nat} {sn:Nat->Bool} {S:Nat->Nat->Prop} (h:DfsSt E d f [] nx sn S) {r:Nat} (y:d r=true) (x:sn r=false):
 DfsSt E d f [r] nx (aV sn r true) S:=by
 have q:r∉ f:=fun h'=>by have:=(h.seen r).2 (.inl h');rw[x]at this;cases this
 have o: ∀v,sn v=true->aV sn r true v=true:=fun v c=>by unfold aV;split<;>simp_all
 refine⟨?_,?_,?_,?_,fun v j w m n t=>o _ (h.nxt v j w m n t),h.le,h.fin,fun i v m n=>o _ (h.sub i v m n)⟩
 ·intro v;have:=h.seen v;unfold aV
  by_cases c:v=r
  ·simp[c]
  ·simpa[c]using this
 ·rw[o7];exact⟨ak h.nd,af,fun a u b g s=>by simp only[bD]at g;subst g s;exact q u⟩
 ·intro v c;unfold aV at c;split at c
  ·rename_i e;rw[e];exact y
  ·exact h.insd v c
 ·intro i a b _ g;simp at g
theorem DfsSt.skip {E:Nat->List Nat} {a:Nat->Bool} {b c:List Nat} {nx:Nat->Nat} {sn:Nat->Bool} {S:Nat->Nat->Prop} (h:DfsSt E a b c nx sn S) {u w:Nat} (g:(E u)[nx u]? =some w) (m:a w=true->sn w=true):
 DfsSt E a b c (aV nx u (nx u+1)) sn S:=by
 refine⟨h.seen,h.nd,h.insd,h.chain,?_,?_,h.fin,h.sub⟩
 ·intro v j w' f d hi;unfold aV at f;split at f
  ·rename_i e;subst e;rcases bv j (nx v)with i | n
   ·exact h.nxt v j w' i d hi
   ·have:j=nx v:=aa
    subst this;rw[g]at d;cases d;exact m hi
  ·exact h.nxt v j w' f d hi
 ·intro v;unfold aV;split
  ·rename_i e;subst e;have:=(zH.1 g).1;omega
  ·exact h.le v
theorem DfsSt.push {E:Nat->List Nat} {d:Nat->Bool} {m c:List Nat} {nx:Nat->Nat} {sn:Nat->Bool} {S:Nat->Nat->Prop} {u w:Nat} (h:DfsSt E d m (c++[u]) nx sn S) (t:(E u)[nx u]? =some w) (hi:d w=true) (H:sn w=false):
 DfsSt E d m (c++[u]++[w]) (aV nx u (nx u+1)) (aV sn w true) S:=by
 have I:d u=true:=h.insd u ((h.seen u).2 (.inr af))
 have C:w∉ m++(c++[u]):=fun h'=>by
  have:=(h.seen w).2 (cA.1 h');rw[H]at this;cases this
 have r: ∀v,sn v=true->aV sn w true v=true:=fun v g=>by unfold aV;split<;>simp_all
 refine⟨?_,?_,?_,?_,?_,?_,h.fin,fun i v F G=>r _ (h.sub i v F G)⟩
 ·intro v;have:=h.seen v;unfold aV
  by_cases g:v=w
  ·simp[g]
  ·simp only[ac g,cA,bD,g,dV]at this⊢;exact this
 ·rw[<- zQ,o7];exact⟨h.nd,af,fun a n b f D=>by simp only[bD]at f;subst f D;exact C n⟩
 ·intro v g;unfold aV at g;split at g
  ·rename_i e;rw[e];exact hi
  ·exact h.insd v g
 ·intro i a b n f;rcases bv (i+1) (c++[u]).length with q | A
  ·rw[bR aa]at n;rw[bR q]at f;exact h.chain i a b n f
  ·have z:=(zH.1 f).1;rw[zM]at z;simp only[d_,jf]at z;have y:i+1=(c++[u]).length:=aa
   rw[eF A,y,dJ]at f;cases f;have B:i=c.length:=by simp at y;omega
   rw[bR aa,B,eF (ax _),dJ]at n;cases n;exact⟨I,hi,zL t⟩
 ·intro v j w' s o x;unfold aV at s;split at s
  ·rename_i e;subst e;rcases bv j (nx v)with q | A
   ·exact r _ (h.nxt v j w' q o x)
   ·have:j=nx v:=aa
    subst this;rw[t]at o;cases o;simp[aV]
  ·exact r _ (h.nxt v j w' s o x)
 ·intro v;unfold aV;split
  ·rename_i e;subst e;have:=(zH.1 t).1;omega
  ·exact h.le v
theorem yi {E:Nat->Nat->Prop}: ∀{c:List Nat} {u v:Nat},(∀(i a b:Nat),(c++[u])[i]? =some a->(c++[u])[i+1]? =some b->E a b)->v∈c++[u]->Rch E v u
 | [],u,v,_,d=>by simp at d;subst d;exact .refl _
 | x::c,u,v,h,d=>by
   have e: ∀(i a b:Nat),(c++[u])[i]? =some a->(c++[u])[i+1]? =some b->E a b:=fun i a b f g=>h (i+1) a b (ak f) (ak g)
   rcases cj.1 d with rfl | d
   ·cases c with
    | nil=>exact .cons (h 0 v u rfl rfl) (.refl _)
    | cons y c=>exact .cons (h 0 v y rfl rfl) (yi e af)
   ·exact yi e d
theorem DfsSt.pop {E:Nat->List Nat} {m:Nat->Bool} {c n:List Nat} {nx:Nat->Nat} {sn:Nat->Bool} {S:Nat->Nat->Prop} {u:Nat} (h:DfsSt E m c (n++[u]) nx sn S) (B:nx u=(E u).length):
 ∃y,DfsSt E m (c++[u]) n nx sn y:=by
 refine⟨fun i v=>if i=c.length then sn v=true else S i v,?_,?_,h.insd,?_,h.nxt,h.le,⟨?_,?_,?_⟩,?_⟩
 ·intro v;have:=h.seen v;simp only[cA,bD]at this⊢;rw[this];constructor
  ·rintro(h | h | h)
   ·exact .inl (.inl h)
   ·exact .inr h
   ·exact .inl (.inr h)
  ·rintro((h | h) | h)
   ·exact .inl h
   ·exact .inr (.inr h)
   ·exact .inr (.inl h)
 ·have:=h.nd;refine(List.Perm.nodup_iff ?_).1 this;rw[zQ];exact List.Perm.append_left c List.perm_append_comm
 ·intro i a b z s;have:=(zH.1 s).1;exact h.chain i a b (by rw[bR aa];exact z) (by rw[bR aa];exact s)
 ·intro i x v e r;rcases bv i c.length with o | w
  ·rw[bR o]at e;simp only[ac (show ¬i=c.length from aa)];exact h.fin.succ i x v e r
  ·have q:=(zH.1 e).1;simp only[zM,d_,jf]at q;have hi:i=c.length:=aa
   rw[hi,eF (ax _),dJ]at e;cases e;simp only[ah hi];obtain⟨j,f⟩:=eD r.2.2;exact h.nxt u j v (by rw[B];exact(zH.1 f).1) f r.2.1
 ·intro i j v t f d;simp only[zM,d_,jf]at f
  by_cases hi:i=c.length
  ·rw[ah hi]at d;rw[ah aa];exact d
  ·rw[ac hi]at d;split
   ·exact h.sub i v aa d
   ·exact h.fin.mono i j v t aa d
 ·intro i x v e d;rcases bv i c.length with o | w
  ·rw[bR o]at e;rw[ac aa]at d;rcases h.fin.gray i x v e d with⟨j,f,g⟩ | A
   ·exact .inl ⟨j,f,by rw[bR aa];exact g⟩
   ·exact .inr A
  ·have q:=(zH.1 e).1;simp only[zM,d_,jf]at q;have hi:i=c.length:=aa
   rw[hi,eF (ax _),dJ]at e;cases e;rw[ah hi]at d;rcases(h.seen v).1 d with g | g
   ·obtain⟨j,f⟩:=eD g;have:=(zH.1 f).1;exact .inl ⟨j,aa,by rw[bR this];exact f⟩
   ·exact .inr (yi h.chain g)
 ·intro i v hi d;simp only[zM,d_,jf]at hi;split at d
  ·exact d
  ·exact h.sub i v aa d
structure PartOk (E:Nat->Nat->Prop) (ord:List Nat) (part:Nat->Int) (m:Nat):Prop where
 con: ∀v,part v≠ -1-> ∃r:Nat,part v=r/\Rch E v r/\Rch E r v
 done: ∀(j v:Nat),m<=j->ord[j]? =some v->part v≠ -1
theorem PartOk.root {E:Nat->Nat->Prop} {a:List Nat} {part:Nat->Int} {m r:Nat} (h:PartOk E a part (m+1)) (c:a[m]? =some r):PartOk E a (aV part r r) m/\Pln E a m r 0 r:=by
 refine⟨⟨fun v b=> ?_,fun j v g b=> ?_⟩,.root c⟩
 ·unfold aV at b⊢;split
  ·rename_i e;exact⟨r,rfl,e▸ .refl _,e▸ .refl _⟩
  ·rename_i e;rw[ac e]at b;exact h.con v b
 ·unfold aV;split
  ·omega
  ·rename_i e;refine h.done j v ?_ b;rcases bv m j with d | f
   ·exact d
   ·have:j=m:=aa
    subst this;rw[c]at b;cases b;exact absurd rfl e
theorem PartOk.add {E:Nat->Nat->Prop} {a:List Nat} {S:Nat->Nat->Prop} (n:DfsOrd E a S) (d:a.Nodup) {part:Nat->Int} {m r k u w:Nat} (h:PartOk E a part m) (s:Pln E a m r k u) (o:E w u) (t:w∈a) (q:part w= -1):
 PartOk E a (aV part w r) m/\Pln E a m r (k+1) w:=by
 obtain⟨j,c⟩:=eD t
 have i:j<=m:=by
  rcases bv j m with y | f
  ·omega
  ·exact absurd q (h.done j w f c)
 have hp:Pln E a m r (k+1) w:=.step c i o s;refine⟨⟨fun v b=> ?_,fun x v g b=> ?_⟩,hp⟩
 ·unfold aV at b⊢;split
  ·rename_i e;exact⟨r,rfl,e▸hp.rch,e▸kas n d _ _ _ (ax _) hp⟩
  ·rename_i e;rw[ac e]at b;exact h.con v b
 ·unfold aV;split
  ·omega
  ·exact h.done x v g b
def okN (p:Prog) (k:Int):Config->List Choice->Bool
 | _,[]=>true
 | c,y::r=>decide (y∈cw p k c)&&okN p k (nxK p k c y) r
def bH (l:List Vis) (i:Nat):Config:=(l.getD i default).c
def ga (l:List Vis) (c:Config):Nat:=l.findIdx fun v=>decide (v.c=c)
def bM (p:Prog) (k:Int) (l:List Vis) (u:Nat):List (Nat×Choice):=(cw p k (bH l u)).map fun x=>(ga l (nxK p k (bH l u) x),x)
def i7 (l:List Vis) (t:Nat) (lp:Loop) (i:Nat):Bool:=dq lp (atI (bH l i).at_ t)
def pu (p:Prog) (k:Int) (l:List Vis) (t:Nat) (lp:Loop) (a:Nat):List (Nat×Choice):=
 ((bM p k l (a/ 2)).filter fun e=>i7 l t lp e.1).map fun e=>(2*e.1+(if cg t e.2 then 1 else a % 2),e.2)
theorem iB {l:List Vis} {i:Nat} {v:Vis} (h:l[i]? =some v):bH l i=v.c:=by simp[bH,zK,h]
theorem zk {l:List Vis} {c:Config} (h: ∃v∈l,v.c=c):ga l c<l.length/\bH l (ga l c)=c:=by
 have a:ga l c<l.length:=by
  unfold ga;rw[List.findIdx_lt_length];obtain⟨v,b,e⟩:=h;exact⟨v,b,by simp[e]⟩
 refine⟨a,?_⟩;have:=List.findIdx_getElem (w:=a);rw[iB (zI a)];exact p6 this
theorem sJ {p:Prog} {k:Int} {l:List Vis} {n:Nat} (h:VisOk p k l n) {i:Nat} (hi:i<l.length):ga l (bH l i)=i:=by
 have f: ∃v∈l,v.c=bH l i:=⟨l[i],mj hi,(iB (zI hi)).symm⟩
 obtain⟨b,d⟩:=zk f
 have a: ∀j,j<l.length->(l.map Vis.c)[j]? =some (bH l j):=fun j c=>by
  rw[zJ,zI c,iB (zI c)];rfl
 have e:(l.map Vis.c)[ga l (bH l i)]? =(l.map Vis.c)[i]? :=by rw[a _ b,a _ hi,d]
 exact(wm (ak b) h.nd).1 e
section
variable {p:Prog} {k:Int} {l:List Vis} (hV:VisOk p k l l.length)
include hV
theorem pv {i:Nat} (hi:i<l.length):IsK p k (bH l i):=by
 rw[iB (zI hi)];exact hV.is _ (mj hi)
theorem vP {u:Nat} (b:u<l.length) {x:Choice} (c:x∈cw p k (bH l u)):ga l (nxK p k (bH l u) x)<l.length/\bH l (ga l (nxK p k (bH l u) x))=nxK p k (bH l u) x:=by
 have a:=zI b;rw[iB a]at c⊢;exact zk (hV.cl u _ b a x c)
theorem qZ {u:Nat} (b:u<l.length): ∀e∈bM p k l u,e.1<l.length:=by
 intro e a;obtain⟨x,c,rfl⟩:=cv.1 a;exact(vP hV b c).1
theorem CD: ∀{r:List Choice} {u w:Nat},u<l.length->iz (bM p k l) u r w->okN p k (bH l u) r=true/\r.foldl (nxK p k) (bH l u)=bH l w/\w<l.length
 | [],u,w,hu,h=>by cases h;exact⟨rfl,rfl,hu⟩
 | x::r,u,w,hu,⟨v,he,h⟩=>by
   obtain⟨y,a,e⟩:=cv.1 he;simp only[dv]at e;obtain⟨rfl,rfl⟩:=e;obtain⟨d,f⟩:=vP hV hu a;obtain⟨b,c,g⟩:=CD d h;rw[f]at b c;exact⟨by rw[okN,zF,aQ];exact⟨a,b⟩,c,g⟩
theorem TQ: ∀(j:Nat),j<l.length->Rch (kW (bM p k l)) 0 j:=by
 intro j
 induction j using Nat.strongRecOn with
 | _ j g=>
   intro a
   by_cases c:j=0
   ·subst c;exact .refl _
   ·obtain⟨q,u,d,b,_,e,f⟩:=hV.pre j _ aa (zI a);refine(g q d aa).snoc ⟨l[j].x,cv.2 ⟨l[j].x,by rw[iB b];exact e,?_⟩⟩;have:nxK p k (bH l q) l[j].x=bH l j:=by rw[iB b,iB (zI a),nxK,f]
    rw[this,sJ hV a]
end
theorem BW {p:Prog} {k:Int} {l:List Vis} {t:Nat} {lp:Loop} {a b:Nat} (h:Rch (EI (fun u=>(bM p k l u).map Prod.fst) (i7 l t lp)) a b): ∀m,m<2-> ∃d,d<2/\m<=d/\Rch (kW (pu p k l t lp)) (2*a+m) (2*b+d):=by
 induction h with
 | refl a=>exact fun m g=>⟨m,g,ax _,.refl _⟩
 | @cons a b c f _ ih=>
   intro m g;obtain⟨_,q,i⟩:=f;obtain⟨e,f,rfl⟩:=cv.1 i;obtain⟨d,j,n,o⟩:=ih (if cg t e.2 then 1 else m) (by split<;>omega);refine⟨d,j,by split at n<;>omega,.cons ⟨e.2,cv.2 ⟨e,ge.2 ⟨?_,q⟩,?_⟩⟩ o⟩
   ·rw[show(2*a+m)/ 2=a by omega];exact f
   ·rw[show(2*a+m) % 2=m by omega]
theorem B6 {p:Prog} {k:Int} {l:List Vis} (hV:VisOk p k l l.length) {t:Nat} {lp:Loop}: ∀{r:List Choice} {a b:Nat},a/ 2<l.length->i7 l t lp (a/ 2)=true->iz (pu p k l t lp) a r b->
 kU p k t lp (bH l (a/ 2)) r/\r.foldl (nxK p k) (bH l (a/ 2))=bH l (b/ 2)/\(a % 2≠b % 2-> ∃x∈r,cg t x=true)
 | [],a,b,_,hi,h=>by cases h;exact⟨hi,rfl,fun h=>absurd rfl h⟩
 | x::r,a,b,ha,hi,⟨v,he,h⟩=>by
   obtain⟨e,q,f⟩:=cv.1 he;simp only[dv]at f;obtain⟨rfl,rfl⟩:=f;obtain⟨u,d⟩:=ge.1 q;obtain⟨y,i,rfl⟩:=cv.1 u;obtain⟨w,A⟩:=vP hV ha i;simp only at d h;have o:(if cg t y=true then 1 else a % 2)<2:=by split<;>omega
   generalize B:(if cg t y=true then 1 else a % 2)=m at h o
   have c:(2*ga l (nxK p k (bH l (a/ 2)) y)+m)/ 2=ga l (nxK p k (bH l (a/ 2)) y):=aa
   obtain⟨j,n,D⟩:=B6 hV (a:=2*ga l (nxK p k (bH l (a/ 2)) y)+m) (by rw[c];exact w) (by rw[c];exact d) h;rw[c,A]at j n;refine⟨⟨hi,i,j⟩,n,fun E=> ?_⟩
   by_cases g:cg t y=true
   ·exact⟨y,af,g⟩
   ·rw[ac g]at B;obtain⟨z,C,s⟩:=D aa;exact⟨z,by simp[C],s⟩
theorem AU {p:Prog} {k:Int}: ∀{a b:List Choice} {c:Config},okN p k c (a++b)=true<->okN p k c a=true/\okN p k (a.foldl (nxK p k) c) b=true
 | [],b,c=>by simp[okN]
 | x::a,b,c=>by
   rw[iP,okN,okN,zF,zF,AU,and_assoc];rfl
def mapL {α:Type} (b:α->ByteArray) (c:α->V) (l:List α):List (T×V):=l.map fun a=>(T.str (b a),c a)
theorem xV {α:Type} (b:α->ByteArray) (c:α->V) (l:List α) (a:α):mapL b c (l++[a])=mapL b c l++[(T.str (b a),c a)]:=by simp[mapL]
theorem u0 {α:Type} (c:α->ByteArray) (d:α->V) (b:ByteArray): ∀l:List α,dL (.str b) (mapL c d l)=some ((l.find? fun a=>b==c a).map d)
 | []=>rfl
 | a::l=>by
   rw[mapL,aU,dL,eW,List.find?_cons];cases h:(b==c a)
   ·simp only[];exact u0 c d b l
   ·rfl
theorem vl {α:Type} (c:α->ByteArray) (d:α->V) (b:ByteArray) (v:V): ∀l:List α,(∀a∈l,(b==c a)=false)->c_ (.str b) v (mapL c d l)=some (mapL c d l++[(.str b,v)])
 | [],_=>rfl
 | a::l,h=>by
   rw[mapL,aU,c_,eW,h a af];simp only[];rw[show(l.map fun a=>(T.str (c a),d a))=mapL c d l from rfl,vl c d b v l fun x e=>h x (by simp[e])];rfl
theorem qt {a b:ByteArray}:(a==b)=true<->a=b:=by
 rw[yj];constructor
 ·intro h;have:=(oJ).1 h;rw[ByteArray.toList_eq,ByteArray.toList_eq]at this;have c:a.data=b.data:=gZ.1 this;cases a;cases b;simp_all
 ·rintro rfl;simp
theorem Tt {a b:ByteArray} (h:a≠b):(a==b)=false:=by
 cases c:(a==b)
 ·rfl
 ·exact absurd (qt.1 c) h
def jN (a:Nat):List Vis->List Vis->List Vis×Bool
 | l,[]=>(l,false)
 | l,v::r=>if hW l v.c then jN a l r else if a<=l.length then(l,true)else jN a (l++[v]) r
def goX (p:Prog) (k:Int) (a:Nat):Nat->Nat->List Vis->List Vis×Bool
 | 0,_,l=>(l,false)
 | f+1,i,l=>match l[i]? with
   | some v=>if(jN a l (e_ p k v.c i)).2 then jN a l (e_ p k v.c i)else goX p k a f (i+1) (jN a l (e_ p k v.c i)).1
   | none=>(l,false)
def j8 (p:Prog) (k:Int) (a:Nat):List Vis×Bool:=goX p k a (a+1) 0 [v0 p]
theorem xB (a:Nat): ∀(r l:List Vis),jr a l r=if(jN a l r).2 then none else some (jN a l r).1
 | [],l=>rfl
 | v::r,l=>by
   rw[jr,jN,pq];split
   ·rw[zD];exact xB a r l
   ·split
    ·rfl
    ·rw[zD];exact xB a r _
theorem Th (p:Prog) (k:Int) (a:Nat): ∀(f i:Nat) (l:List Vis),goV p k a f i l=if(goX p k a f i l).2 then none else some (goX p k a f i l).1
 | 0,i,l=>rfl
 | f+1,i,l=>by
   rw[goV,goX]
   cases l[i]? with
   | none=>rfl
   | some v=>
     simp only;rw[xB];cases h:(jN a l (e_ p k v.c i)).2
     ·simp only[zG,aX,zD];exact Th p k a f (i+1) _
     ·simp[h]
theorem kdd (p:Prog) (k:Int) (a:Nat):ek p k a=if(j8 p k a).2 then none else some (j8 p k a).1:=Th p k a _ _ _
theorem Ya {p:Prog} (g:aM p=true) {l:List Vis} (i: ∀v∈l,IsB p v.c) {c:Config} (e:IsB p c):(l.find? fun a=>gV c==gV a.c).isSome=hW l c:=by
 cases h:hW l c
 ·rw[Sp,Hu,p5];intro v b f;have:=kan g e (i v b) (qt.1 f);have d:hW l c=true:=pz.2 ⟨v,b,this.symm⟩;rw[h]at d;cases d
 ·obtain⟨v,b,rfl⟩:=pz.1 h;rw[List.find?_isSome];exact⟨v,b,qt.2 rfl⟩
theorem WX {p:Prog} (g:aM p=true) {l:List Vis} (i: ∀v∈l,IsB p v.c) {c:Config} (e:IsB p c):(l.find? fun a=>eA c==eA a.c).isSome=hW l c:=by
 cases h:hW l c
 ·rw[Sp,Hu,p5];intro v b f;have:=kao g e (i v b) (qt.1 f);have d:hW l c=true:=pz.2 ⟨v,b,this.symm⟩;rw[h]at d;cases d
 ·obtain⟨v,b,rfl⟩:=pz.1 h;rw[List.find?_isSome];exact⟨v,b,qt.2 rfl⟩
def dH (l:List Vis):List (List V):=(l.map fun v=>Config.enc v.c).map (·.map V.t)
theorem iw (l:List Vis):(dH l).length=l.length:=by simp[dH]
theorem Md (l:List Vis) (v:Vis):dH (l++[v])=dH l++[(Config.enc v.c).map V.t]:=by simp[dH]
theorem OS (l:List Vis):((dH l).all fun r=>decide (r.length=3))=true:=by simp[dH,Config.enc]
theorem Q0 {l:List Vis} {i:Nat} {v:Vis} (h:l[i]? =some v):(dH l)[i]? =some [.t (ints v.c.mem),.t (ints v.c.at_),.t (.sl (v.c.buf.map fun b=>[.sl (b.map Entry.enc)]))]:=by simp[dH,h,Config.enc]
structure SeaH (h:Nat->Option O) (x:Nat) (vL vF vC:V) (kM:Nat) (l:List Vis):Prop where
 L:aw h x vL 3 (dH l)
 F:aw h x vF 1 (ai (l.map Vis.fr))
 X:aw h x vC 3 (bf (l.map Vis.x))
 M:h kM=some (.map (mapL (fun v:Vis=>gV v.c) (fun _=>vb true) l))
 mx:kM<x
 LX: ∀k,aJ vL k\/aJ vC k
theorem aw.offAt {h:ae} {x:Nat} {v:V} {a:Nat} {rows:List (List V)} (o:aw h x v a rows) {k:Nat} (b: ∀rs,h k≠some (.rows a rs false)):aJ v k:=by
 rcases o with⟨rfl,_⟩ | ⟨q,rfl,_,c⟩
 ·intro i n h;cases h
 ·exact c7 (fun e=>b _ (e▸c)) _ _
theorem SeaH.le {h:ae} {x y:Nat} {vL c b:V} {kM:Nat} {l:List Vis} (s:SeaH h x vL c b kM l) (a:x<=y):SeaH h y vL c b kM l:=
 ⟨s.L.le a,s.F.le a,s.X.le a,s.M,by have:=s.mx;omega,s.LX⟩
theorem SeaH.LF {h:ae} {x:Nat} {vL b d:V} {kM:Nat} {l:List Vis} (s:SeaH h x vL b d kM l) (k:Nat):aJ vL k\/aJ b k:=by
 rcases s.L with⟨e,_⟩ | ⟨q,e,_,c⟩
 ·exact .inl (by rw[e];intro i n h;cases h)
 ·by_cases a:k=q
  ·subst a;exact .inr (s.F.offAt fun rs h=>by rw[c]at h;cases h)
  ·exact .inl (by rw[e];exact c7 a _ _)
theorem SeaH.FX {h:ae} {x:Nat} {vL c b:V} {kM:Nat} {l:List Vis} (s:SeaH h x vL c b kM l) (k:Nat):aJ c k\/aJ b k:=by
 rcases s.F with⟨e,_⟩ | ⟨q,e,_,d⟩
 ·exact .inl (by rw[e];intro i n h;cases h)
 ·by_cases a:k=q
  ·subst a;exact .inr (s.X.offAt fun rs h=>by rw[d]at h;cases h)
  ·exact .inl (by rw[e];exact c7 a _ _)
theorem XS (p:Prog) (hs:p.sane) (M:aM p=true) (k:Int) (hk:0<=k/\k<=2) (c:Nat) (U:1<=c) (h2:c<=20000):
 Den Γ G 367 [(zP p),vi k,vi c]=some (.agg [.t (.sl ((j8 p k c).1.map fun v=>Config.enc v.c)),.t (ints ((j8 p k c).1.map Vis.fr)),.t (.sl ((j8 p k c).1.map fun v=>v.x.enc)),vb (j8 p k c).2]):=by
 have AE:=Yv p hs;have CK:=O' p M (bz p) (nQ M k).b;have N3: ∀(q:T) (v:V),c_ q v []=some [(q,v)]:=fun q v=>rfl
 have E0: ∀l:List Vis,∀e∈l.map fun v=>Config.enc v.c,∀t∈e,T.norm t=t:=by
  intro l e he t ht;obtain⟨v,_,rfl⟩:=cv.1 he;simp only[Config.enc,cj,ki,dV]at ht;rcases ht with rfl | rfl | rfl<;>rfl
 have fin: ∀{h:ae} {x:Nat} {vL I F:V} {l:List Vis},SeaH h x vL I F 11 l->(dH l).mapM (fun row=>row.mapM (toT h 999))=some (l.map fun v=>Config.enc v.c)/\toT h 1000 I=some (ints (l.map Vis.fr))/\toT h 1000 F=some (.sl ((l.map Vis.x).map Choice.enc))/\
  V.cells I=some [I]/\V.cells F=some [F]:=fun s=>
  ⟨mC _ 999 (List.map (fun v:Vis=>Config.enc v.c) _) (E0 _),i8 (es:=(_:List Int).map fun n=>[ti n]) s.F (iI _),i8 s.X (mS _),s.F.cellsV,s.X.cellsV⟩
 have D8: ∀l:List Vis,(l.map Vis.x).map Choice.enc=l.map fun v=>v.x.enc:=fun l=>by rw[mr];rfl
 simp only[D8]at fin
 refine aB (q:=bj AE CK N3 ?_)
 refine aS 162259276829213363391577741868672 (c+1) (fun i f h x=>(f 9).v=vi i/\(f 7).v= .lb/\ ∃(l:List Vis) (ov:Bool) (vL I F:V),(f 7).box=some [vL,I,F,vb ov]/\SeaH h x vL I F 11 l/\1<=l.length/\(ov=true->j8 p k c=(l,true))/\
  (ov=false->j8 p k c=goX p k c (c+1-i) i l/\i<=l.length/\l.length<=c/\(∀v∈l,IsK p k v.c))) rfl
  ⟨am,am,[v0 p],false,_,_,_,by simp -dsimp only[go_sem,seval];exact⟨rfl,rfl,rfl⟩,⟨.inr ⟨4,rfl,am,by simp -dsimp only[go_sem,seval];rfl⟩,.inr ⟨5,rfl,am,by simp -dsimp only[go_sem,seval];rfl⟩,.inr ⟨7,rfl,am,by simp -dsimp only[go_sem,seval];rfl⟩,by simp -dsimp only[go_sem,seval,mapL,aU,ba,v0],am,fun k=> ?_⟩,af,fun h=>Bool.noConfusion h,fun _=>⟨rfl,af,U,fun v R=> ?_⟩⟩ ?_
 ·by_cases hq:k=4
  ·exact .inr (c7 aa _ _)
  ·exact .inl (c7 hq _ _)
 ·simp only[bD]at R;subst R;exact nQ M k
 rintro i f u H x bs hi ⟨J,b1,l,ov,vL,I,F,b2,hS,AO,De,Be⟩;have hw:=ay i aa;obtain⟨fL,fF,fX,cF,cX⟩:=fin hS;unfold V.cells at cF cX;have fT:List.take l.length (dH l)=dH l:=ec (iw l).symm;rcases hS.L with⟨e0,e1⟩ | ⟨kL,rfl,e2,e3⟩
 ·rw[<- iw,e1]at AO;simp at AO
 rw[iw]at hS b2;cases ov
 ·obtain⟨g1,g2,g3,g5⟩:=Be rfl
  by_cases Ad:i<l.length
  ·have S:=aW Ad;obtain⟨v,R,Kg⟩:=au Ad;have Gm:=g5 v Kg;have Ch:=Jw p hs M k hk v.c Gm;have Ap:=Q0 R;have i0:(0:Int)<=(i:Int):=aa
   have i1:(i:Int)<(l.length:Int):=aa
   refine zX J b1 b2 e3 S i0 i1 Ap @iw Ch ?_
   generalize AL:cw p k v.c=cs at *
   have By:=tZ M (k:=k) Gm.b;rw[<- rh Gm,AL]at By;have G8:e_ p k v.c i=cs.map fun x=>⟨(dw p k v.c x).1,i,x⟩:=by rw[e_,AL]
   generalize hq:jN c l (e_ p k v.c i)=q
   have Q:j8 p k c=if q.2 then q else goX p k c (c-i) (i+1) q.1:=by
    rw[g1,show c+1-i=c-i+1 from aa,goX,R];simp only[hq]
   refine aS 162259276829213363110103033591936 cs.length (fun j f h x=>(f 11).v=vi j/\(f 7).v= .lb/\ ∃(l':List Vis) (vL I F:V),(f 7).box=some [vL,I,F,vb false]/\SeaH h x vL I F 11 l'/\l'[i]? =some v/\l'.length<=c/\(∀v∈l',IsK p k v.c)/\
    q=jN c l' ((e_ p k v.c i).drop j)) rfl
    ⟨am,al b1,l,_,_,_,al b2,hS.le av,R,g3,g5,by rw[il,hq]⟩ ?_
   rintro j f2 u2 H2 g bs2 hj ⟨Bg,C,l',vL',P,N,B,w,BQ,CE,Ii,K⟩;have BO:=ay j aa;have AV:=(zH.1 BQ).1;rcases w.L with⟨e0,e1'⟩ | ⟨X,rfl,e2',D⟩
   ·have:=iw l';rw[e1']at this;simp at this;omega
   rw[iw]at w B
   by_cases AN:j<cs.length
   ·have Ba:=aW AN;obtain⟨y,hy,Eq⟩:=au AN;have Hs:y∈cw p k v.c:=by rw[AL];exact Eq
    have ED:=ZD p hs M k hk v.c Gm y Hs;obtain⟨d,Bt,hd⟩:=l0 M Gm Hs;rw[Bt]at ED;have DA:=O' p M d hd.b;have D3:=u0 (fun v:Vis=>gV v.c) (fun _=>vb true) (gV d) l';have C6:=Ya M (fun v R=>(Ii v R).b) hd.b (l:=l');have LZ:=w.M;have Gw:=Q0 BQ;have W:(i:Int)<(l'.length:Int):=aa
    have Gb:(e_ p k v.c i).drop j=⟨d,i,y⟩::(e_ p k v.c i).drop (j+1):=by
     have:(e_ p k v.c i)[j]? =some ⟨d,i,y⟩:=by rw[G8,zJ,hy];simp[Bt]
     exact iQ this
    rw[Gb,jN]at K;cases Dx:hW l' d
    ·rw[Dx]at C6;have hz:l'.find? (fun a=>gV d==gV a.c)=none:=ak C6
     rw[hz]at D3;rw[ac (by simp[Dx])]at K
     by_cases AC:c<=l'.length
     ·rw[ah AC]at K;have JM:(l'.length:Int)>=(c:Int):=aa
      rw[K]at Q;simp -dsimp only[go_sem,seval,Bg,C,B,J,D,Ba,i0,W,Gw,iw,hy,ED,DA,LZ,D3,np,kf,JM];exact⟨aa,al hw,al C,l',true,_,_,_,al B,w.le av,aa,fun _=>by rw[Q];rfl,fun h=>by(cases h)⟩
     ·rw[ac AC]at K;have JM: ¬(l'.length:Int)>=(c:Int):=aa
      have Jj:=vl (fun v:Vis=>gV v.c) (fun _=>vb true) (gV d) (vb true) l' fun a ha=>by
       have:=p5.1 hz a ha;simpa using this
      have n1:(X=g+4+18+8+5+4+3)=False:=aI aa;have n2:(X=11)=False:=aI fun h=>by rw[h,LZ]at D;cases D
      have fT':List.take l'.length (dH l')=dH l':=ec (iw l').symm
      have JB: ∀{v:V} {sz:Nat} {rows:List (List V)},aw H2 g v sz rows->aw (updC H2 11 (some (O.map (mapL (fun v:Vis=>gV v.c) (fun _=>vb true) l'++ [(T.str (gV d),vb true)])))) g v sz rows:=fun o=>o.keep (ax _) fun q _ hq=>by
       rw[aq,ac];rintro rfl;exact hq (o.offAt fun rs h=>by rw[LZ]at h;cases h)
      have oL:=JB w.L;have oF:=JB w.F;have oX:=JB w.X;have mx:=w.mx;simp -dsimp only[go_sem,seval,Bg,C,B,J,D,Ba,i0,W,Gw,iw,hy,ED,DA,LZ,D3,np,kf,JM,Jj,n1,n2,fT',ax,aT,aX];refine bY (oL.upd aa _) aa (by rw[iw];omega) aG rfl (OS _) ?_;intro vL2 Qg M7 Nw Q2;have w1:=M7.valOf
      generalize Ma:updC H2 11 (some (O.map (mapL (fun v:Vis=>gV v.c) (fun _=>vb true) l'++ [(T.str (gV d),vb true)])))=H3 at *
      have Qu:H3 11=some (O.map (mapL (fun v:Vis=>gV v.c) (fun _=>vb true) (l'++ [⟨d,i,y⟩]))):=by rw[<- Ma,aq,ah rfl,xV]
      have c1:=M7.cellsV;unfold V.cells at c1
      generalize M8:At (updC H3 (g+4+18+8+5+4+3) (some (O.rows 3 [[V.t (ints d.mem),V.t (ints d.at_),V.t (T.sl (d.buf.map fun b=>[T.sl (b.map Entry.enc)]))]] false))) Qg=L at *
      have Y: ∀q,q<g->aJ (.ms X 0 l'.length) q->L q=H3 q:=fun q r m=>by rw[Q2 q aa m,aq,ac aa]
      have E:aw L g P 1 (ai (l'.map Vis.fr)):=oF.keep (ax _) fun q r m=>Y q r ((w.LF q).resolve_right m)
      have oX1:aw L g N 3 (bf (l'.map Vis.x)):=oX.keep (ax _) fun q r m=>Y q r ((w.LX q).resolve_right m)
      have N5:L 11=_:=(Y 11 mx (c7 (fun h=>by rw[h]at n2;simp at n2) _ _)).trans Qu;have w2:=E.valOf;have r2: ∀r m q3 q4 q5 q6 q7 b,rowsS (updC L (g+r+m+q3+q4+q5+q6+q7) b) P=some (ai (l'.map Vis.fr)):=fun r m q3 q4 q5 q6 q7 b=>(E.upd aa b).rowsS
      refine GX w1 c1 C B J w2 r2 Ma M8 ?_;refine bY (E.upd aa _) aa (by rw[aA];simp;omega) aG rfl (ey _) ?_;intro Z Qh Oy Nx CJ;have w3:=Oy.valOf;have c3:=Oy.cellsV;unfold V.cells at c3
      generalize O9:At (updC L (g+4+18+8+5+4+7+3) (some (O.rows 1 [[V.t (T.int IntKind.i64 i)]] false))) Qh=G2 at *
      have kp2: ∀q,q<g->aJ P q->G2 q=L q:=fun q r m=>by rw[CJ q aa m,aq,ac aa]
      have A:aw G2 g N 3 (bf (l'.map Vis.x)):=oX1.keep (ax _) fun q r m=>kp2 q r ((w.FX q).resolve_right m)
      have w4:=A.valOf;have r3: ∀r m q3 q4 q5 q6 q7 q8 b,rowsS (updC G2 (g+r+m+q3+q4+q5+q6+q7+q8) b) N=some (bf (l'.map Vis.x)):=fun r m q3 q4 q5 q6 q7 q8 b=>(A.upd aa b).rowsS
      simp -dsimp only[go_sem,seval,w1,c1,w3,c3,C,B,J,Bg,hy,w4,r3,Ma,M8,O9];refine bY (A.upd aa _) aa (by rw[f_];simp;omega) aG rfl (kX _) ?_;intro vC2 Qf Ox Nv NH;have w5:=Ox.valOf;have c5:=Ox.cellsV;unfold V.cells at c5;refine GM w1 c1 w3 c3 w5 c5 C B Bg Ma M8 O9 ?_
      generalize Rk:At (updC G2 (g+4+18+8+5+4+7+7+6) (some (O.rows 3 [[V.t (ti y.thread),V.t (ti y.step),V.t (ti y.cell)]] false))) Qf=G3 at *
      have CH: ∀q,¬aJ vL2 q->g<=q:=fun q h=>by
       rcases bv q g with U | U
       ·exact absurd (Nw q aa) h
       ·exact U
      have LQ: ∀q,¬aJ Z q->g<=q:=fun q h=>by
       rcases bv q g with U | U
       ·exact absurd (Nx q aa) h
       ·exact U
      have ID: ∀z,g+4+18+8+5+4+7+7+8<=z->SeaH G3 z vL2 Z vC2 11 (l'++ [⟨d,i,y⟩]):=fun z hz=>by
       refine⟨?_,?_,?_,?_,aa,fun q=> ?_⟩
       ·rw[Md];refine aw.keep (x:=g+4+18+8+5+4+3+2) (h:=L) M7 aa fun q r m=> ?_
        have:=CH q m;rw[NH q aa (A.off this),aq,ac aa,CJ q aa (E.off this),aq,ac aa]
       ·rw[d7,show List.map Vis.fr [(⟨d,i,y⟩:Vis)]=[(i:Int)]from rfl,fy];refine aw.keep (x:=g+4+18+8+5+4+7+3+2) (h:=G2) Oy aa fun q r m=> ?_
        have:=LQ q m;rw[NH q aa (A.off this),aq,ac aa]
       ·rw[d7,show List.map Vis.x [(⟨d,i,y⟩:Vis)]=[y]from rfl,mz];exact Ox.le aa
       ·have f1:aJ P 11:=E.offAt fun rs h=>by rw[N5]at h;cases h
        have g2:G2 11=L 11:=kp2 11 mx f1;have f2:aJ N 11:=A.offAt fun rs h=>by rw[g2,N5]at h;cases h
        rw[NH 11 aa f2,aq,ac aa,g2,N5]
       ·rcases bv q (g+4+18+8+5+4+7+7+6)with h | h
        ·exact .inr (Nv q aa)
        ·exact .inl (M7.off aa)
      refine⟨aa,al BO,al C,l'++ [⟨d,i,y⟩],vL2,Z,vC2,al B,by simp -dsimp only[go_sem,seval,Ma,M8,O9,Rk];exact ID _ aa,?_,by rw[zM,fR];omega,fun v' BQ=> ?_,K⟩
      ·rw[bR AV];exact BQ
      ·rcases cA.1 BQ with h | h
       ·exact Ii v' h
       ·rw[bD]at h;subst h;exact hd
      done
    ·rw[Dx]at C6;rw[ah Dx]at K;obtain⟨z,hz⟩:=rJ.1 C6;rw[hz]at D3;simp -dsimp only[go_sem,seval,Bg,C,B,J,D,Ba,i0,W,Gw,iw,hy,ED,DA,LZ,D3,cZ,gJ];exact⟨aa,al BO,al C,l',_,_,_,al B,w.le av,BQ,CE,Ii,K⟩
   ·have Ba:=aI AN;have:j=cs.length:=aa
    subst this
    have Qc:q=(l',false):=by
     rw[K,G8,oH (by rw[cO];omega)];rfl
    rw[Qc]at Q;refine cN Bg C B J Ba ?_;exact⟨aa,al hw,al C,l',false,_,_,_,al B,w.le av,aa,fun h=>by(cases h),fun _=>⟨by rw[Q,show c+1-(i+1)=c-i by omega];rfl,aa,CE,Ii⟩⟩
  ·have S:=aI Ad
   have Q:j8 p k c=(l,false):=by
    rw[g1]
    cases c+1-i with
    | zero=>rfl
    | succ f=>rw[goX,gt aa]
   rw[Q];simp -dsimp only[go_sem,seval,J,b1,b2,e3,S,fL,fF,fX,cF,cX,fT,ax,iw]
 ·have Q:=De rfl;rw[Q]
  by_cases Ad:i<l.length
  ·have S:=aW Ad;simp -dsimp only[go_sem,seval,J,b1,b2,e3,S,fL,fF,fX,cF,cX,fT,ax,iw]
  ·have S:=aI Ad;simp -dsimp only[go_sem,seval,J,b1,b2,e3,S,fL,fF,fX,cF,cX,fT,ax,iw]
theorem XT (p:Prog) (i:p.sane) (h:aM p=true) (k:Int) (b:0<=k/\k<=2) (a:Nat) (m:1<=a) (n:a<=20000):Den Γ G 366 [(.agg [.t (.sl ((p).cells.map (Cell.enc))),.t (.sl ((p).modules.map (Contract.enc))),.t (.sl ((p).locks.map (Lock.enc))),.t (.sl ((p).threads.map (Thread.enc)))]),vi k,vi a]=some (vb true):=by
 have j:=wN p i;have g:(dj p).1=0:=by simpa[aM]using h
 have c:k>=0:=b.1;have d:k<=2:=b.2;have e:(a:Int)>=1:=aa
 have f:(a:Int)<=20000:=aa
 exact aB (q:=pp j g c d e f)
theorem W0 (p:Prog) (i:p.sane) (f:aM p=true) (k:Int) (g:0<=k/\k<=2) (a:Nat) (d:1<=a) (e:a<=20000):
 Den Γ G 345 [(zP p),vi k,vi a]=some (match ek p k a with
  | some l=> .tup [.t (.sl (l.map fun v=>Config.enc v.c)),vi 0]
  | none=> .tup [.t (.sl []),vi 2]):=by
 have c:=XT p i f k g a d e;have b:=XS p i f k g a d e;rw[kdd]
 refine aB (q:=?_)
 cases h:(j8 p k a).2
 ·rw[h]at b;simp -dsimp only[go_sem,seval,c,b,zG,aX]
 ·rw[h]at b;simp -dsimp only[go_sem,seval,c,b,aT]
theorem Xz (p:Prog) (e:p.sane) (c:aM p=true) (k:Int) (d:0<=k/\k<=2):Den Γ G 342 [(zP p),vi k]=some (vb (ek p k 40).isSome):=by
 have a:Den Γ G 345 [(zP p),vi k,vi 40]=_:=W0 p e c k d 40 aa aa
 refine aB (q:=?_)
 cases b:ek p k 40 with
 | none=>
   rw[b]at a
   simp -dsimp only[go_sem,seval,a,ml]
 | some l=>
   rw[b]at a;simp -dsimp only[go_sem,seval,a,qT]
def mh (c:Config):List V:=[.t (ints c.mem),.t (ints c.at_),.t (.sl (c.buf.map fun b=>[.sl (b.map Entry.enc)]))]
theorem kcm (c:Config):(Config.enc c).map V.t=mh c:=rfl
theorem dh {h:ae} {a b:Nat} {c d:Option O} (f:h a=c) (g:h b=d) (e:c≠d):a≠b:=by
 rintro rfl;exact e (f.symm.trans g)
theorem YB {H:ae} {n a:Nat} {vL:V} {l:List Vis} (d:Vis) (f:H a=some (.rows 1 [[vL]] false)) (c:aw H n vL 3 (dH l)) (E:a<n) (D:l.length<2^30):
 ∃r h' g,DenR Γ G 376 [.agg (mh d.c),.mp a 0 0] H n=some (r,h',g)/\(r=vb false/\ ∃b,h' a=some (.rows 1 [[b]] false)/\aw h' g b 3 (dH (l++[d]))/\n<=g/\(∀j,j<n->aJ b j)/\(∀j,j<n->j≠a->aJ vL j->h' j=H j)):=by
 unfold mh
 refine bO (q:=?_)
 have A:=c.valOf;have B:=c.r2;have y:a≠n+2+2:=aa
 refine bj f A B ?_;refine bY (c.upd aa _) aa (by rw[iw];omega) aG rfl (OS _) ?_;intro v hp e m i;have C:=e.valOf;have o:=e.cellsV;unfold V.cells at o;have w:aJ vL a:=c.offAt fun rs h=>by rw[f]at h;cases h
 have s:=i a aa w;rw[aq,ac y,f]at s;refine bj C o s ?_;refine⟨rfl,v,am,?_,av,fun j x=>m j aa,fun j x u t=> ?_⟩
 ·rw[Md,kcm];refine aw.keep (h:=At (updC H (n+2+2) (some (O.rows 3 [mh d.c] false))) hp) e av fun q F z=> ?_
  have:q≠a:=by
   rintro rfl;exact z (m q aa)
  refine aC this ?_;rfl
 ·refine aC u ?_;rw[i j aa t,aq,ac aa]
def qF (v:Vis):List V:=mh v.c++[vi v.fr,vi v.x.thread,vi v.x.step,vi v.x.cell]
def iX (l:List Vis):List (List V):=l.map qF
theorem Q3 {l:List Vis} {i:Nat} {v:Vis} (h:l[i]? =some v):(iX l)[i]? =some [.t (ints v.c.mem),.t (ints v.c.at_),.t (.sl (v.c.buf.map fun b=>[.sl (b.map Entry.enc)])),vi v.fr,vi v.x.thread,vi v.x.step,vi v.x.cell]:=by simp[iX,qF,mh,h]
theorem mA (l:List Vis):(iX l).length=l.length:=by simp[iX]
theorem Zt (l:List Vis):((iX l).all fun r=>decide (r.length=7))=true:=by simp[iX,qF,mh]
theorem kc0 {h:ae} {n b s t u v f w i o:Nat} {env:Nat->V} {x1 x2 x3 x4 x5 vL:V} {l lst:List Vis} {d:Vis} (e:h b=some (.loop env [11] jT .ready)) (e3:env 3= .mp s 0 0) (e4:env 4= .mp t 0 0) (e5:env 5= .mp u 0 0)
 (J:h s=some (.rows 1 [[.mp v 0 0]] false)) (K:h t=some (.rows 1 [[vi o]] false)) (L:h u=some (.rows 1 [[.fn 376 [] [.mp f 0 0]]] false)) (M:h v=some (.rows 6 [[x1,x2,x3,x4,x5,.ms w 0 l.length]] false))
 (hV:h w=some (.rows 7 (iX l) false)) (N:l[i]? =some d) (y:h f=some (.rows 1 [[vL]] false)) (oL:aw h n vL 3 (dH lst)) (T:lst.length<2^30)
 (Z:b<n) (b3:s<n) (b4:t<n) (b5:u<n) (bS:v<n) (bV:w<n) (bL:f<n) (hi:(i:Int)≠o):
 ∃h' c,DenY Γ G b [vi i] h n=some (vb true,h',c)/\h' b=some (.loop env [11] jT .ready)/\(∃a,h' f=some (.rows 1 [[a]] false)/\aw h' c a 3 (dH (lst++[d]))/\(∀j,j<n->aJ a j))/\n<=c/\
  (∀j,j<n->j≠b->j≠f->aJ vL j->h' j=h j):=by
 have:=su (Γ:=Γ) (G:=G) (vs:=[vi i]) (n:=n) (P:=fun x h' c=>x= .normal/\h' b=some (.loop env [11] jT .busy)/\(∃a,h' f=some (.rows 1 [[a]] false)/\aw h' c a 3 (dH (lst++[d]))/\(∀j,j<n->aJ a j))/\n<=c/\
  (∀j,j<n->j≠b->j≠f->aJ vL j->h' j=h j)) e rfl (fun x h' c hP=>⟨_,_,_,hP.2.1⟩) (by
  have n3:s≠b:=dh J e af;have n4:t≠b:=dh K e af;have n5:u≠b:=dh L e af;have nS:v≠b:=dh M e af;have nV:w≠b:=dh hV e af;have g:f≠b:=dh y e af;have S:=Q3 N;have AV:=(zH.1 N).1;have i0:(0:Int)<=(i:Int):=aa
  have i1:(i:Int)<(l.length:Int):=aa
  simp -dsimp only[go_sem,seval,e3,e4,e5,J,K,L,M,hV,n3,n4,n5,nS,nV,g,hi,S,i0,i1,mA];have F:aJ vL b:=oL.offAt fun rs h=>by rw[e]at h;cases h
  refine be (YB d (l:=lst) (vL:=vL) (by rw[aq,ac g,aq,ac g];exact y) (oL.keep aa fun q B C=>by
   have:q≠b:=by rintro rfl;exact C F
   rw[aq,ac this,aq,ac this]) aa T) ?_
  rintro r h' c ⟨rfl,a,U,W,a3,X,H⟩;have I:=H b aa (bT g) F;rw[aq,ah rfl]at I;refine aE ?_;refine⟨rfl,I,⟨a,U,W,fun j hj=>X j aa⟩,aa,fun j Q m z A=> ?_⟩
  rw[H j aa z A,aq,ac m,aq,ac m])
 obtain⟨x,h',c,⟨rfl,B,⟨a,C,R,D⟩,q4,q5⟩,env',ps',Y,E,q7⟩:=this;rw[B]at E;simp only[zA,O.loop.injEq]at E;obtain⟨rfl,rfl,rfl,_⟩:=E;have g:f≠b:=dh y e af;refine⟨_,c,q7,by rw[aq,ah rfl];rfl,⟨a,by rw[aq,ac g];exact C,?_,D⟩,q4,fun j Q m z A=>by rw[aq,ac m];exact q5 j Q m z A⟩
 exact R.keep (ax _) fun q r1 r2=>by
  have:q≠b:=by rintro rfl;exact r2 (R.offAt fun rs h=>by rw[B]at h;cases h)
  rw[aq,ac this]
theorem kcZ {h:ae} {n a r b c i:Nat} {env:Nat->V} {H I:Int} (e:h a=some (.loop env [11] jT .ready)) (v:env 4= .mp r 0 0) (w:env 6= .mp b 0 0) (x:env 7= .mp c 0 0)
 (t:h r=some (.rows 1 [[vi i]] false)) (o:h b=some (.rows 1 [[vi H]] false)) (q:h c=some (.rows 1 [[vi I]] false)) (j:b≠c):
 ∃h' d,DenY Γ G a [vi i] h n=some (vb false,h',d)/\h' a=some (.loop env [11] jT (.done .ret))/\h' b=some (.rows 1 [[vi 0]] false)/\h' c=some (.rows 1 [[vi 2]] false)/\n<=d:=by
 have:=su (Γ:=Γ) (G:=G) (vs:=[vi i]) (n:=n) (P:=fun m h' d=>m= .ret/\h' a=some (.loop env [11] jT .busy)/\h' b=some (.rows 1 [[vi 0]] false)/\h' c=some (.rows 1 [[vi 2]] false)/\n<=d) e rfl (fun m h' d y=>⟨_,_,_,y.2.1⟩) (by
  have z:r≠a:=dh t e af;have f:b≠a:=dh o e af;have g:c≠a:=dh q e af;refine qY v w x t o q z f g j j.symm ?_
  refine⟨rfl,by simp -dsimp only[go_sem,seval,bT f,bT g];rfl,al j,am,av⟩)
 obtain⟨m,h',d,⟨rfl,B,C,D,E⟩,env',A,u,s,F⟩:=this;rw[B]at s;simp only[zA,O.loop.injEq]at s;obtain⟨rfl,rfl,rfl,_⟩:=s;have f:b≠a:=dh o e af;have g:c≠a:=dh q e af;exact⟨_,d,F,by rw[aq,ah rfl];rfl,by rw[aq,ac f];exact C,by rw[aq,ac g];exact D,E⟩
end Rg
end

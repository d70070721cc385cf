/- Part of the proof of laws of relyguardlaw31. No condition. -/
import Derived.Test.YtcmeofagpechdaaGreatDoorRartBA
set_option linter.unusedSimpArgs false
set_option linter.unusedVariables false
section
namespace Rg
open Go
def zdJ (h:Nat->Option O) (z0 x:Nat) (v:V) (sz:Nat) (rows:List (List V)):Prop:=zxp h x v sz rows/\ ∀j,j<z0->zc1 v j
theorem zcV {h:Nat->Option O} {z0 x:Nat} {sz:Nat}:zdJ h z0 x (.t .nils) sz []:=⟨.inl ⟨rfl,rfl⟩,fun j _ i n he=>by cases he⟩
theorem zdJ.le {h:Nat->Option O} {z0 x y:Nat} {v:V} {sz:Nat} {rows:List (List V)} (o:zdJ h z0 x v sz rows) (hq:x<=y):zdJ h z0 y v sz rows:=⟨o.1.le hq,o.2⟩
theorem zdJ.eq {h:Nat->Option O} {z0 x:Nat} {v:V} {sz:Nat} {a b:List (List V)} (o:zdJ h z0 x v sz a) (e:a=b):zdJ h z0 x v sz b:=e▸o
theorem zdJ.upd {h:Nat->Option O} {z0 x:Nat} {v:V} {sz:Nat} {rows:List (List V)} (o:zdJ h z0 x v sz rows) {q:Nat} (hq:x<=q) (b:Option O):zdJ (updC h q b) z0 (q+1) v sz rows:=⟨o.1.upd hq b,o.2⟩
theorem zdJ.keep {h h':Nat->Option O} {z0 x y:Nat} {v:V} {sz:Nat} {rows:List (List V)} (o:zdJ h z0 x v sz rows) (hxy:x<=y) (hh: ∀k,k<x->z0<=k->h' k=h k):zdJ h' z0 y v sz rows:=
 ⟨o.1.keep hxy fun k h1 h2=>hh k h1 (Nat.le_of_not_lt fun h3=>h2 (o.2 k h3)),o.2⟩
theorem za9 (h:Nat->Option O) (k:Nat) (o:O):hpC h [(k,o)]=updC h k (some o):=by rw[zau,zaq]
theorem zbt {h:Nat->Option O} {z0 x q sz bytes:Nat} {u:V} {a:List (List V)} {r:List V} {K:V->List (Nat×O)->Prop} {w:WK K}
 (ho:zdJ h z0 x u sz a) (hz:z0<=x) (hx:x<=q) (hlen:a.length<2^32) (hby:bytes<=2^12) (hb:r.length=sz) (ha:(a.all fun r=>decide (r.length=sz))=true)
 (hK: ∀v hp H1,hpC h hp=H1->zdJ H1 z0 (q+1) v sz (a++[r])->(∀j,j<z0->H1 j=h j)->K v hp):
 zft false (appS h q sz bytes u a [r]) K w:=
 zas ho.1 hx hlen hby hb ha fun v hp h1 h2 h3=>hK v hp _ rfl ⟨h1,fun j hj=>h2 j (by omega)⟩ fun j hj=>h3 j (by omega) (ho.2 j hj)
theorem zxp.keepS {h h':Nat->Option O} {x y sz sz':Nat} {va vm:V} {A B:List (List V)} (o:zxp h x va sz A) (o2:zxp h x vm sz' B) (hne:sz'≠sz) (hxy:x<=y) (hk: ∀j,j<x->zc1 vm j->h' j=h j):zxp h' y va sz A:=by
 rcases o with o | ⟨k,rfl,h2,h3⟩
 ·exact .inl o
 ·exact .inr ⟨k,rfl,by omega,by rw[hk k h2 (o2.offR h3 hne)];exact h3⟩
theorem zds {h:Nat->Option O} {z0 x q sz sz' bytes:Nat} {u vm:V} {a B:List (List V)} {r:List V} {K:V->List (Nat×O)->Prop} {w:WK K}
 (ho:zdJ h z0 x u sz a) (hm:zdJ h z0 x vm sz' B) (hne:sz≠sz') (hz:z0<=x) (hx:x<=q) (hlen:a.length<2^32) (hby:bytes<=2^12) (hb:r.length=sz) (ha:(a.all fun r=>decide (r.length=sz))=true)
 (hK: ∀v hp H1,hpC h hp=H1->zdJ H1 z0 (q+1) v sz (a++[r])->zdJ H1 z0 (q+1) vm sz' B->(∀j,j<z0->H1 j=h j)->K v hp):
 zft false (appS h q sz bytes u a [r]) K w:=
 zas ho.1 hx hlen hby hb ha fun v hp h1 h2 h3=>hK v hp _ rfl ⟨h1,fun j hj=>h2 j (by omega)⟩ ⟨hm.1.keepS ho.1 hne (by omega) h3,hm.2⟩ fun j hj=>h3 j (by omega) (ho.2 j hj)
theorem zdJ.r2 {h:Nat->Option O} {z0 x:Nat} {v:V} {sz:Nat} {rows:List (List V)} (o:zdJ h z0 x v sz rows) (a c:Nat) (b:Option O):Rg.rowsS (updC h (x+a+c) b) v=some rows:=o.1.r2 a c b
theorem zj7 (s:Step): ∀t∈s.enc,T.norm t=t:=by
 intro t ht;simp only[Step.enc,Expr.enc_eq,List.mem_append,List.mem_cons,List.not_mem_nil,or_false]at ht;rcases ht with((rfl | rfl | rfl) | (rfl | rfl | rfl | rfl)) | (rfl | rfl | rfl | rfl)<;>rfl
theorem step_elen (s:Step):s.enc.length=11:=by simp[Step.enc,expr_elen]
theorem zwF (s:Loop): ∀t∈s.enc,T.norm t=t:=by
 intro t ht;simp only[Loop.enc,Expr.enc_eq,List.mem_append,List.mem_cons,List.not_mem_nil,or_false]at ht;rcases ht with(rfl | rfl) | (rfl | rfl | rfl | rfl)<;>rfl
theorem zwG (s:Loop):s.enc.length=6:=by simp[Loop.enc,expr_elen]
theorem zk6 (h:Nat->Option O) (d:Nat) (l:List T):(l.map V.t).mapM (toT h d)=some (l.map T.norm):=by
 induction l with
 | nil=>rfl
 | cons t l ih=>
   rw[List.map_cons,List.mapM_cons,ih];have:toT h d (.t t)=some t.norm:=by cases d<;>rfl
   rw[this];rfl
theorem zkl (h:Nat->Option O) (d:Nat) (ts:List (List T)):(ts.map (·.map V.t)).mapM (fun row=>row.mapM (toT h d))=some (ts.map (·.map T.norm)):=by
 induction ts with
 | nil=>rfl
 | cons r ts ih=>rw[List.map_cons,List.mapM_cons,ih,zk6];rfl
theorem zkM {h:Nat->Option O} {x:Nat} {v:V} {sz:Nat} {ts es:List (List T)} (o:zxp h x v sz (ts.map (·.map V.t))) (he:ts.map (·.map T.norm)=es):toT h 1000 v=some (.sl es):=by
 subst he;rcases o with⟨rfl,he⟩ | ⟨k,rfl,hk,hh⟩
 ·have:ts=[]:=by simpa using he
  subst this;rfl
 ·rw[toT,hh];simp only[rd,Nat.zero_add,Nat.le_refl,if_true,List.drop_zero,List.take_length,zC,zD];rw[zkl];rfl
theorem norm_self {α:Type} {enc:α->List T} (h: ∀x,∀t∈enc x,T.norm t=t) (l:List α):(l.map enc).map (·.map T.norm)=l.map enc:=by
 rw[List.map_map];refine List.map_congr_left fun x _=> ?_
 show(enc x).map T.norm=enc x
 conv=>rhs;rw[<- List.map_id (enc x)]
 exact List.map_congr_left fun t ht=>h x t ht
def encF (b:Nat->Bool) (x:Thread) (k:Nat):List T:=[ti 5,ti (newB b k:Nat),ti ((newB b k:Int)+1),ti 1,ti 1,ti 1,.nils,.nils,tb false,ti 0,ti (firstS x k).module]
theorem encF_len (b:Nat->Bool) (x:Thread) (k:Nat):(encF b x k).length=11:=rfl
theorem zlM (b:Nat->Bool) (x:Thread) (l:List Nat):(l.map (encF b x)).map (·.map T.norm)=(l.map (fenceS b x)).map Step.enc:=by
 rw[List.map_map,List.map_map];refine List.map_congr_left fun k _=> ?_
 simp[encF,fenceS,Step.enc,Expr.enc_eq,T.norm,Expr.op,Expr.w,Expr.n,Expr.kids]
def insL (b:Nat->Bool) (n:Nat) (l:List Loop):List (List T):=l.map fun l=>(Loop.ins b n l).enc
theorem zll (b:Nat->Bool) (n:Nat) {l:List Loop} {i:Nat} {x:Loop} (h:l[i]? =some x):insL b n (l.take (i+1))=insL b n (l.take i)++[(Loop.ins b n x).enc]:=by
 unfold insL;rw[zae h,List.map_append];rfl
theorem zm9 (b:Nat->Bool) (n:Nat) (l:List Loop):(insL b n l).length=l.length:=by simp[insL]
structure SplOk (x:Thread) (b:Nat->Bool):Prop where
 al:x.asserts.length=x.points.toNat
 ml:x.modules.length=x.points.toNat
 pt:1<=x.points/\x.points<=48
 sl:x.steps.length<=64
 ll:x.loops.length<=8
 as_: ∀e∈x.asserts,e.size<2^31
 st: ∀s∈x.steps,((0<=s.fr/\s.fr<x.points)/\(0<=s.to/\s.to<x.points))/\s.guard.size<2^31/\s.set.length<2^31/\ ∀a∈s.set,a.to.size<2^31
 lp: ∀l∈x.loops,(0<=l.head/\l.head<x.points)/\l.body.length<2^31/\l.variant.size<2^31
 fb: ∀n,n<x.points.toNat->b n=true-> ∃(i:Nat) (s:Step),x.steps[i]? =some s/\s.fr=(n:Int)
set_option maxHeartbeats 2000000
theorem zka (x:Thread) (b:Nat->Bool) (h:SplOk x b):Den Γ G 430 [(.agg [.t (.str (x).name),.t (ti (x).points),.t (.sl ((x).asserts.map Expr.enc)),.t (ints (x).modules),.t (.sl ((x).steps.map Step.enc)),.t (.sl ((x).loops.map Loop.enc)),.t (tb (x).asleep)]),.t (ints (fencedI b x.points.toNat))]=some (.agg [.t (.str (x.ins b).name),.t (ti (x.ins b).points),.t (.sl ((x.ins b).asserts.map Expr.enc)),.t (ints (x.ins b).modules),.t (.sl ((x.ins b).steps.map Step.enc)),.t (.sl ((x.ins b).loops.map Loop.enc)),.t (tb (x.ins b).asleep)]):=by
 obtain⟨N,hN⟩: ∃N:Nat,x.points.toNat=N:=⟨_,rfl⟩
 have hp:=h.pt;have hPN:x.points=(N:Int):=by omega
 have hfl:=zeW b N;have hcl:=zcJ b N
 have hnum: ∀k:Nat,k<N->Den Γ G 436 [vi k,.t (.ip [.sl ((fencedI b N).map fun n=>[ti n])])]=some (vi (newB b k:Nat)):=fun k hk=>by
  have:=zhP (fencedI b N) (fencedI_pair b N) (by omega) k (by omega);rw[zgo (by omega)]at this;exact this
 have hhas: ∀k:Nat,k<N->Den Γ G 438 [vi k,.t (.ip [.sl ((fencedI b N).map fun n=>[ti n])])]=some (vb (b k)):=fun k hk=>by
  have:=znc (fencedI b N) (by omega) k;rw[zh8 hk]at this;exact this
 have hadd:IntKind.i64.wrap (x.points+((fencedI b N).length:Int))=x.points+cntB b N:=by rw[hfl,zan (by omega)]
 rw[hN]
 (refine den_ofY Γ430 rfl ?_;dsimp only[zre])
 simp -dsimp only[go_sem,seval,hadd]
 refine zaj 4835703278458508108890496 N (fun n f h z=>(f 33).v=vi n/\(f 7).v= .lb/\2<=z/\h 1=some (.rows 1 [[.t (ints (fencedI b N))]] false)/\ ∃va vm,(f 7).box=some [.t (.str x.name),.t (.int .i64 (x.points+cntB b N)),va,vm,zn,zn,.t (tb x.asleep)]/\
  zdJ h 2 z va 4 (rwG Expr.enc (dupL b (x.asserts.take n)))/\zdJ h 2 z vm 1 (rowsI (dupL b (x.modules.take n)))) rfl
  ⟨by simp -dsimp only[go_sem,seval],by simp -dsimp only[go_sem,seval],by simp -dsimp only[go_sem,seval],by simp -dsimp only[go_sem,seval],zn,zn,by simp -dsimp only[go_sem,seval],zcV,zcV⟩ ?_
 rintro n f u H q bq hn ⟨h33,h7,hq,h1,va,vm,h7b,hA,hM⟩;have hw:=zah n (by omega);simp -dsimp only[go_sem,seval,h33]
 by_cases hlt:n<N
 ·have hlt1:((n:Int)<x.points)=True:=eq_true (by omega);obtain⟨e,he,hem⟩:=zaf (show n<x.asserts.length by rw[h.al,hN];exact hlt);obtain⟨m,hm,_⟩:=zaf (show n<x.modules.length by rw[h.ml,hN];exact hlt);have hcl:=zbp e (h.as_ e hem);have hb1:=hhas n hlt;have v1:=hA.1.valOf;have v2:=hA.1.r2;have v3:=hA.1.r3;have v4:=hA.1.r4;have v5:=hA.1.r5;have hAl:=zeo b x.asserts n (by rw[h.al];omega);have hMl:=zeo b x.modules n (by rw[h.ml];omega);have hnb:newB b n<=2*n:=by have:=zcJ b n;unfold newB;omega
  simp -dsimp only[go_sem,seval,h33,hlt1,h7,h7b,he,hcl,v1,v2,v3,v4,v5];refine zds (hA.upd (by omega) _) (hM.upd (by omega) _) (by decide) (by omega) (by omega) (by rw[zbm,hAl];omega) (by decide) rfl (rwG_all _ expr_elen _) ?_;intro v hp H1 e1 hA1 hM1 hlow;rw[za9,e1];clear e1;have g1:H1 1=some (.rows 1 [[.t (ints (fencedI b N))]] false):=by rw[hlow 1 (by omega),zac,if_neg (by omega)];exact h1
  clear hlow;have hrow:([V.t (ti e.op),V.t (ti e.w),V.t (ti e.n),V.t (.sl (e.kids.map Expr.enc))]:List V)=e.enc.map V.t:=by rw[Expr.enc_eq];rfl
  replace hA1:=hA1.eq (show _=rwG Expr.enc (dupL b (x.asserts.take n)++[e])by rw[zcf,<- hrow]);have w1:=hA1.1.valOf;have w2:=zaW hA1.1;simp only[V.cells]at w2;replace hM1:=hM1.le (y:=q+1+2+12) (by omega);replace hA1:=hA1.le (y:=q+1+2+12) (by omega);have v1:=hM1.1.valOf;have v2:=hM1.1.r1;simp -dsimp only[go_sem,seval,h33,h7,h7b,w1,w2,hm,v1,v2];refine zds (hM1.upd (by omega) _) (hA1.upd (by omega) _) (by decide) (by omega) (by omega) (by rw[rowsI_len,hMl];omega) (by decide) rfl (rowsI_all _) ?_;intro v' hp' H2 e1 hM2 hA2 hlow;rw[za9,e1];clear e1;have g2:H2 1=some (.rows 1 [[.t (ints (fencedI b N))]] false):=by rw[hlow 1 (by omega),zac,if_neg (by omega)];exact g1
  clear hlow;replace hM2:=hM2.eq (show _=rowsI (dupL b (x.modules.take n)++[m])by rw[za6]);have w1:=hM2.1.valOf;have w2:=zaW hM2.1;simp only[V.cells]at w2;simp -dsimp only[go_sem,seval,h33,h7,h7b,w1,w2,g2,hb1];have hsA:=zdA b he;have hsM:=zdA b hm;cases hbn:b n
  ·rw[hbn]at hsA hsM;simp only[zG,if_false]at hsA hsM;simp -dsimp only[go_sem,seval,h33];refine⟨hlt,by simp -dsimp only[go_sem,seval,hw],by simp -dsimp only[go_sem,seval,h7],by simp -dsimp only[go_sem,seval],by simp -dsimp only[go_sem,seval,g2],v,v',by simp -dsimp only[go_sem,seval],?_,?_⟩
   ·simp -dsimp only[go_sem,seval];rw[hsA];exact hA2.le (by omega)
   ·simp -dsimp only[go_sem,seval];rw[hsM];exact hM2.le (by omega)
  ·rw[hbn]at hsA hsM;simp only[if_true]at hsA hsM;replace hM2:=hM2.le (y:=q+1+2+12+11+3) (by omega);replace hA2:=hA2.le (y:=q+1+2+12+11+3) (by omega);have v1:=hA2.1.valOf;have v2:=hA2.1.r1;simp -dsimp only[go_sem,seval,h33,h7,h7b,he,hcl,v1,v2];refine zds (hA2.upd (by omega) _) (hM2.upd (by omega) _) (by decide) (by omega) (by omega) (by rw[zbm,List.length_append,hAl];simp;omega) (by decide) rfl (rwG_all _ expr_elen _) ?_;intro v hp H3 e1 hA3 hM3 hlow;rw[za9,e1];clear e1;have g3:H3 1=some (.rows 1 [[.t (ints (fencedI b N))]] false):=by rw[hlow 1 (by omega),zac,if_neg (by omega)];exact g2
   clear hlow;replace hA3:=hA3.eq (show _=rwG Expr.enc (dupL b (x.asserts.take n)++[e]++[e])by rw[zcf _ (_++[e]),<- hrow]);replace hM3:=hM3.le (y:=q+1+2+12+11+3+12) (by omega);replace hA3:=hA3.le (y:=q+1+2+12+11+3+12) (by omega);have w1:=hA3.1.valOf;have w2:=zaW hA3.1;simp only[V.cells]at w2;have v1:=hM3.1.valOf;have v2:=hM3.1.r1;simp -dsimp only[go_sem,seval,h33,h7,h7b,w1,w2,hm,v1,v2];refine zds (hM3.upd (by omega) _) (hA3.upd (by omega) _) (by decide) (by omega) (by omega) (by rw[rowsI_len,List.length_append,hMl];simp;omega) (by decide) rfl (rowsI_all _) ?_;intro v' hp' H4 e1 hM4 hA4 hlow;rw[za9,e1];clear e1;have g4:H4 1=some (.rows 1 [[.t (ints (fencedI b N))]] false):=by rw[hlow 1 (by omega),zac,if_neg (by omega)];exact g3
   clear hlow;replace hM4:=hM4.eq (show _=rowsI (dupL b (x.modules.take n)++[m]++[m])by rw[za6 (_++[m])]);have w1:=hM4.1.valOf;have w2:=zaW hM4.1;simp only[V.cells]at w2;simp -dsimp only[go_sem,seval,h33,h7,h7b,w1,w2];refine⟨hlt,by simp -dsimp only[go_sem,seval,hw],by simp -dsimp only[go_sem,seval,h7],by simp -dsimp only[go_sem,seval],by simp -dsimp only[go_sem,seval,g4],v,v',by simp -dsimp only[go_sem,seval],?_,?_⟩
   ·simp -dsimp only[go_sem,seval];rw[hsA];refine(hA4.eq ?_).le (by omega);rw[List.append_assoc];rfl
   ·simp -dsimp only[go_sem,seval];rw[hsM];refine(hM4.eq ?_).le (by omega);rw[List.append_assoc];rfl
 have hnN:n=N:=by omega
 subst hnN;have hlt1:((n:Int)<x.points)=False:=eq_false (by omega);rw[List.take_of_length_le (by rw[h.al,hN];exact Nat.le_refl _)]at hA;rw[List.take_of_length_le (by rw[h.ml,hN];exact Nat.le_refl _)]at hM;simp -dsimp only[go_sem,seval,h33,hlt1,h7,h7b]
 refine zaj 2658455991531146119579945986970094720 x.steps.length (fun i f h z=>(f 85).v=vi i/\(f 7).v= .lb/\q<=z/\(∀j,j<q->h j=H j)/\ ∃vs,(f 7).box=some [.t (.str x.name),.t (.int .i64 (x.points+cntB b n)),va,vm,vs,zn,.t (tb x.asleep)]/\
  zdJ h q z vs 11 (rwG Step.enc ((x.steps.take i).map (Step.ins b)))) rfl
  ⟨by simp -dsimp only[go_sem,seval],by simp -dsimp only[go_sem,seval,h7],by simp -dsimp only[go_sem,seval];omega,fun j _=>by simp -dsimp only[go_sem,seval],zn,by simp -dsimp only[go_sem,seval,h7b],zcV⟩ ?_
 clear h33 h7 h7b hw hn hlt hlt1;rintro i f u H1 q1 bq hi ⟨h85,h7,hq1,hlow,vs,h7b,hS⟩;have hw:=zah i (by have:=h.sl;omega);have g1:=(hlow 1 (by omega)).trans h1;simp -dsimp only[go_sem,seval,h85]
 by_cases hlt:i<x.steps.length
 ·have hlt1:=eq_true hlt;obtain⟨s,hs,hsm⟩:=zaf hlt;obtain⟨⟨⟨f0,f1⟩,⟨t0,t1⟩⟩,hg,hsl,hsa⟩:=h.st s hsm;obtain⟨kf,hkf⟩:=Int.eq_ofNat_of_zero_le f0;obtain⟨kt,hkt⟩:=Int.eq_ofNat_of_zero_le t0;have n1:=hnum kf (by omega);have n2:=hhas kf (by omega);have n3:=hnum kt (by omega);have c1:=zbp s.guard hg;have c2:=zii s.set hsl hsa;have hnb:newB b kf<=2*kf:=by have:=zcJ b kf;unfold newB;omega
  have hadd:=zah (newB b kf) (by omega)
  have hins:Step.ins b s= { s with fr:=((newB b kf+(if b kf then 1 else 0):Nat):Int),to:=(newB b kt:Nat) }:=by
   unfold Step.ins newI;rw[hkf,hkt,Int.toNat_natCast,Int.toNat_natCast];cases b kf<;>simp
  have hsuc:rwG Step.enc ((x.steps.take (i+1)).map (Step.ins b))=rwG Step.enc ((x.steps.take i).map (Step.ins b))++[(Step.ins b s).enc.map V.t]:=by
   rw[zae hs,List.map_append];exact zcf _ _ _
  simp -dsimp only[go_sem,seval,h85,hlt1,hs,hkf,hkt,g1,n1,n2,h7];cases hb:b kf
  ·rw[hb]at hins;replace hS:=hS.le (y:=q1+1+4+5+4+19) (by omega);have v1:=hS.1.valOf;have v2:=hS.1.r1;simp -dsimp only[go_sem,seval,hkf,hkt,g1,n3,c1,c2,h7,h7b,v1,v2];refine zbt (hS.upd (by omega) _) (by omega) (by omega) (by rw[zbm];have:=h.sl;simp;omega) (by decide) rfl (rwG_all _ step_elen _) ?_;intro v hp H2 e1 hS2 hlow2;rw[za9,e1];clear e1
   replace hS2:=hS2.eq (show _=rwG Step.enc ((x.steps.take (i+1)).map (Step.ins b))by
    rw[hsuc,hins];simp[Step.enc,Expr.enc_eq])
   have w1:=hS2.1.valOf;have w2:=zaW hS2.1;simp only[V.cells]at w2;simp -dsimp only[go_sem,seval,h85,h7,h7b,w1,w2];refine⟨hlt,by simp -dsimp only[go_sem,seval,hw],by simp -dsimp only[go_sem,seval,h7],by simp -dsimp only[go_sem,seval];omega,fun j hj=> ?_,v,by simp -dsimp only[go_sem,seval],?_⟩
   ·simp -dsimp only[go_sem,seval];rw[hlow2 j hj,zac,if_neg (by omega)];exact hlow j hj
   ·simp -dsimp only[go_sem,seval];exact hS2.le (by omega)
  ·rw[hb]at hins;replace hS:=hS.le (y:=q1+1+4+5+4+3+19) (by omega);have v1:=hS.1.valOf;have v2:=hS.1.r1;simp -dsimp only[go_sem,seval,hkf,hkt,g1,n3,c1,c2,h7,h7b,v1,v2,hadd];refine zbt (hS.upd (by omega) _) (by omega) (by omega) (by rw[zbm];have:=h.sl;simp;omega) (by decide) rfl (rwG_all _ step_elen _) ?_;intro v hp H2 e1 hS2 hlow2;rw[za9,e1];clear e1
   replace hS2:=hS2.eq (show _=rwG Step.enc ((x.steps.take (i+1)).map (Step.ins b))by
    rw[hsuc,hins];simp[Step.enc,Expr.enc_eq])
   have w1:=hS2.1.valOf;have w2:=zaW hS2.1;simp only[V.cells]at w2;simp -dsimp only[go_sem,seval,h85,h7,h7b,w1,w2];refine⟨hlt,by simp -dsimp only[go_sem,seval,hw],by simp -dsimp only[go_sem,seval,h7],by simp -dsimp only[go_sem,seval];omega,fun j hj=> ?_,v,by simp -dsimp only[go_sem,seval],?_⟩
   ·simp -dsimp only[go_sem,seval];rw[hlow2 j hj,zac,if_neg (by omega)];exact hlow j hj
   ·simp -dsimp only[go_sem,seval];exact hS2.le (by omega)
 have hin:i=x.steps.length:=by omega
 subst hin;have hlt1:=eq_false hlt;rw[List.take_length]at hS;simp -dsimp only[go_sem,seval,h85,hlt1,h7,h7b,g1];have hFl:(fencedL b n).length=cntB b n:=rfl
 refine zaj 1427247682072135914778958986219038654139998336 (cntB b n) (fun i f h z=>(f 123).v=vi i/\(f 7).v= .lb/\q<=z/\(∀j,j<q->h j=H j)/\ ∃vs,(f 7).box=some [.t (.str x.name),.t (.int .i64 (x.points+cntB b n)),va,vm,vs,zn,.t (tb x.asleep)]/\
  zdJ h q z vs 11 (rwG Step.enc (x.steps.map (Step.ins b))++rwG (encF b x) ((fencedL b n).take i))) rfl
  ⟨by simp -dsimp only[go_sem,seval],by simp -dsimp only[go_sem,seval,h7],by simp -dsimp only[go_sem,seval];omega,fun j hj=>by(try simp -dsimp only[go_sem,seval]);exact hlow j hj,vs,by simp -dsimp only[go_sem,seval,h7b],by simp -dsimp only[go_sem,seval];refine(hS.eq ?_).le (by omega);simp[rwG]⟩ ?_
 clear h85 h7 h7b hw hi hlt hlt1 hlow hS g1;rintro i f u H2 q2 bq hi ⟨h123,h7,hq2,hlow,vs,h7b,hS⟩;have hw:=zah i (by omega);have g1:=(hlow 1 (by omega)).trans h1;simp -dsimp only[go_sem,seval,h123]
 by_cases hlt:i<cntB b n
 ·have hlt1:(i<(fencedI b n).length)=True:=eq_true (by rw[hfl];exact hlt);obtain⟨kf,hkf,hkm⟩:=zaf (show i<(fencedL b n).length by rw[hFl];exact hlt);have hkI:(fencedI b n)[i]? =some (kf:Int):=by unfold fencedI;rw[zJ,hkf];rfl
  unfold fencedL at hkm;rw[List.mem_filter,List.mem_range]at hkm;have n1:=hnum kf hkm.1;obtain⟨i0,s0,hs0,hfr0⟩:=h.fb kf (by omega) hkm.2;obtain⟨j,s',hj1,hj2,hj3⟩:=zlp hs0 hfr0;have hfd:=zfM x (by have:=h.sl;omega) (kf:Int);rw[hj1]at hfd;have hnb:newB b kf<=2*kf:=by have:=zcJ b kf;unfold newB;omega
  have hadd:IntKind.i64.wrap ((newB b kf:Int)+1)=(newB b kf:Int)+1:=by rw[zan (by omega)]
  replace hS:=hS.le (y:=q2+1+3) (by omega);have v1:=hS.1.valOf;have v2:=hS.1.r1;simp -dsimp only[go_sem,seval,h123,hlt1,hkI,g1,n1,h7,h7b,hadd,hfd,hj2,v1,v2];refine zbt (hS.upd (by omega) _) (by omega) (by omega) (by rw[List.length_append,zbm,zbm];have:=h.sl;simp;omega) (by decide) rfl (by rw[List.all_append,rwG_all _ step_elen,rwG_all _ (encF_len b x)];rfl) ?_;intro v hp H3 e1 hS2 hlow2;rw[za9,e1];clear e1
  replace hS2:=hS2.eq (show _=rwG Step.enc (x.steps.map (Step.ins b))++rwG (encF b x) ((fencedL b n).take (i+1))by
   rw[zed _ hkf,List.append_assoc];simp[encF,firstS,<- hj3])
  have w1:=hS2.1.valOf;have w2:=zaW hS2.1;simp only[V.cells]at w2;simp -dsimp only[go_sem,seval,h123,h7,h7b,w1,w2];refine⟨hlt,by simp -dsimp only[go_sem,seval,hw],by simp -dsimp only[go_sem,seval,h7],by simp -dsimp only[go_sem,seval];omega,fun j hj=> ?_,v,by simp -dsimp only[go_sem,seval],?_⟩
  ·simp -dsimp only[go_sem,seval];rw[hlow2 j hj,zac,if_neg (by omega)];exact hlow j hj
  ·simp -dsimp only[go_sem,seval];exact hS2.le (by omega)
 have hin:i=cntB b n:=by omega
 subst hin;have hlt1:(cntB b n<(fencedI b n).length)=False:=eq_false (by rw[hfl];omega);rw[List.take_of_length_le (by rw[hFl];exact Nat.le_refl _)]at hS;simp -dsimp only[go_sem,seval,h123,hlt1,h7,h7b];clear h123 hlt hlt1 hw hi;have hlow2:=hlow
 refine zaj 411376139330301499120760753991658577779396210812433874775670912 x.loops.length (fun i f h z=>(f 153).v=vi i/\(f 7).v= .lb/\q2<=z/\(∀j,j<q2->h j=H2 j)/\ ∃vl rows,(f 7).box=some [.t (.str x.name),.t (.int .i64 (x.points+cntB b n)),va,vm,vs,vl,.t (tb x.asleep)]/\
  OwnT h q2 z vl 6 999 rows (insL b n (x.loops.take i))) rfl
  ⟨by simp -dsimp only[go_sem,seval],by simp -dsimp only[go_sem,seval,h7],by simp -dsimp only[go_sem,seval];omega,fun j hj=>by(try simp -dsimp only[go_sem,seval]),zn,[],by simp -dsimp only[go_sem,seval,h7b],OwnT.nil _ _ _ _ _⟩ ?_
 clear h7 h7b hlow g1;rintro i f u H3 q3 bq hi ⟨h153,h7,hq3,hlow,vl,rows,h7b,hT⟩;have hw:=zah i (by have:=h.ll;omega);have g1:=((hlow 1 (by omega)).trans (hlow2 1 (by omega))).trans h1;simp -dsimp only[go_sem,seval,h153]
 by_cases hlt:i<x.loops.length
 ·have hlt1:=eq_true hlt;obtain⟨l,hl,hlm⟩:=zaf hlt;obtain⟨⟨l0,l1⟩,hbl,hvs⟩:=h.lp l hlm;obtain⟨kh,hkh⟩:=Int.eq_ofNat_of_zero_le l0;have n3:=hnum kh (by omega);have c1:=zbp l.variant hvs;simp -dsimp only[go_sem,seval,h153,hlt1,hl]
  refine zaj 12554203470042610709006127387313490415846569379100103213056 n (fun k f h z=>(f 159).v=vi k/\q3<=z/\(∀j,j<q3->h j=H3 j)/\zdJ h q3 z (f 16).v 1 (rowsI (loopBN b l k))) rfl
   ⟨by simp -dsimp only[go_sem,seval],by simp -dsimp only[go_sem,seval];omega,fun j hj=>by(try simp -dsimp only[go_sem,seval]),by simp -dsimp only[go_sem,seval];exact zcV⟩ ?_
  rintro k f2 u2 H4 q4 bq4 hk ⟨h159,hq4,hlw,hB⟩;have hwk:=zah k (by omega);have g4:=(hlw 1 (by omega)).trans g1;simp -dsimp only[go_sem,seval,h159]
  by_cases hkn:k<n
  ·have hk1:((k:Int)<x.points)=True:=eq_true (by omega);have n1:=hnum k hkn;have n2:=hhas k hkn;have hc:=zbB l.body k (by omega);have hnb:newB b k<=2*k:=by have:=zcJ b k;unfold newB;omega
   have hadd:IntKind.i64.wrap ((newB b k:Int)+1)=(newB b k:Int)+1:=by rw[zan (by omega)]
   have hsuc:=zdi b l k;have hlen:=zdS b l k;simp -dsimp only[go_sem,seval,h159,hk1,hc];cases hci:l.body.contains (k:Int)
   ·have hm: ¬(k:Int)∈l.body:=by simpa using hci
    have hlb0:b k=false\/ ¬(k:Int)=l.head->loopB b l k=[]:=fun hh=>by
     unfold loopB;rw[if_neg hm];rcases hh with hh | hh<;>simp[hh,hm]
    have hlb1:b k=true->(k:Int)=l.head->loopB b l k=[(newB b k:Int)+1]:=fun h1 h2=>by
     unfold loopB;rw[if_neg hm];simp[h1,h2]
    simp -dsimp only[go_sem,seval,g4,n2];cases hbk:b k
    ·rw[hlb0 (.inl hbk),List.append_nil]at hsuc;simp -dsimp only[go_sem,seval,h159];refine⟨hkn,by simp -dsimp only[go_sem,seval,hwk],by simp -dsimp only[go_sem,seval];omega,fun j hj=>by simp -dsimp only[go_sem,seval];exact hlw j hj,?_⟩;simp -dsimp only[go_sem,seval];rw[hsuc];exact hB.le (by omega)
    ·by_cases heq:(k:Int)=l.head
     ·have heq1:=eq_true heq;rw[hlb1 hbk heq]at hsuc;replace hB:=hB.le (y:=q4+1+2+5+1+12) (by omega);have v1:=hB.1.valOf;have v2:=hB.1.r1;simp -dsimp only[go_sem,seval,heq1,g4,n1,hadd,v1,v2];refine zbt (hB.upd (by omega) _) (by omega) (by omega) (by rw[rowsI_len];omega) (by decide) rfl (rowsI_all _) ?_;intro v hp H5 e1 hB2 hlw2;rw[za9,e1];clear e1;replace hB2:=hB2.eq (show _=rowsI (loopBN b l (k+1))by rw[hsuc,za6]);have w1:=hB2.1.valOf;simp -dsimp only[go_sem,seval,h159,w1];refine⟨hkn,by simp -dsimp only[go_sem,seval,hwk],by simp -dsimp only[go_sem,seval];omega,fun j hj=> ?_,?_⟩
      ·simp -dsimp only[go_sem,seval];rw[hlw2 j hj,zac,if_neg (by omega)];exact hlw j hj
      ·simp -dsimp only[go_sem,seval];exact hB2.le (by omega)
     ·have heq1:=eq_false heq;rw[hlb0 (.inr heq),List.append_nil]at hsuc;simp -dsimp only[go_sem,seval,heq1,h159];refine⟨hkn,by simp -dsimp only[go_sem,seval,hwk],by simp -dsimp only[go_sem,seval];omega,fun j hj=>by simp -dsimp only[go_sem,seval];exact hlw j hj,?_⟩;simp -dsimp only[go_sem,seval];rw[hsuc];exact hB.le (by omega)
   ·have hm:(k:Int)∈l.body:=by simpa using hci
    have hlb0:b k=false->loopB b l k=[(newB b k:Int)]:=fun hh=>by
     unfold loopB;rw[if_pos hm];simp[hh]
    have hlb1:b k=true->loopB b l k=[(newB b k:Int)]++[(newB b k:Int)+1]:=fun h1=>by
     unfold loopB;rw[if_pos hm];simp[h1,hm]
    replace hB:=hB.le (y:=q4+1+2+5+1) (by omega);have v1:=hB.1.valOf;have v2:=hB.1.r1;simp -dsimp only[go_sem,seval,g4,n1,v1,v2];refine zbt (hB.upd (by omega) _) (by omega) (by omega) (by rw[rowsI_len];omega) (by decide) rfl (rowsI_all _) ?_;intro v hp H5 e1 hB2 hlw2;rw[za9,e1];clear e1;replace hB2:=hB2.eq (show _=rowsI (loopBN b l k++[(newB b k:Int)])by rw[za6]);have hlw5: ∀j,j<q3->H5 j=H3 j:=fun j hj=>by rw[hlw2 j hj,zac,if_neg (by omega)];exact hlw j hj
    have g5:=(hlw5 1 (by omega)).trans g1;have w1:=hB2.1.valOf;simp -dsimp only[go_sem,seval,h159,w1,g5,n2];cases hbk:b k
    ·rw[hlb0 hbk]at hsuc;simp -dsimp only[go_sem,seval,h159];refine⟨hkn,by simp -dsimp only[go_sem,seval,hwk],by simp -dsimp only[go_sem,seval];omega,fun j hj=>by simp -dsimp only[go_sem,seval];exact hlw5 j hj,?_⟩;simp -dsimp only[go_sem,seval];rw[hsuc];exact hB2.le (by omega)
    ·rw[hlb1 hbk,<- List.append_assoc]at hsuc;replace hB2:=hB2.le (y:=q4+1+2+5+1+7+12) (by omega);have v2:=hB2.1.r1;simp -dsimp only[go_sem,seval,g5,n1,hadd,w1,v2];refine zbt (hB2.upd (by omega) _) (by omega) (by omega) (by rw[rowsI_len];simp;omega) (by decide) rfl (rowsI_all _) ?_;intro v' hp' H6 e1 hB3 hlw3;rw[za9,e1];clear e1;replace hB3:=hB3.eq (show _=rowsI (loopBN b l (k+1))by rw[hsuc];simp only[za6]);have w1:=hB3.1.valOf;simp -dsimp only[go_sem,seval,h159,w1];refine⟨hkn,by simp -dsimp only[go_sem,seval,hwk],by simp -dsimp only[go_sem,seval];omega,fun j hj=> ?_,?_⟩
     ·simp -dsimp only[go_sem,seval];rw[hlw3 j hj,zac,if_neg (by omega)];exact hlw5 j hj
     ·simp -dsimp only[go_sem,seval];exact hB3.le (by omega)
  have hkn2:k=n:=by omega
  subst hkn2;have hk1:((k:Int)<x.points)=False:=eq_false (by omega);have v1:=hB.1.valOf;have v2:=zaW hB.1;simp only[V.cells]at v2;have hoT:zxp H4 q4 vl 6 rows:=hT.own.keep hq4 fun j hj _=>hlw j hj
  have t1:=hoT.valOf;have t2:=(hoT.le (y:=q4+1) (by omega)).r1;have g4:=(hlw 1 (by omega)).trans g1;simp -dsimp only[go_sem,seval,h159,hk1,h7,h7b,hkh,g4,n3,c1,v1,v2,t1,t2];refine zas ((hoT.le (y:=q4+1+11) (by omega)).upd (Nat.le_refl _) _) (by omega) (by have h1:=hT.len;have h2:=h.ll;rw[zm9,List.length_take]at h1;omega) (by decide) rfl hT.all ?_;intro v hp hO hoffs hkeep;rw[za9]
  generalize hpC (updC H4 (q4+1+11) _) hp=H5 at hO hkeep⊢
  obtain⟨R,hT2⟩: ∃R,OwnT H5 q2 (q4+1+12+1) v 6 999 R (insL b k (x.loops.take i)++[(l.ins b k).enc]):=⟨_,hT.snoc (e:=(l.ins b k).enc) (by omega) (by omega) (by omega) hO hoffs hkeep (fun j hj=>by rw[zac,if_neg (by omega)];exact hlw j hj) rfl (fun h2 hh=>by
   have hb:=ziM (h2:=h2) (d:=998) (es:=(loopBN b l k).map fun n=>[ti n]) hB.1 (ints_norm _) (fun j hj hn=>by
    have h3:q3<=j:=Nat.le_of_not_lt fun h4=>hn (hB.2 j h4)
    rw[hh j h3 (by omega),zac,if_neg (by omega)])
   have e1: ∀t:T,toT h2 999 (.t t)=some t.norm:=fun t=>rfl
   simp only[List.mapM_cons,List.mapM_nil,hb,e1]
   simp[Loop.ins,Loop.enc,Expr.enc_eq,newI,hkh,T.norm,hN])⟩
  have w1:=hO.valOf;have w2:=zaW hO;simp only[V.cells]at w2;simp -dsimp only[go_sem,seval,h153,h7,h7b,w1,w2];refine⟨hlt,by simp -dsimp only[go_sem,seval,hw],by simp -dsimp only[go_sem,seval,h7],by simp -dsimp only[go_sem,seval];omega,fun j hj=> ?_,v,R,by simp -dsimp only[go_sem,seval],?_⟩
  ·simp -dsimp only[go_sem,seval];rw[hkeep j (by omega) (hT.low j hj),zac,if_neg (by omega),hlw j (by omega)];exact hlow j hj
  ·simp -dsimp only[go_sem,seval];rw[zll b k hl];exact⟨hT2.own.le (by omega),hT2.all,hT2.len,hT2.low,fun h2 hh=>hT2.sh h2 fun j h1 h2 h3=>hh j h1 (by omega) h3⟩
 have hin:i=x.loops.length:=by omega
 subst hin;have hlt1:=eq_false hlt;rw[List.take_length]at hT;have kA:zxp H3 q va 4 (rwG Expr.enc (dupL b x.asserts)):=hA.1.keep (Nat.le_refl _) fun j hj _=>(hlow j (by omega)).trans (hlow2 j hj)
 have kM:zxp H3 q vm 1 (rowsI (dupL b x.modules)):=hM.1.keep (Nat.le_refl _) fun j hj _=>(hlow j (by omega)).trans (hlow2 j hj)
 have kS:zxp H3 q2 vs 11 ((((x.steps.map (Step.ins b)).map Step.enc++(fencedL b n).map (encF b x))).map (·.map V.t)):=by
  have:=hS.1.keep (h':=H3) (Nat.le_refl _) fun j hj _=>hlow j hj
  exact zdQ this (by simp[rwG])
 have tA:=zbu kA (rwG_norm _ expr_norm _);have tM:=zbu kM (ints_norm _);have tS:=zkM kS (es:=((x.steps.map (Step.ins b)++(fencedL b n).map (fenceS b x))).map Step.enc) (by rw[List.map_append,norm_self zj7,zlM,List.map_append]);have tL:=hT.toT (h2:=H3) fun _ _ _=>rfl
 simp -dsimp only[go_sem,seval,h153,hlt1,h7,h7b,tA,tM,tS,tL];refine⟨rfl,by simp only[Thread.ins,hN],rfl,rfl,by simp only[Thread.ins,hN],?_,rfl⟩;simp only[Thread.ins,hN,insL,List.map_map];rfl
end Rg
end
section
namespace Rg
open Go
def boolL (b:Nat->Bool) (n:Nat):List Bool:=(List.range n).map b
theorem zwj (b:Nat->Bool) (n:Nat):(boolL b n).length=n:=by simp[boolL]
theorem zwa {b:Nat->Bool} {n k:Nat} (h:k<n):(boolL b n)[k]? =some (b k):=by simp[boolL,List.getElem?_range h]
abbrev boolT (b:Nat->Bool) (n:Nat):T:=.sl ((boolL b n).map fun x=>[tb x])
theorem zwm (b:Nat->Bool) (n k:Nat) (hk:k<=n) (hn:n<2^20):Den Γ G 431 [.t (boolT b n),vi k]=some (vi (newB b k:Nat)):=by
 (refine den_ofY Γ431 rfl ?_;dsimp only[zwY])
 simp -dsimp only[go_sem,seval];refine zaz 524128 k (fun i f=>(f 6).v=vi i/\(f 5).v=vi ((k+cntB b i:Nat):Int)) rfl rfl ⟨by simp -dsimp only[go_sem,seval],by simp -dsimp only[go_sem,seval];rfl⟩ ?_;rintro i f u kk bb hi ⟨h6,h5⟩;have hw:=zah i (by omega);have hc:=zcJ b i;have hw2:=zah (k+cntB b i) (by omega);simp -dsimp only[go_sem,seval,h6]
 by_cases hlt:i<k
 ·have hlt1:=eq_true hlt;have hg:=zwa (b:=b) (show i<n by omega);have hs:=zdB b i;simp -dsimp only[go_sem,seval,h6,hlt1,hg];cases hb:b i
  ·rw[hb]at hs;simp -dsimp only[go_sem,seval,h6];exact⟨hlt,by simp -dsimp only[go_sem,seval,hw],by simp -dsimp only[go_sem,seval,h5];simp[hs]⟩
  ·rw[hb]at hs;simp -dsimp only[go_sem,seval,h6,h5,hw2];exact⟨hlt,by simp -dsimp only[go_sem,seval,hw],by simp -dsimp only[go_sem,seval];simp[hs];omega⟩
 ·have hlt1:=eq_false hlt;have:i=k:=by omega
  subst this;simp -dsimp only[go_sem,seval,h6,hlt1,h5];rfl
theorem zwD (x:Thread) (hl:x.steps.length<2^20) (pt:Int) {i:Nat} {s:Step} (hs:x.steps[i]? =some s) (hp:s.fr=pt):Den Γ G 432 [(.agg [.t (.str (x).name),.t (ti (x).points),.t (.sl ((x).asserts.map Expr.enc)),.t (ints (x).modules),.t (.sl ((x).steps.map Step.enc)),.t (.sl ((x).loops.map Loop.enc)),.t (tb (x).asleep)]),vi pt]=some (.agg [.t (ti (firstS x pt).kind),.t (ti (firstS x pt).fr),.t (ti (firstS x pt).to),.t (ti ((firstS x pt).guard).op),.t (ti ((firstS x pt).guard).w),.t (ti ((firstS x pt).guard).n),.t (.sl (((firstS x pt).guard).kids.map Expr.enc)),.t (.sl ((firstS x pt).set.map Assign.enc)),.t (tb (firstS x pt).release),.t (ti (firstS x pt).target),.t (ti (firstS x pt).module)]):=by
 obtain⟨j,s',hj1,hj2,hj3⟩:=zlp hs hp;have hfst:firstS x pt=s':=hj3.symm
 have hmiss: ∀k,k<j-> ∃y,x.steps[k]? =some y/\ ¬y.fr=pt:=fun k hk=>by
  have hjl:=(zH.1 hj2).1;refine⟨x.steps[k],zI (by omega),fun he=> ?_⟩;unfold idxS idxC at hj1;split at hj1
  ·rename_i q hq;have hqj:q=j:=by omega
   subst hqj;rw[List.findIdx?_eq_some_iff_getElem]at hq;obtain⟨_,_,h3⟩:=hq;have:=h3 k hk;simp at this;exact this he
  ·omega
 have hfr:s'.fr=pt:=by
  have h1:=List.find?_some (l:=x.steps) (p:=fun s=>decide (s.fr=pt)) (a:=s') (by
   rw[hj3]
   cases h:x.steps.find? fun s=>decide (s.fr=pt)with
   | none=>
     rw[List.find?_eq_none]at h
     exact absurd (decide_eq_true hp) (h s (List.mem_of_getElem? hs))
   | some y=>rfl)
  simpa using h1
 rw[hfst];have hjl:=(zH.1 hj2).1
 (refine den_ofY Γ432 rfl ?_;dsimp only[zwX])
 simp -dsimp only[go_sem,seval];refine zaz 65504 j (fun i f=>(f 5).v=vi i) rfl rfl (by simp -dsimp only[go_sem,seval]) ?_;rintro i f u kk bb hi h5;have hw:=zah i (by omega)
 by_cases hlt:i<j
 ·obtain⟨y,hy,hne⟩:=hmiss i hlt;have hne1:=eq_false hne;simp -dsimp only[go_sem,seval,h5,hy,hne1];exact⟨hlt,by simp -dsimp only[go_sem,seval,hw]⟩
 ·have:i=j:=by omega
  subst this;simp -dsimp only[go_sem,seval,h5,hj2,hfr]
set_option maxHeartbeats 2000000
theorem zwH (l:Loop) (b:Nat->Bool) (n:Nat) (hn:n<2^20) (hh:0<=l.head/\l.head<n) (hl:l.body.length<2^31):
 Den Γ G 433 [.agg [.t (ti l.head),.t (ints l.body),.t (ti l.variant.op),.t (ti l.variant.w),.t (ti l.variant.n),.t (.sl (l.variant.kids.map Expr.enc))],.t (boolT b n)]=
  some (.agg [.t (ti (l.ins b n).head),.t (ints (l.ins b n).body),.t (ti l.variant.op),.t (ti l.variant.w),.t (ti l.variant.n),.t (.sl (l.variant.kids.map Expr.enc))]):=by
 obtain⟨kh,hkh⟩:=Int.eq_ofNat_of_zero_le hh.1;have hnw:=zwm b n kh (by omega) hn;have hbl:=zwj b n
 (refine den_ofY Γ433 rfl ?_;dsimp only[zwW])
 simp -dsimp only[go_sem,seval,hkh,hnw]
 refine zaj 1180591620717411238368 n (fun i f h z=>(f 6).v=vi i/\(f 5).v= .lb/\ ∃vb,(f 5).box=some [.t (.int .i64 (newB b kh:Nat)),vb,.t (ti l.variant.op),.t (ti l.variant.w),.t (ti l.variant.n),.t (.sl (l.variant.kids.map Expr.enc))]/\zdJ h 0 z vb 1 (rowsI (loopBN b l i))) rfl
  ⟨by simp -dsimp only[go_sem,seval],by simp -dsimp only[go_sem,seval],zn,by simp -dsimp only[go_sem,seval],zcV⟩ ?_
 rintro i f u H q bq hi ⟨h6,h5,vb',h5b,hO⟩;have hw:=zah i (by omega);simp -dsimp only[go_sem,seval,h6]
 by_cases hlt:i<n
 ·have hlt1:(i<(boolL b n).length)=True:=eq_true (by omega);simp -dsimp only[go_sem,seval,h6,hlt1];refine zaj 549751619968 l.body.length (fun k f h z=>(f 8).v=vi k/\(f 7).v=vb ((l.body.take k).any fun z=>decide (z=(i:Int)))/\zdJ h 0 z vb' 1 (rowsI (loopBN b l i))) rfl ⟨by simp -dsimp only[go_sem,seval],by simp -dsimp only[go_sem,seval];rfl,by simp -dsimp only[go_sem,seval];exact hO.le (by omega)⟩ ?_;rintro k f2 u2 H2 q2 bq2 hk ⟨h8,h7,hO2⟩;have hwk:=zah k (by omega);simp -dsimp only[go_sem,seval,h8]
  by_cases hkl:k<l.body.length
  ·have hkl1:=eq_true hkl;obtain⟨z,hz,_⟩:=zaf hkl
   have hany:(l.body.take (k+1)).any (fun z=>decide (z=(i:Int)))=((l.body.take k).any (fun z=>decide (z=(i:Int)))||decide (z=(i:Int))):=by
    rw[zae hz,List.any_append];simp
   simp -dsimp only[go_sem,seval,hkl1,h7];cases hb:(l.body.take k).any fun z=>decide (z=(i:Int))
   ·rw[hb]at hany;simp -dsimp only[go_sem,seval,h8,hz,h6];refine⟨hkl,by simp -dsimp only[go_sem,seval,hwk],by simp -dsimp only[go_sem,seval];rw[hany];simp,?_⟩;simp -dsimp only[go_sem,seval];exact hO2.le (by omega)
   ·rw[hb]at hany;simp -dsimp only[go_sem,seval,h8];refine⟨hkl,by simp -dsimp only[go_sem,seval,hwk],by simp -dsimp only[go_sem,seval];rw[hany];simp,?_⟩;simp -dsimp only[go_sem,seval];exact hO2.le (by omega)
  ·have hkl2:k=l.body.length:=by omega
   have hkl1:=eq_false hkl;subst hkl2
   have hany:(l.body.take l.body.length).any (fun z=>decide (z=(i:Int)))=decide ((i:Int)∈l.body):=by
    rw[List.take_length]
    by_cases hm:(i:Int)∈l.body
    ·rw[decide_eq_true hm,List.any_eq_true];exact⟨_,hm,by simp⟩
    ·rw[decide_eq_false hm,List.any_eq_false];intro z hz;simp only[decide_eq_true_eq];rintro rfl;exact hm hz
   rw[hany]at h7;have n1:=zwm b n i (by omega) hn;have hg:=zwa (b:=b) hlt;have hnb:newB b i<=2*i:=by have:=zcJ b i;unfold newB;omega
   have hadd:IntKind.i64.wrap ((newB b i:Int)+1)=(newB b i:Int)+1:=by rw[zan (by omega)]
   have hsuc:=zdi b l i;have hlen:=zdS b l i;have v1:=hO2.1.valOf;have v2:=hO2.1.r1;simp -dsimp only[go_sem,seval,hkl1,h7];cases hm:decide ((i:Int)∈l.body)
   ·have hm1: ¬(i:Int)∈l.body:=of_decide_eq_false hm
    have hlb0:b i=false\/ ¬(kh:Int)=(i:Int)->loopB b l i=[]:=fun hh=>by
     unfold loopB;rw[if_neg hm1];rcases hh with hh | hh
     ·simp[hh,hm1]
     ·have : ¬(i:Int)=l.head:=fun h=>hh (by rw[<- hkh,h])
      simp[hm1,this]
    have hlb1:b i=true->(kh:Int)=(i:Int)->loopB b l i=[(newB b i:Int)+1]:=fun h1 h2=>by
     unfold loopB;rw[if_neg hm1];simp[h1,hkh,h2]
    rw[hm]at h7;simp -dsimp only[go_sem,seval,h6,hlt1,hg];cases hbi:b i
    ·rw[hlb0 (.inl hbi),List.append_nil]at hsuc;simp -dsimp only[go_sem,seval,h6];refine⟨hlt,by simp -dsimp only[go_sem,seval,hw],by simp -dsimp only[go_sem,seval,h5],vb',by simp -dsimp only[go_sem,seval,h5b],?_⟩;simp -dsimp only[go_sem,seval];rw[hsuc];exact hO2.le (by omega)
    ·by_cases heq:(kh:Int)=(i:Int)
     ·have heq1:=eq_true heq;rw[hlb1 hbi heq]at hsuc;replace hO2:=hO2.le (y:=q2+5+1+13) (by omega);have v2:=hO2.1.r1;simp -dsimp only[go_sem,seval,h7,h6,heq1,h5,h5b,v1,v2,n1,hadd];refine zbt (hO2.upd (by omega) _) (by omega) (by omega) (by rw[rowsI_len];omega) (by decide) rfl (rowsI_all _) ?_;intro v hp H5 e1 hO3 hlw2;rw[za9,e1];clear e1;replace hO3:=hO3.eq (show _=rowsI (loopBN b l (i+1))by rw[hsuc,za6]);have w1:=hO3.1.valOf;have w2:=zaW hO3.1;simp only[V.cells]at w2;simp -dsimp only[go_sem,seval,h6,h5,h5b,w1,w2];refine⟨hlt,by simp -dsimp only[go_sem,seval,hw],by simp -dsimp only[go_sem,seval,h5],v,by simp -dsimp only[go_sem,seval],?_⟩;simp -dsimp only[go_sem,seval];exact hO3.le (by omega)
     ·have heq1:=eq_false heq;rw[hlb0 (.inr heq),List.append_nil]at hsuc;simp -dsimp only[go_sem,seval,h7,h6,heq1];refine⟨hlt,by simp -dsimp only[go_sem,seval,hw],by simp -dsimp only[go_sem,seval,h5],vb',by simp -dsimp only[go_sem,seval,h5b],?_⟩;simp -dsimp only[go_sem,seval];rw[hsuc];exact hO2.le (by omega)
   ·have hm1:(i:Int)∈l.body:=of_decide_eq_true hm
    have hlb0:b i=false->loopB b l i=[(newB b i:Int)]:=fun hh=>by
     unfold loopB;rw[if_pos hm1];simp[hh]
    have hlb1:b i=true->loopB b l i=[(newB b i:Int)]++[(newB b i:Int)+1]:=fun h1=>by
     unfold loopB;rw[if_pos hm1];simp[h1,hm1]
    rw[hm]at h7;replace hO2:=hO2.le (y:=q2+5+1) (by omega);have v2:=hO2.1.r1;simp -dsimp only[go_sem,seval,h6,h5,h5b,v1,v2,n1];refine zbt (hO2.upd (by omega) _) (by omega) (by omega) (by rw[rowsI_len];omega) (by decide) rfl (rowsI_all _) ?_;intro v hp H5 e1 hO3 hlw2;rw[za9,e1];clear e1;have w1:=hO3.1.valOf;have w2:=zaW hO3.1;simp only[V.cells]at w2;simp -dsimp only[go_sem,seval,h6,h5,h5b,w1,w2,hlt1,hg,h7];cases hbi:b i
    ·rw[hlb0 hbi]at hsuc;replace hO3:=hO3.eq (show _=rowsI (loopBN b l (i+1))by rw[hsuc,za6]);simp -dsimp only[go_sem,seval,h6];refine⟨hlt,by simp -dsimp only[go_sem,seval,hw],by simp -dsimp only[go_sem,seval,h5],v,by simp -dsimp only[go_sem,seval],?_⟩;simp -dsimp only[go_sem,seval];exact hO3.le (by omega)
    ·rw[hlb1 hbi,<- List.append_assoc]at hsuc;replace hO3:=hO3.eq (show _=rowsI (loopBN b l i++[(newB b i:Int)])by rw[za6]);replace hO3:=hO3.le (y:=q2+5+1+9+13) (by omega);have v2:=hO3.1.r1;simp -dsimp only[go_sem,seval,h7,h6,h5,h5b,w1,v2,n1,hadd];refine zbt (hO3.upd (by omega) _) (by omega) (by omega) (by rw[rowsI_len,List.length_append];simp;omega) (by decide) rfl (rowsI_all _) ?_;intro v' hp' H6 e1 hO4 hlw3;rw[za9,e1];clear e1;replace hO4:=hO4.eq (show _=rowsI (loopBN b l (i+1))by rw[hsuc];simp only[za6]);have w1:=hO4.1.valOf;have w2:=zaW hO4.1;simp only[V.cells]at w2;simp -dsimp only[go_sem,seval,h6,h5,h5b,w1,w2];refine⟨hlt,by simp -dsimp only[go_sem,seval,hw],by simp -dsimp only[go_sem,seval,h5],v',by simp -dsimp only[go_sem,seval],?_⟩;simp -dsimp only[go_sem,seval];exact hO4.le (by omega)
 ·have hin:i=n:=by omega
  subst hin;have hlt1:(i<(boolL b i).length)=False:=eq_false (by omega);have t0:=zbu hO.1 (ints_norm _);simp -dsimp only[go_sem,seval,h6,hlt1,h5,h5b,t0];refine⟨?_,rfl⟩;simp[Loop.ins,newI,hkh]
end Rg
end

/- Part of the proof of laws of relyguardlaw36. No condition. -/
import Derived.Test.YtaiokglcgiemnaaGreatDoorDartAR
import Derived.Test.YtaiokglcgiemnaaGreatDoorDartAP
import Derived.Test.YtaiokglcgiemnaaGreatDoorDartAQ
import Derived.Test.YtaiokglcgiemnaaGreatDoorDartAJ
import Derived.Test.YtaiokglcgiemnaaGreatDoorDartAH
set_option linter.unusedSimpArgs false
set_option linter.unusedVariables false
section
namespace Rg
open Go
theorem zit {p:Prog} {k:Int} {c:Config} (hc:IsK p k c) {t:Nat} {s:Step} (h:k=0\/s.kind≠3):
 zBb p k c t s=⟨zxh c.mem (zxd c t) s.set,if s.kind=6 then(c.at_.set t s.to).set s.target.toNat 0 else c.at_.set t s.to,c.buf⟩:=by
 unfold zBb;split
 ·rename_i hk;have hq:=hc.q hk;rw[zfJ hq,zkP hc.b.lb hq];rfl
 ·rename_i hk;have h3:s.kind≠3:=h.resolve_left hk;simp only[zyO,if_neg h3]
theorem zjK (p:Prog) (hs:p.sane) (hf:zw6 p=true) (k:Int) (hk:0<=k/\k<=2) (c:Config) (hc:IsK p k c) (y:Choice) (hy:y∈zxv p k c):
 Den Γ G 340 [(zP p),vi k,(.agg [.t (ints (c).mem),.t (ints (c).at_),.t (.sl ((c).buf.map (fun b=>[.sl (b.map Entry.enc)])))]),(.agg [.t (ti (y).thread),.t (ti (y).step),.t (ti (y).cell)])]=some (.tup [(.agg [.t (ints ((zzh p k c y).1).mem),.t (ints ((zzh p k c y).1).at_),.t (.sl (((zzh p k c y).1).buf.map (fun b=>[.sl (b.map Entry.enc)])))]),vi 0]):=by
 have AG:=zht p hs hf k hk c hc;have D1:=zdg p hs hf k hk c hc;have Ji:=zoA (zxv p k c) y (by have:=zeo hf (k:=k) hc.b;rw[zcu hc];omega);rw[(zBB _ _).2 hy]at Ji;obtain⟨⟨m1,m2,m3,m4⟩,_⟩:=zw8 (zw9 hf).1;have l1:=hc.b.lm;have l2:=hc.b.la;have l3:=hc.b.lb;rcases zhi hf hc hy with⟨t,x,i,s,hx,AA,he,rfl,hn,hd⟩ | ⟨CQ,t,i,e,ht,hi,ho,rfl,hn,hd⟩
 ·rw[hn];have Bg:=za4 hf hx AA;have ht:t<p.threads.length:=(zH.1 hx).1;have E2:=zeK Bg.set
  have Bh: ∀a∈s.set,0<=a.cell/\a.cell<c.mem.length:=fun a ha=>by
   have:=(Bg.rng.2 a ha).1;simp only[inR,decide_eq_true_eq]at this;omega
  have CB:=zfs p hf c hc.b t ht;have ineg: ¬(i:Int)<0:=by omega
  (refine zw3 Γ340 rfl ?_;dsimp only[zpQ])
  simp -dsimp only[go_sem,seval,AG,D1,Ji,hx,AA,ineg];refine zas (zBf p hf c hc.b _) ?_;rintro r h' n' ⟨vM,vA,kB,rfl,x1,x2,bd,vs,hM,hA,CQ,Be,Ba,hB,Az,Id⟩;obtain⟨Bi,AW⟩:=hM.val;rcases hA with⟨_,h0⟩ | ⟨kA,rfl,a1,a2,a3⟩
  ·exfalso;have h1:=congrArg List.length h0;rw[zw2]at h1;simp at h1;rw[h1]at l2;simp at l2;omega
  unfold V.cells at AW;have LZ:=Az.le (q:=0) (r:=c.buf.length) (by omega) (Nat.le_refl _);have Bn:=zaE (l:=c.at_) (i:=t) (by omega);have Kl:=zaD c.at_ t s.to;have Af:(t:Int)<(c.at_.length:Int):=by omega
  have t0:(0:Int)<=(t:Int):=by omega
  have J2:kA≠kB:=by omega
  have GC:kB≠kA:=by omega
  generalize Bu:(if s.kind=6 then(c.at_.set t s.to).set s.target.toNat 0 else c.at_.set t s.to)=at'
  have F0:at'.length=c.at_.length:=by rw[<- Bu];split<;>simp
  by_cases Cr:k=0\/s.kind≠3
  ·have hE:=zit hc (t:=t) (s:=s) Cr;rw[Bu]at hE;have L8:=zjt c.mem (zxd c t) s.set (by omega) (by omega) Bh;have f2:(zw5 at').length=c.at_.length:=by rw[zw2,F0]
   have f3:List.take c.at_.length (zw5 at')=zw5 at':=zaC f2.symm;have f5:vs.length=c.buf.length:=Az.len;have f6:List.take c.buf.length vs=vs:=zaC f5.symm
   have f7: ∀o:Option O,vs.mapM (fun row=>row.mapM (toT (updC h' kA o) 999))=some (c.buf.map fun b=>[.sl (b.map Entry.enc)]):=fun o=>
    zbt _ _ f5 fun q b hq=>by
     obtain⟨u,hu,NL⟩:=Az.at_ q b hq;have FQ:=(zH.1 hq).1;have u1:=Az.le (q:=0) (r:=q) (by omega) (by omega);exact⟨u,hu,(NL.keep (Nat.le_refl _) fun z z1 z2=>by rw[zae,if_neg (by omega)]).tree 997⟩
   rw[hE];simp -dsimp only[go_sem,seval,Bi,AW,a3,Bn,Af,t0,Kl,zw2]
   by_cases h6:s.kind=6
   ·obtain⟨hr,_⟩:=Bg.tgt (.inl h6);simp only[inR,decide_eq_true_eq]at hr;have q1:s.target<(c.at_.length:Int):=by omega
    have q2:=hr.1;have Gq:=zaE (l:=c.at_.set t s.to) (i:=s.target.toNat) (by simp;omega);have E0:=zaD (c.at_.set t s.to) s.target.toNat 0;rw[if_pos h6]at Bu;subst Bu;simp -dsimp only[go_sem,seval,h6,Bi,AW,q1,q2,Gq,E0,zw2,List.length_set,CB,L8,GC,hB,zdy,f2,f3,f5,f6,f7,zaL,Nat.le_refl]
   ·rw[if_neg h6]at Bu;subst Bu;rcases Cr with CQ | BD
    ·by_cases BD:s.kind=3
     ·simp -dsimp only[go_sem,seval,CQ,BD,Bi,AW,zw2,List.length_set,CB,L8,GC,hB,f2,f3,f5,f6,f7,zaL,Nat.le_refl]
     ·simp -dsimp only[go_sem,seval,h6,CQ,BD,Bi,AW,zw2,List.length_set,CB,L8,GC,hB,f2,f3,f5,f6,f7,zaL,Nat.le_refl]
    ·simp -dsimp only[go_sem,seval,h6,BD,Bi,AW,zw2,List.length_set,CB,L8,GC,hB,f2,f3,f5,f6,f7,zaL,Nat.le_refl]
  ·have CQ: ¬k=0:=fun h=>Cr (.inl h)
   have BD:s.kind=3:=Decidable.of_not_not fun h=>Cr (.inr h)
   have k6: ¬s.kind=6:=by omega
   rw[if_neg k6]at Bu;subst Bu;simp -dsimp only[go_sem,seval,Bi,AW,a3,Bn,Af,t0,Kl,zw2,BD,CQ,CB]
   have hE:zBb p k c t s=⟨zxh c.mem (zxd c t) (s.set.filter fun a=> !zw7 p a),c.at_.set t s.to,c.buf.set t (zxq c t++[zzb p (zxd c t) s.set])⟩:=by
    unfold zBb;rw[if_neg CQ];simp only[zyO,if_pos BD,if_neg k6]
   refine zap 2722258935367352965202086186919783424000 s.set.length (fun j f h z=>(f 14).v=vi j/\(f 13).v= .lb/\ ∃vc vv,(f 13).box=some [vc,vv]/\ztu h n' z vc vv (((s.set.take j).filter (zw7 p)).map Assign.cell) (((s.set.take j).filter (zw7 p)).map fun a=>a.to.eval (zxd c t) (zxd c t))/\
    zkh h 0 x1 vM (zw5 (zxh c.mem (zxd c t) ((s.set.take j).filter fun a=> !zw7 p a)))/\(∀q,x1<=q->q<n'->h q=if q=kA then some (O.rows 1 (zw5 (c.at_.set t s.to)) false)else h' q)/\n'<=z) rfl
    ⟨by simp -dsimp only[go_sem,seval],by simp -dsimp only[go_sem,seval],.t .nils,.t .nils,by simp -dsimp only[go_sem,seval],.inl ⟨rfl,rfl,rfl,rfl⟩,hM.keep fun q q1 q2=>by simp -dsimp only[go_sem,seval];rw[if_neg (by omega)],fun q _ _=>by simp -dsimp only[go_sem,seval],by simp -dsimp only[go_sem,seval];omega⟩ ?_
   rintro j f u H z bs hj ⟨Et,h9,vc,vv,F3,D4,Fo,AE,hz⟩;have hw:=zag j (by omega)
   by_cases MT:j<s.set.length
   ·have Hk:=eq_true MT;obtain⟨a,ha,Cn⟩:=zad MT;obtain⟨c0,c1⟩:=Bh a Cn;obtain⟨y,hy,_⟩:=Bg.wid a Cn;have Aj:=ze9 a.to (zxd c t) (zxd c t);have Bo:zw7 p a=decide (y.thread= -1):=by rw[zw7,zau hy]
    by_cases FJ:y.thread= -1
    ·have EP:zw7 p a=true:=by rw[Bo];simpa using FJ
     have F5:Rg.valOf vc=some vc:=by rcases D4 with⟨rfl,_⟩ | ⟨_,_,rfl,_⟩<;>rfl
     have Bs:Rg.valOf vv=some vv:=by rcases D4 with⟨_,rfl,_⟩ | ⟨_,_,_,rfl,_⟩<;>rfl
     generalize AU:((s.set.take j).filter (zw7 p)).map Assign.cell=cs at *
     generalize Fb:(((s.set.take j).filter (zw7 p)).map fun a=>a.to.eval (zxd c t) (zxd c t))=ws at *
     have Ci:cs.length<=32:=by
      rw[<- AU,List.length_map];have:=List.length_filter_le (zw7 p) (s.set.take j);rw[List.length_take]at this;omega
     have GZ:ws.length<=32:=by
      rw[<- Fb,List.length_map];have:=List.length_filter_le (zw7 p) (s.set.take j);rw[List.length_take]at this;omega
     have FZ: ∀q,(q<n'\/z<=q)->zdc vc q:=fun q hq=>by
      rcases D4 with⟨rfl,_⟩ | ⟨kc,kv,rfl,_,e1,e2,_⟩
      ·intro i n h0;cases h0
      ·exact zyp (by omega) _ _
     have B4: ∀q,(q<n'\/z<=q)->zdc vv q:=fun q hq=>by
      rcases D4 with⟨_,rfl,_⟩ | ⟨kc,kv,_,rfl,_,_,e1,e2,_⟩
      ·intro i n h0;cases h0
      ·exact zyp (by omega) _ _
     have K6:za0 (updC H (z+5+7+6+8+4) (some (O.rows 1 [[V.t (ti a.cell)]] false))) (z+5+7+6+8+5) vc 1 (zw5 cs):=by
      rcases D4 with⟨rfl,_,rfl,_⟩ | ⟨kc,kv,rfl,_,e1,e2,e3,e4,e5,e6,e7⟩
      ·exact .inl ⟨rfl,rfl⟩
      ·exact .inr ⟨kc,rfl,by omega,by rw[zae,if_neg (by omega)];exact e6⟩
     have HI:=K6.rowsS;simp -dsimp only[go_sem,seval,Et,h9,F3,Hk,ha,Aj,c0,hy,FJ,F5,HI];refine zaM K6 (Nat.le_refl _) (by rw[zw2];omega) (by decide) rfl (zxw _) ?_;intro v1 Fk NJ IC IR;rcases NJ with⟨_,CL⟩ | ⟨k1,rfl,Na,Ja⟩
     ·simp at CL
     have MZ:z+5+7+6+8+5<=k1:=by
      rcases Nat.lt_or_ge k1 (z+5+7+6+8+5)with h1 | h1
      ·exact absurd rfl (IC k1 h1 0 _)
      ·exact h1
     have FV: ∀q,q<z->zdc vc q->Ax (updC H (z+5+7+6+8+4) (some (O.rows 1 [[V.t (ti a.cell)]] false))) Fk q=H q:=fun q q1 q2=>by
      rw[IR q (by omega) q2,zae,if_neg (by omega)]
     have Gb:za0 (updC (Ax (updC H (z+5+7+6+8+4) (some (O.rows 1 [[V.t (ti a.cell)]] false))) Fk) (z+5+7+6+8+8+3) (some (O.rows 1 [[V.t (T.int IntKind.i64 (a.to.eval (zxd c t) (zxd c t)))]] false))) (z+5+7+6+8+8+4) vv 1 (zw5 ws):=by
      rcases D4 with⟨_,rfl,_,rfl⟩ | ⟨kc,kv,rfl,rfl,e1,e2,e3,e4,e5,e6,e7⟩
      ·exact .inl ⟨rfl,rfl⟩
      ·exact .inr ⟨kv,rfl,by omega,by rw[zae,if_neg (by omega),FV kv e4 (zyp (by omega) _ _)];exact e7⟩
     have En:=Gb.rowsS;simp -dsimp only[go_sem,seval,Et,h9,F3,Bs,En];refine zaM Gb (Nat.le_refl _) (by rw[zw2];omega) (by decide) rfl (zxw _) ?_;intro v2 E6 Jz IB Gj;rcases Jz with⟨_,CL⟩ | ⟨k2,rfl,IZ,CH⟩
     ·simp at CL
     have Gm:z+5+7+6+8+8+4<=k2:=by
      rcases Nat.lt_or_ge k2 (z+5+7+6+8+8+4)with h1 | h1
      ·exact absurd rfl (IB k2 h1 0 _)
      ·exact h1
     have FU: ∀q,q<n'->Ax (updC (Ax (updC H (z+5+7+6+8+4) (some (O.rows 1 [[V.t (ti a.cell)]] false))) Fk) (z+5+7+6+8+8+3) (some (O.rows 1 [[V.t (T.int IntKind.i64 (a.to.eval (zxd c t) (zxd c t)))]] false))) E6 q=H q:=fun q hq=>by
      rw[Gj q (by omega) (B4 q (.inl hq)),zae,if_neg (by omega),FV q (by omega) (FZ q (.inl hq))]
     have Jb:Ax (updC (Ax (updC H (z+5+7+6+8+4) (some (O.rows 1 [[V.t (ti a.cell)]] false))) Fk) (z+5+7+6+8+8+3) (some (O.rows 1 [[V.t (T.int IntKind.i64 (a.to.eval (zxd c t) (zxd c t)))]] false))) E6 k1=some (.rows 1 (zw5 cs++[[V.t (ti a.cell)]]) false):=by
      rw[Gj k1 (by omega) (B4 k1 (.inr (by omega))),zae,if_neg (by omega)];exact Ja
     have CJ:(s.set.take (j+1)).filter (zw7 p)=(s.set.take j).filter (zw7 p)++[a]:=by
      rw[zac ha,List.filter_append];simp[EP]
     have Au:((s.set.take (j+1)).filter fun a=> !zw7 p a)=(s.set.take j).filter fun a=> !zw7 p a:=by
      rw[zac ha,List.filter_append];simp[EP]
     simp -dsimp only[go_sem,seval,Et,h9];refine⟨by omega,by simp -dsimp only[go_sem,seval,hw],by simp -dsimp only[go_sem,seval,h9],.ms k1 0 (zw5 cs++[[V.t (ti a.cell)]]).length,.ms k2 0 (zw5 ws++[[V.t (T.int IntKind.i64 (a.to.eval (zxd c t) (zxd c t)))]]).length,by simp -dsimp only[go_sem,seval,F3],?_,?_,?_,by simp -dsimp only[go_sem,seval];omega⟩
     ·rw[CJ,List.map_append,List.map_append,AU,Fb];refine .inr ⟨k1,k2,by rw[<- zaV];rfl,by rw[<- zaV];rfl,by omega,by simp -dsimp only[go_sem,seval];omega,by omega,by simp -dsimp only[go_sem,seval];omega,by omega,?_,?_⟩
      ·simp -dsimp only[go_sem,seval];rw[Jb,<- zaV]
      ·simp -dsimp only[go_sem,seval];rw[CH,<- zaV]
     ·rw[Au];exact Fo.keep fun q q1 q2=>by simp -dsimp only[go_sem,seval];exact FU q (by omega)
     ·intro q q1 q2;simp -dsimp only[go_sem,seval];rw[FU q q2];exact AE q q1 q2
    ·have EP:zw7 p a=false:=by rw[Bo];simpa using FJ
     have Ac:(zxh c.mem (zxd c t) ((s.set.take j).filter fun a=> !zw7 p a)).length=c.mem.length:=zaS (zxd c t) _ c.mem
     have CJ:(s.set.take (j+1)).filter (zw7 p)=(s.set.take j).filter (zw7 p):=by
      rw[zac ha,List.filter_append];simp[EP]
     have Au:((s.set.take (j+1)).filter fun a=> !zw7 p a)=((s.set.take j).filter fun a=> !zw7 p a)++[a]:=by
      rw[zac ha,List.filter_append];simp[EP]
     rcases Fo with⟨_,h0⟩ | ⟨kM,rfl,m5,m6,m7⟩
     ·exfalso;have h1:=congrArg List.length h0;rw[zw2,Ac]at h1;simp at h1;rw[h1]at c1;simp at c1;omega
     have Bn:=zaE (l:=zxh c.mem (zxd c t) ((s.set.take j).filter fun a=> !zw7 p a)) (i:=a.cell.toNat) (by omega);have AA:=zaD (zxh c.mem (zxd c t) ((s.set.take j).filter fun a=> !zw7 p a)) a.cell.toNat (a.to.eval (zxd c t) (zxd c t))
     have Fb:zxh c.mem (zxd c t) (((s.set.take j).filter fun a=> !zw7 p a)++[a])=(zxh c.mem (zxd c t) ((s.set.take j).filter fun a=> !zw7 p a)).set a.cell.toNat (a.to.eval (zxd c t) (zxd c t)):=by
      unfold zxh;rw[List.foldl_append];rfl
     rw[<- Fb]at AA;have C1:(zw5 (zxh c.mem (zxd c t) ((s.set.take j).filter fun a=> !zw7 p a))).length=c.mem.length:=by rw[zw2,Ac]
     have Ep:(zw5 (zxh c.mem (zxd c t) (((s.set.take j).filter fun a=> !zw7 p a)++[a]))).length=c.mem.length:=by rw[zw2,zaS]
     simp -dsimp only[go_sem,seval,Et,h9,Hk,ha,Aj,hy,FJ,C1,c0,c1,m7,Bn,AA];refine⟨by omega,by simp -dsimp only[go_sem,seval,hw],by simp -dsimp only[go_sem,seval,h9],vc,vv,by simp -dsimp only[go_sem,seval,F3],?_,?_,?_,by simp -dsimp only[go_sem,seval];omega⟩
     ·rw[CJ];rcases D4 with h1 | ⟨kc,kv,e0,e0',e1,e2,e3,e4,e5,e6,e7⟩
      ·exact .inl h1
      ·have u1:kc≠kM:=by omega
       have u2:kv≠kM:=by omega
       exact .inr ⟨kc,kv,e0,e0',e1,by simp -dsimp only[go_sem,seval];omega,e3,by simp -dsimp only[go_sem,seval];omega,e5,by simp -dsimp only[go_sem,seval,u1,e6],by simp -dsimp only[go_sem,seval,u2,e7]⟩
     ·rw[Au];exact .inr ⟨kM,by rw[Ep,C1],m5,m6,by simp -dsimp only[go_sem,seval]⟩
     ·intro q q1 q2;have u1:q≠kM:=by omega
      simp -dsimp only[go_sem,seval,u1];exact AE q q1 q2
   ·have Hk:=eq_false MT;have KO:j=s.set.length:=by omega
    subst KO;rw[List.take_length]at Fo D4;have FS:=zcP Bg BD (zxd c t);rcases D4 with⟨_,_,h1,_⟩ | ⟨kc,kv,rfl,rfl,e1,e2,e3,e4,e5,e6,e7⟩
    ·exact absurd h1 FS.ne
    have g1:H kA=some (.rows 1 (zw5 (c.at_.set t s.to)) false):=by rw[AE kA a1 (by omega),if_pos rfl]
    have g2:H kB=some (.rows 1 vs false):=by rw[AE kB (by omega) (by omega),if_neg GC];exact hB
    have Ae:=zx4 (c:=c) (t:=t) (by omega);obtain⟨v,hv,EH⟩:=Az.at_ t _ Ae;have NT:=Az.le (q:=0) (r:=t) (by omega) (by omega);have NS:=Az.le (q:=t+1) (r:=c.buf.length) (by omega) (Nat.le_refl _);have PV:=Az.mono t (by omega);obtain⟨Bs,_⟩:=EH.val;obtain⟨rows,B1,AZ,BI,Bp⟩:=EH;have t1:(t:Int)<(c.buf.length:Int):=by omega
    have La: ∀q,x1<=q->q<n'->q≠kA->H q=h' q:=fun q q1 q2 q3=>by rw[AE q q1 q2,if_neg q3]
    generalize CW:(zw5 (List.map Assign.cell (List.filter (zw7 p) s.set))).length=nc at *
    generalize K8:(zw5 (List.map (fun a=>a.to.eval (zxd c t) (zxd c t)) (List.filter (zw7 p) s.set))).length=nv at *
    have B5: ∀q,(q<bd t\/bd (t+1)<=q\/ ∀rs fz,h' q≠some (O.rows 2 rs fz))->zdc v q:=fun q hq=>by
     rcases B1 with⟨rfl,_⟩ | ⟨kb,rfl,d1,d2,d3⟩
     ·intro i n h0;cases h0
     ·refine zyp ?_ _ _;rintro rfl;rcases hq with h | h | h
      ·omega
      ·omega
      ·exact h _ _ d3
    have Gb:za0 (updC H (z+5+11) (some (O.rows 2 [[V.ms kc 0 nc,V.ms kv 0 nv]] false))) (z+5+12) v 2 rows:=by
     rcases B1 with⟨rfl,h1⟩ | ⟨kb,rfl,d1,d2,d3⟩
     ·exact .inl ⟨rfl,h1⟩
     ·exact .inr ⟨kb,rfl,by omega,by rw[zae,if_neg (by omega),La kb (by omega) (by omega) (by omega)];exact d3⟩
    have En:=Gb.rowsS;simp -dsimp only[go_sem,seval,Et,Hk,h9,F3,g2,hv,Bs,t0,t1,En];have Aa:(rows.all fun r=>decide (r.length=2))=true:=by simpa using BI
    obtain⟨b1,b2,_⟩:=hc.b.buf t _ Ae;refine zaM Gb (Nat.le_refl _) (by rw[AZ];omega) (by decide) rfl Aa ?_;intro v2 hp hO MK DX;rcases hO with⟨_,CL⟩ | ⟨k2,rfl,IZ,CH⟩
    ·simp at CL
    have Gm:z+5+12<=k2:=by
     rcases Nat.lt_or_ge k2 (z+5+12)with h1 | h1
     ·exact absurd rfl (MK k2 h1 0 _)
     ·exact h1
    have E4: ∀q,q<z->zdc v q->Ax (updC H (z+5+11) (some (O.rows 2 [[V.ms kc 0 nc,V.ms kv 0 nv]] false))) hp q=H q:=fun q q1 q2=>by
     rw[DX q (by omega) q2,zae,if_neg (by omega)]
    have gB:=E4 kB (by omega) (B5 kB (.inl (by omega)));rw[g2]at gB;have gA:=E4 kA (by omega) (B5 kA (.inl (by omega)));rw[g1]at gA
    have Da: ∀(o:Option O) q,q≠kB->updC (Ax (updC H (z+5+11) (some (O.rows 2 [[V.ms kc 0 nc,V.ms kv 0 nv]] false))) hp) kB o q=Ax (updC H (z+5+11) (some (O.rows 2 [[V.ms kc 0 nc,V.ms kv 0 nv]] false))) hp q:=fun o q q2=>by
     rw[zae,if_neg q2]
    have AK: ∀(o:Option O) q,x1<=q->q<n'->q≠kA->q≠kB->zdc v q->updC (Ax (updC H (z+5+11) (some (O.rows 2 [[V.ms kc 0 nc,V.ms kv 0 nv]] false))) hp) kB o q=h' q:=fun o q q0 q1 q2 q3 q4=>by
     rw[Da o q q3,E4 q (by omega) q4,La q q0 q1 q2]
    have fM: ∀o,toT (updC (Ax (updC H (z+5+11) (some (O.rows 2 [[V.ms kc 0 nc,V.ms kv 0 nv]] false))) hp) kB o) 1000 vM=some (ints (zxh c.mem (zxd c t) (s.set.filter fun a=> !zw7 p a))):=fun o=>
     (Fo.keep fun q q1 q2=>by rw[Da o q (by omega),E4 q (by omega) (B5 q (.inl (by omega)))]).tree 999
    have f3:List.take c.at_.length (zw5 (c.at_.set t s.to))=zw5 (c.at_.set t s.to):=zaC (by rw[zw2,List.length_set]);have f5: ∀v,(vs.set t [v]).length=c.buf.length:=fun v=>by rw[List.length_set];exact Az.len
    have f6: ∀v,List.take c.buf.length (vs.set t [v])=vs.set t [v]:=fun v=>zaC (f5 v).symm
    have f7: ∀o:Option O,(vs.set t [V.ms k2 0 (rows++[[V.ms kc 0 nc,V.ms kv 0 nv]]).length]).mapM (fun row=>row.mapM (toT (updC (Ax (updC H (z+5+11) (some (O.rows 2 [[V.ms kc 0 nc,V.ms kv 0 nv]] false))) hp) kB o) 999))=some ((c.buf.set t (zxq c t++[zzb p (zxd c t) s.set])).map fun b=>[.sl (b.map Entry.enc)]):=by
     intro o;refine zbt _ _ (by rw[f5,List.length_set]) fun j b hb=> ?_
     rw[List.getElem?_set]at hb
     by_cases hj:t=j
     ·subst hj;rw[if_pos rfl,if_pos (by omega)]at hb;simp only[zA]at hb;subst hb;refine⟨_,by rw[List.getElem?_set,if_pos rfl,if_pos (by have:=Az.len;omega)],?_⟩;refine zhU.tree (lo:=bd t) (hi:=k2+1) ⟨rows++[[V.ms kc 0 nc,V.ms kv 0 nv]],.inr ⟨k2,rfl,by omega,by omega,by rw[Da o k2 (by omega)];exact CH⟩,by rw[zM,zM,AZ];rfl,?_,fun q e0 hq=> ?_⟩ 997
      ·intro r hr;rcases List.mem_append.1 hr with hr | hr
       ·exact BI r hr
       ·rw[List.mem_singleton]at hr;rw[hr];rfl
      ·rcases Nat.lt_or_ge q (zxq c t).length with h1 | h1
       ·rw[List.getElem?_append_left h1]at hq;obtain⟨r,hr,hE⟩:=Bp q e0 hq;refine⟨r,by rw[List.getElem?_append_left (by omega)];exact hr,hE.keep (Nat.le_refl _) (by omega) fun w w1 w2 w3=> ?_⟩;exact AK o w (by omega) (by omega) (by omega) (by omega) (B5 w (.inr (.inr w3)))
       ·have I4:q=(zxq c t).length:=by
         have:=(zH.1 hq).1;rw[zM,List.length_singleton]at this;omega
        subst I4;rw[List.getElem?_append_right (Nat.le_refl _),Nat.sub_self]at hq;simp only[List.getElem?_cons_zero,zA]at hq;subst hq;refine⟨[V.ms kc 0 nc,V.ms kv 0 nv],by rw[List.getElem?_append_right (by omega),AZ,Nat.sub_self];rfl,?_⟩
        have u1: ∀q,n'<=q->q<z->updC (Ax (updC H (z+5+11) (some (O.rows 2 [[V.ms kc 0 nc,V.ms kv 0 nv]] false))) hp) kB o q=H q:=fun q q1 q2=>by
         rw[Da o q (by omega),E4 q q2 (B5 q (.inr (.inl (by omega))))]
        rw[zw2]at CW K8;refine⟨kc,kv,by rw[<- CW,<- K8];rfl,by omega,by omega,by omega,by omega,by rw[u1 kc e1 e2];exact e6,by rw[u1 kv e3 e4];exact e7⟩
     ·rw[if_neg hj]at hb;obtain⟨u,hu,J0⟩:=Az.at_ j b hb;have Bz:=(zH.1 hb).1;refine⟨u,by rw[List.getElem?_set,if_neg hj];exact hu,?_⟩;refine(J0.keep (Nat.le_refl _) fun q q1 q2=> ?_).tree 997;have u1:=Az.le (q:=0) (r:=j) (by omega) (by omega);have u2:=Az.le (q:=j+1) (r:=c.buf.length) (by omega) (Nat.le_refl _);refine AK o q (by omega) (by omega) (by omega) (by omega) (B5 q ?_);rcases Nat.lt_or_ge j t with h1 | h1
      ·have:=Az.le (q:=j+1) (r:=t) (by omega) (by omega);exact .inl (by omega)
      ·have:=Az.le (q:=t+1) (r:=j) (by omega) (by omega);exact .inr (.inl (by omega))
    rw[hE];simp -dsimp only[go_sem,seval,h9,F3,gB,hv,t0,t1,J2,gA,Bi,AW,GC,fM,f3,f5,f6,f7,zw2,List.length_set,zaL,Nat.le_refl]
 ·rw[hn];obtain⟨GR,EI,_⟩:=hc.b.buf t _ (zx4 (c:=c) (t:=t) (by omega));have N0:=zhF p hf c hc.b t ht i e hi fun j f hj CS=>zAN EI CS hi ho hj
  (refine zw3 Γ340 rfl ?_;dsimp only[zpQ])
  simp -dsimp only[go_sem,seval,AG,D1,Ji,N0]
end Rg
end
section
namespace Rg
open Go
def nxK (p:Prog) (k:Int) (c:Config) (x:Choice):Config:=(zzh p k c x).1
end Rg
end
section
namespace Rg
open Go
def okN (p:Prog) (k:Int):Config->List Choice->Bool
 | _,[]=>true
 | c,y::r=>decide (y∈zxv p k c)&&okN p k (nxK p k c y) r
section
end
def zBZ (p:Prog) (k:Int):Config->List Int->List Choice
 | _,[]=>[]
 | c,n::r=>if zxv p k c=[]then []else zz8 (zxv p k c) n::zBZ p k (nxK p k c (zz8 (zxv p k c) n)) r
theorem ziU (p:Prog) (k:Int): ∀(l:List Int) (c:Config),(zBZ p k c l).length<=l.length
 | [],c=>Nat.le_refl _
 | n::r,c=>by
   rw[zBZ];split
   ·simp
   ·have:=ziU p k r (nxK p k c (zz8 (zxv p k c) n));simp;omega
theorem zkE (p:Prog) (k:Int): ∀(l:List Int) (c:Config),okN p k c (zBZ p k c l)=true
 | [],c=>rfl
 | n::r,c=>by
   rw[zBZ];split
   ·rfl
   ·rename_i h;rw[okN,zF,decide_eq_true_eq];exact⟨zmH h n,zkE p k r _⟩
theorem zkF (p:Prog) (hs:p.sane) (hf:zw6 p=true) (k:Int) (hk:0<=k/\k<=2) (picks:List Int) (E4: ∀n∈picks,0<=n/\n<256) (most:Nat) (hm:picks.length<=most) (IL:most<=60):
 Den Γ G 338 [(zP p),vi k,.t (zCo picks),vi most]=some (.t (.sl ((zBZ p k (zxz p) picks).map Choice.enc))):=by
 have h1:=zjA p hs;have Oz:(picks.map fun n=>[T.int .u8 n]).length=picks.length:=by simp
 (refine zw3 Γ338 rfl ?_;dsimp only[f338])
 simp -dsimp only[go_sem,seval,h1]
 refine zap 288230376151662336 picks.length (fun i f h x=>(f 11).v=vi i/\ ∃(c:Config) (l:List Choice),IsK p k c/\(f 9).v= .lb/\(f 9).box=some [.t (ints c.mem),.t (ints c.at_),.t (.sl (c.buf.map (fun b=>[.sl (b.map Entry.enc)])))]/\
  za0 h x (f 10).v 3 (zzB l)/\zBZ p k (zxz p) picks=l++zBZ p k c (picks.drop i)/\l.length<=i) rfl
  ⟨by simp -dsimp only[go_sem,seval],zxz p,[],zeG hf k,by simp -dsimp only[go_sem,seval],by simp -dsimp only[go_sem,seval],.inl ⟨by simp -dsimp only[go_sem,seval],rfl⟩,rfl,Nat.le_refl _⟩ ?_
 rintro i f u H x bs hi ⟨Bj,c,l,hc,b1,b2,Ab,Ag,IO⟩;have hw:=zag i (by omega);have v1:=Ab.valOf;have Bp:=Ab.reify (zzx _);have v5:=Ab.resVal;simp only[Rg.resVal]at v5
 by_cases Af:i<picks.length
 ·have Av:=eq_true Af;have Ft:(i:Int)<(most:Int):=by omega
  obtain⟨n,hn,HL⟩:=zad Af;obtain⟨n0,n1⟩:=E4 n HL;have D1:=zdg p hs hf k hk c hc;have LU:=zeo hf (k:=k) hc.b;rw[<- zcu hc]at LU;rw[zbC hn,zBZ]at Ag
  by_cases he:zxv p k c=[]
  ·rw[if_pos he,List.append_nil]at Ag;have CL:(zxv p k c).length=0:=by rw[he];rfl
   simp -dsimp only[go_sem,seval,Bj,Av,Ft,b1,b2,D1,CL,v1,v5];rw[Ag];exact Bp
  ·rw[if_neg he]at Ag;have Jp:0<(zxv p k c).length:=List.length_pos_iff.2 he;have CL: ¬(((zxv p k c).length:Nat):Int)=0:=by omega
   have HD:IntKind.i64.wrap n=n:=zaj (by omega)
   have FP:n.tmod (zxv p k c).length=((n.toNat % (zxv p k c).length:Nat):Int):=by
    rw[Int.tmod_eq_emod_of_nonneg n0,Int.natCast_emod,Int.toNat_of_nonneg n0]
   have D7:n.toNat % (zxv p k c).length<(zxv p k c).length:=Nat.mod_lt _ Jp;obtain⟨y,hy,DE⟩:=zad D7;have L7:zz8 (zxv p k c) n=y:=by simp[zz8,List.getD,hy]
   have K7:=zjK p hs hf k hk c hc y DE;obtain⟨d,Cv,hd⟩:=zgn hf hc DE;rw[Cv]at K7;rw[L7,nxK,Cv]at Ag;have v6: ∀q1 q2 q3 q4 q5 q6 b,rowsS (updC H (x+q1+q2+q3+q4+q5+q6) b) (f 10).v=some (zzB l):=fun q1 q2 q3 q4 q5 q6 b=>(Ab.upd (by omega) b).rowsS
   simp -dsimp only[go_sem,seval,Bj,Av,Ft,b1,b2,D1,CL,hn,HD,FP,hy,K7,v1,v6];refine zaM (Ab.upd (by omega) _) (by omega) (by rw[zdE];omega) (by decide) rfl (zzA _) ?_;intro v hp hO Bc As;have w1:=hO.valOf;simp -dsimp only[go_sem,seval,w1,Bj];refine⟨by omega,by simp -dsimp only[go_sem,seval,hw],d,l++[y],hd,by simp -dsimp only[go_sem,seval,b1],by simp -dsimp only[go_sem,seval,b2],?_,by rw[Ag,zQ];rfl,by rw[zM,List.length_singleton];omega⟩;simp -dsimp only[go_sem,seval];rw[zdF];exact hO.le (by omega)
 ·have Av:=eq_false Af;have:i=picks.length:=by omega
  subst this;rw[List.drop_length,zBZ,List.append_nil]at Ag;simp -dsimp only[go_sem,seval,Bj,Av,b1,b2,v1,v5];rw[Ag];exact Bp
end Rg
end
section
namespace Rg
open Go
theorem IsB.sane {p:Prog} (hs:p.sane) {c:Config} (hc:IsB p c):c.sane:=⟨by rw[hc.lm];exact hs.cells,by rw[hc.la];exact hs.threads,by rw[hc.lb];exact hs.threads⟩
theorem zk3 (p:Prog) (hs:p.sane) (hf:zw6 p=true) (k:Int) (hk:0<=k/\k<=2) (c:Config) (hc:IsK p k c) (x:Choice):Den Γ G 180 [(zP p),vi k,(.agg [.t (ints (c).mem),.t (ints (c).at_),.t (.sl ((c).buf.map (fun b=>[.sl (b.map Entry.enc)])))]),(.agg [.t (ti (x).thread),.t (ti (x).step),.t (ti (x).cell)])]=some (.tup [(.agg [.t (ints ((zzh p k c x).1).mem),.t (ints ((zzh p k c x).1).at_),.t (.sl (((zzh p k c x).1).buf.map (fun b=>[.sl (b.map Entry.enc)])))]),vi (zzh p k c x).2]):=by
 by_cases k0:k=0
 ·have h1:=zk2 p hs c (hc.b.sane hs) x;rw[zzh,if_pos k0]
  (refine zw3 Γ180 rfl ?_;dsimp only[f180])
  simp -dsimp only[go_sem,seval,k0,h1]
 ·rw[zzh,if_neg k0];exact zjJ p hs hf k (by omega) c hc.b x
def kM (m:Int):Int:=m % 3
theorem zB7 {l:List Int} (h:zyv l=true):l.Pairwise (· < ·):=by
 have h1: ∀i,i+1<l.length->l.getD i 0<l.getD (i+1) 0:=fun i hi=>by
  unfold zyv at h;simp only[zN,List.mem_range,decide_eq_true_eq]at h;exact h i (by omega)
 have h2: ∀d i,i+d+1<l.length->l.getD i 0<l.getD (i+d+1) 0:=by
  intro d
  induction d with
  | zero=>exact fun i hi=>h1 i hi
  | succ d ih=>intro i hi;have a:=ih i (by omega);have b:=h1 (i+d+1) (by omega);rw[show i+(d+1)+1=i+d+1+1 by omega];omega
 rw[List.pairwise_iff_getElem];intro i j hi hj At;have:=h2 (j-i-1) i (by omega);rw[show i+(j-i-1)+1=j by omega]at this;simpa[zK,zI hi,zI hj]using this
theorem znx {p:Prog} (hf:zw6 p=true) {t j:Nat} {x:Thread} {l:Loop} (hx:p.threads[t]? =some x) (hl:x.loops[j]? =some l):l.body.length<=48:=by
 have hr:=zi5.1 (show p.ok by simpa[zw6]using hf);obtain⟨_,_,⟨h1,h2,_⟩,_,h3,_,h4⟩:=zdA.1 (hr.threads t x hx);obtain⟨⟨g1,g2,g3⟩,g4,_⟩:=zeY.1 (h4 j l hl);have hb:=(zxV hf).2.2 x (zL hx);refine zdI 48 _ ((zB7 g2).imp fun h=>by omega) fun k hk=> ?_
 have:=zN.1 g3 k hk;simp only[inR,zF,decide_eq_true_eq]at this;have:=this.1;exact⟨this.1,by omega⟩
set_option maxHeartbeats 4000000 in
theorem zjN (p:Prog) (hs:p.sane) (hf:zw6 p=true) (k:Int) (hk:0<=k/\k<=2) {t j:Nat} {x:Thread} {l:Loop} (hx:p.threads[t]? =some x) (DU:x.loops[j]? =some l)
 (run:List Choice) (Ac:run.length<=120) (Bg:okN p k (zxz p) run=true):
 Den Γ G 341 [(zP p),vi k,.t (.sl (run.map Choice.enc)),vi t,vi j]=some (.tup [vi (itM (nxK p k) t l (zxz p) run).best,vi 0]):=by
 have h1:=zjB p hs;have h2:=zeE p hs hf hx DU;have h3:=zla k hk;have DD:=znx hf hx DU;have Aq:=fun a=>zhp l (by omega) a
 have F8:=zeG hf k;have ht:t<p.threads.length:=(zH.1 hx).1;have Oy: ¬((run.length:Int)>120):=by omega
 obtain⟨a0,FF,_⟩:=zad (show t<(zxz p).at_.length by rw[F8.b.la];exact ht);have NC:atI (zxz p).at_ t=a0:=zb9 (by simpa using FF);have AZ:(run.map Choice.enc).length=run.length:=by simp
 (refine zw3 Γ341 rfl ?_;dsimp only[zqY])
 by_cases hh:a0=l.head
 case' pos=>simp -dsimp only[go_sem,seval,h1,h2,h3,hx,DU,Oy,FF,hh]
 case' neg=>simp -dsimp only[go_sem,seval,h1,h2,h3,hx,DU,Oy,FF,hh]
 all_goals
  refine zaq 41538374868278620992215173616823296 run.length (fun i f=>(f 55).v=vi i/\ ∃s:It,s=itM (nxK p k) t l (zxz p) (run.take i)/\IsK p k s.c/\okN p k s.c (run.drop i)=true/\(f 13).v= .lb/\(f 13).box=some [.t (ints s.c.mem),.t (ints s.c.at_),.t (.sl (s.c.buf.map (fun b=>[.sl (b.map Entry.enc)])))]/\
   (f 14).v=vi s.best/\(f 15).v=vi s.arr/\0<=s.best/\s.best<=i+1/\0<=s.arr/\s.arr<=i+1) rfl rfl
   ⟨by simp -dsimp only[go_sem,seval],it0 t l (zxz p),rfl,F8,Bg,by simp -dsimp only[go_sem,seval],by simp -dsimp only[go_sem,seval,it0],by simp -dsimp only[go_sem,seval,it0],by simp -dsimp only[go_sem,seval,it0,NC,hh],by simp[it0],by simp[it0],by simp only[it0];split<;>omega,by simp only[it0];split<;>omega⟩ ?_
  rintro i f u kk bb hi ⟨OD,s,M9,HG,FN,b1,b2,b3,b4,c1,c2,c3,c4⟩;have hw:=zag i (by omega)
  by_cases Af:i<run.length
  ·have Av:=eq_true Af;obtain⟨y,hy,DE⟩:=zad Af;rw[zbC hy,okN,zF,decide_eq_true_eq]at FN;obtain⟨JZ,FN⟩:=FN;obtain⟨d,Cv,hd⟩:=zgn hf HG JZ;have K7:=zk3 p hs hf k hk s.c HG y;rw[Cv]at K7;have Ib:nxK p k s.c y=d:=by unfold nxK;rw[Cv]
   rw[Ib]at FN;obtain⟨a,ha,_⟩:=zad (show t<s.c.at_.length by rw[HG.b.la];exact ht);obtain⟨a',hb,_⟩:=zad (show t<d.at_.length by rw[hd.b.la];exact ht);have Lt:atI s.c.at_ t=a:=zb9 (by simpa using ha);have Ie:atI d.at_ t=a':=zb9 (by simpa using hb);have GI:itM (nxK p k) t l (zxz p) (run.take (i+1))=itS (nxK p k) t l s y:=by rw[zac hy,zgq,<- M9]
   have Hq:=Aq a';have hS:itS (nxK p k) t l s y=s.see l d a' (zA5 t y||decide (a= -1)):=by simp only[itS,Ib,Lt,Ie]
   have OR:IntKind.i64.wrap (s.arr+1)=s.arr+1:=zaj (by omega);have M0:IntKind.i64.wrap (s.arr+1-1)=s.arr+1-1:=zaj (by omega);have Ke:IntKind.i64.wrap (s.arr-1)=s.arr-1:=zaj (by omega);have Mw:IntKind.i64.wrap (0-1)=0-1:=zaj (by omega)
   have fin: ∀mv,(zA5 t y||decide (a= -1))=mv-> ∀(f':Nat->Slot) ,(f' 55).v=vi (i+1:Nat)->(f' 13).v= .lb->(f' 13).box=some [.t (ints d.mem),.t (ints d.at_),.t (.sl (d.buf.map (fun b=>[.sl (b.map Entry.enc)])))]->
    (f' 14).v=vi (s.see l d a' mv).best->(f' 15).v=vi (s.see l d a' mv).arr->(f' 55).v=vi (i+1:Nat)/\ ∃s:It,s=itM (nxK p k) t l (zxz p) (run.take (i+1))/\IsK p k s.c/\okN p k s.c (run.drop (i+1))=true/\(f' 13).v= .lb/\(f' 13).box=some [.t (ints s.c.mem),.t (ints s.c.at_),.t (.sl (s.c.buf.map (fun b=>[.sl (b.map Entry.enc)])))]/\
   (f' 14).v=vi s.best/\(f' 15).v=vi s.arr/\0<=s.best/\s.best<=(i+1:Nat)+1/\0<=s.arr/\s.arr<=(i+1:Nat)+1:=by
     intro mv D8 f' g1 g2 g3 g4 g5;refine⟨g1,s.see l d a' mv,by rw[GI,hS,D8],hd,FN,g2,g3,g4,g5,?_,?_,?_,?_⟩<;>simp only[It.see]<;>repeat' split
     all_goals omega
   have h5:((zA5 t y||decide (a= -1))=true/\(((y.thread=t)=True/\(y.step= -1)=False/\True)\/((y.thread=t)=False/\True/\(a= -1)=True)\/((y.thread=t)=True/\(y.step= -1)=True/\(a= -1)=True)))\/
    ((zA5 t y||decide (a= -1))=false/\(((y.thread=t)=False/\True/\(a= -1)=False)\/((y.thread=t)=True/\(y.step= -1)=True/\(a= -1)=False))):=by
    by_cases e1:y.thread=t<;>by_cases e2:y.step= -1<;>by_cases e3:a= -1<;>simp[zA5,e1,e2,e3]
   rcases h5 with⟨D8,⟨e1,e2,e3⟩ | ⟨e1,e2,e3⟩ | ⟨e1,e2,e3⟩⟩ | ⟨D8,⟨e1,e2,e3⟩ | ⟨e1,e2,e3⟩⟩
   all_goals
    cases AJ:zxj l a'<;>rw[AJ]at Hq
    case' false=>have e4:=trivial
    case' true=>
     rcases Decidable.em (a'=l.head)with e4 | e4
     case' inl=>have e4:=eq_true e4
    all_goals
     simp -dsimp only[go_sem,seval,OD,Av,hy,b1,b2,b3,b4,K7,ha,hb,Hq,e1,e2,e3,e4,OR,M0,Ke,Mw];exact⟨by omega,fin _ D8 _ (by simp -dsimp only[go_sem,seval,hw]) (by simp -dsimp only[go_sem,seval,b1]) (by simp -dsimp only[go_sem,seval]) (by simp -dsimp only[go_sem,seval,It.see,AJ,e4,decide_true,decide_false,Bool.and_self,Bool.and_false,Bool.false_and,Bool.not_true,Bool.not_false,zG,if_false,if_true]) (by simp -dsimp only[go_sem,seval,b4,It.see,AJ,e4,decide_true,decide_false,Bool.and_self,Bool.and_false,Bool.false_and,Bool.not_true,Bool.not_false,zG,if_false,if_true])⟩
  ·have Av:=eq_false Af;have:i=run.length:=by omega
   subst this;rw[List.take_length]at M9;simp -dsimp only[go_sem,seval,OD,Av,b3];rw[M9]
end Rg
end
section
namespace Rg
open Go
def zzy (p:Prog) (k:Int) (t:Int) (l:Loop) (run:List Choice) (i:Nat):It:=itM (nxK p k) t l (zxz p) (run.take i)
theorem zkX {p:Prog} (hf:zw6 p=true) {k:Int}: ∀{a:List Choice} {c:Config},IsK p k c->okN p k c a=true-> ∀y∈a,-1<=y.step
 | [],c,_,_,y,hy=>by simp at hy
 | x::a,c,h,ho,y,hy=>by
   rw[okN,zF,decide_eq_true_eq]at ho;rcases List.mem_cons.1 hy with rfl | hy
   ·rcases zhi hf h ho.1 with⟨u,z,i,s,_,_,_,rfl,_⟩ | ⟨_,u,i,e,_,_,_,rfl,_⟩
    ·simp only;omega
    ·simp
   ·obtain⟨d,hn,hd⟩:=zgn hf h ho.1;have Dp:IsK p k (nxK p k c x):=by unfold nxK;rw[hn];exact hd
    exact zkX hf Dp ho.2 y hy
theorem zn1 {a b:Int} (h:a=b) (h2: -9223372036854775808<=b/\b<=9223372036854775807):IntKind.i64.wrap a=b:=by rw[h];exact zaj h2
theorem ztH {m:Int} (h:0<=m):m.tmod 3=m % 3:=Int.tmod_eq_emod_of_nonneg h
theorem zwF (p:Prog) (k t:Int) (l:Loop) (run:List Choice) (i:Nat):(zzy p k t l run i).c=(run.take i).foldl (nxK p k) (zxz p):=zwI _ _ _ _ _ _ rfl
theorem zwz {B v:Int} {l:Loop} {t:Int} {c:Config} {a:Int} (hB:0<=B) (ha:atI c.at_ t=a) (hv:a=l.head->0<=v/\v<=B):(it0 t l c).Desc B (zzO l a true v (-1)):=by
 have Aq:zxj l l.head=true:=by simp[zxj]
 simp only[it0,zzO,ha]
 by_cases h:a=l.head
 ·have hv:=hv h;subst h;simp only[Aq,Bool.not_true,zG,if_false,Bool.true_and,decide_true,if_true];exact⟨hB,fun h=>by simp at h,fun _=>by simp only;omega,by simp⟩
 ·have:(if !zxj l a then(-1:Int)else if true&&decide (a=l.head)then v else -1)= -1:=by
   split
   ·rfl
   ·simp[h]
  rw[this];simp only[if_neg h];exact⟨hB,fun _=>rfl,fun h=>by simp at h,by simp⟩
theorem zwX {l:Loop} {a v last:Int} {mv:Bool} (h:zxj l a=false):zzO l a mv v last= -1:=by simp[zzO,h]
theorem zw0 {l:Loop} {a v last:Int} (h:zxj l a=true) (e:a=l.head):zzO l a true v last=v:=by rw[zzO,h,decide_eq_true e];rfl
theorem zwY {l:Loop} {a v last:Int} {mv:Bool} (h:zxj l a=true) (e: ¬a=l.head):zzO l a mv v last=last:=by simp[zzO,h,e]
theorem zwZ {l:Loop} {a v last:Int} {b:Bool} (h:zxj l a=b):zzO l a false v last=if b then last else -1:=by subst h;cases h:zxj l a<;>simp[zzO,h]
set_option maxHeartbeats 4000000 in
theorem zAP (hh:Den Γ G 334 []=some (vb true)) (p:Prog) (hl:p.lite) (m:Int) (hm:0<=m/\m<256) (picks:List Int) (E4: ∀n∈picks,0<=n/\n<256) (t j:Int):
 Den Γ G 329 [(zP p),.t (.int .u8 m),.t (zCo picks),vi t,vi j]=some (vb true):=by
 have hg:=zjT p hl t j;have Oz:(picks.map fun n=>[T.int .u8 n]).length=picks.length:=by simp
 (refine zw3 Γ329 rfl ?_;dsimp only[f329])
 cases Gr:zBT p&&zyr p t j
 ·rw[Gr]at hg;simp -dsimp only[go_sem,seval,hh,hg]
 ·rw[Gr]at hg;simp only[zF]at Gr;obtain⟨Nr,Pr⟩:=Gr;have hs:=zBC hl Nr;obtain⟨hf,tn,jn,x,l,rfl,rfl,hx,DU⟩:=zjS Pr;obtain⟨A,hL⟩:=zi6 hf hx DU;have hb:=zlW p hs hf hx DU hL;have GP:=zwr p hs hf hx DU hL;have hA:=hL.hA;obtain⟨hd,FC⟩: ∃n:Nat,l.head=n:=⟨l.head.toNat,by have:=hL.h0;omega⟩
  rw[FC,Int.toNat_natCast]at hA
  by_cases hp:(picks.length:Int)>60
  ·simp -dsimp only[go_sem,seval,hh,hg,hp]
  by_cases Ej:zxf p (zxE A l.variant)>12
  ·rw[if_pos Ej,if_pos Ej]at GP;simp -dsimp only[go_sem,seval,hh,hg,hp,GP]
  rw[if_neg Ej,if_neg Ej]at hb GP;have Kh:l.variant.formed=true:=by have:=hL.vV;simp only[Expr.valid,zF]at this;exact this.1
  have OC:A.formed=true:=by have:=hL.vA;simp only[Expr.valid,zF]at this;exact this.1
  have hr:=zv7 p (zxE A l.variant) A l.variant Kh (2^zxf p (zxE A l.variant))
  have BV:=fun mem h=>zwE hL.vA hL.vV (l:=zxE A l.variant) (fun c hc=>by rw[zxE,zeH];simp[hc]) (fun c hc=>by rw[zxE,zeH];simp[hc])
   ((zyD _).imp_of_mem fun{a b} ha AY h=>by
     have h1:=zlU hL.vA hL.vV a ha;have h2:=zlU hL.vA hL.vV b AY
     omega) (fun c hc=>by have:=zlU hL.vA hL.vV c hc;omega) mem h
  rw[show(zxN p (zxE A l.variant) A l.variant (2^zxf p (zxE A l.variant))).2=zoN p (zxE A l.variant) A l.variant from rfl]at hr
  generalize zoN p (zxE A l.variant) A l.variant=B at *
  generalize zzR p (zxE A l.variant) A l.variant (2^zxf p (zxE A l.variant))=B2 at *
  have L9:IntKind.i64.wrap m=m:=zaj (by omega);have Ks:=ztH hm.1
  generalize Ai:m % 3=k at Ks
  have hk:0<=k/\k<=2:=by omega
  have Ag:Den Γ G 338 [(zP p),vi k,.t (zCo picks),vi 60]=some (.t (.sl ((zBZ p k (zxz p) picks).map Choice.enc))):=zkF p hs hf k hk picks E4 60 (by omega) (by omega);have Bg:=zkE p k picks (zxz p);have AZ:=ziU p k picks (zxz p)
  generalize zBZ p k (zxz p) picks=run at *
  have F8:=zeG hf k;have CG:=zkX hf F8 Bg;have AA:=zjA p hs;have Jd:=zjN p hs hf k hk hx DU run (by omega) Bg;have DD:=znx hf hx DU;have Aq:=fun a=>zwh l (by omega) a
  have ht:tn<p.threads.length:=(zH.1 hx).1;have hE: ∀mem,A.ev mem mem=A.eval mem mem:=fun mem=>by rw[Expr.eval,if_pos OC]
  have hV: ∀mem,l.variant.ev mem mem=l.variant.eval mem mem:=fun mem=>by rw[Expr.eval,if_pos Kh]
  have Dh: ∀mem,0<=l.variant.ev mem mem/\l.variant.ev mem mem<256:=fun mem=>by
   have h1:=zv9 l.variant mem mem;have hw:=zhh (zxO (zxk Kh));have h2:=zcn (i:=l.variant.w.toNat) (k:=8) (by omega);rw[hV];exact⟨h1.1,by have:=h1.2 Kh;omega⟩
  simp -dsimp only[go_sem,seval,hh,hg,hp,GP,L9,Ks,Ag,AA,hx,DU]
  refine zaq 187072209578355573530071658587536652563369697346560 (run.length+1) (fun i f=>(f 20).v=vi i/\ ∃(c:Config) (last:Int) (asl:Bool),IsK p k c/\c=(run.take i).foldl (nxK p k) (zxz p)/\okN p k c (run.drop i)=true/\
   (f 17).v= .lb/\(f 17).box=some [.t (ints c.mem),.t (ints c.at_),.t (.sl (c.buf.map (fun b=>[.sl (b.map Entry.enc)])))]/\(f 18).v=vi last/\(f 19).v=vb asl/\(i=0->last= -1/\asl=true)/\
   (∀q,i=q+1->(zzy p k tn l run q).Desc B last/\asl=decide (atI (zzy p k tn l run q).c.at_ tn= -1))) rfl rfl
   ⟨by simp -dsimp only[go_sem,seval],zxz p,-1,true,F8,rfl,Bg,by simp -dsimp only[go_sem,seval],by simp -dsimp only[go_sem,seval],by simp -dsimp only[go_sem,seval],by simp -dsimp only[go_sem,seval],fun _=>⟨rfl,rfl⟩,fun q hq=>by omega⟩ ?_
  rintro i f u kk bb hi ⟨H6,c,last,asl,hc,LX,Gx,b1,b2,CO,Eu,hz,hq⟩;have hw:=zag i (by omega)
  by_cases Af:i<=run.length
  ·have Av:(i:Int)<=(run.length:Int):=by omega
   obtain⟨a,ha,_⟩:=zad (show tn<c.at_.length by rw[hc.b.la];exact ht);have Lt:atI c.at_ tn=a:=zb9 (by simpa using ha);have Hq:=Aq a;have Cn: -1<=a:=(hc.b.at_ tn a x ha hx).1;have Bi:=zkk c.mem c.mem 40 A (zxk OC);have Bs:=zkk c.mem c.mem 40 l.variant (zxk Kh);have Dh:=Dh c.mem;have O8:(zzy p k tn l run i).c=c:=by rw[zwF,<- LX]
   have MQ:decide (a<0)=decide (a= -1):=by
    by_cases h:a= -1
    ·subst h;rfl
    ·rw[decide_eq_false h,decide_eq_false (by omega)]
   have key: ∀mv:Bool,(∀q y,i=q+1->run[q]? =some y->(zA5 tn y||asl)=mv)->(i=0->mv=true)->(zxj l a=true->(mv&&decide (a=l.head))=true->A.ev c.mem c.mem=1/\ ¬(last>=0/\l.variant.ev c.mem c.mem>=last))->
    (zzy p k tn l run i).Desc B (zzO l a mv (l.variant.ev c.mem c.mem) last):=by
    intro mv D8 Or AV;have Od:A.ev c.mem c.mem=1->l.variant.ev c.mem c.mem<=B:=fun h=>by rw[hV];exact BV c.mem (by rw[<- hE];exact h)
    have Nf:zxj l l.head=true:=by simp[zxj]
    cases i with
    | zero=>
      obtain⟨rfl,_⟩:=hz rfl;rw[Or rfl];have:c=zxz p:=by rw[LX];rfl
      subst this;refine zwz hr.1 Lt fun h=>⟨Dh.1,Od (AV ?_ ?_).1⟩
      ·rw[h];exact Nf
      ·rw[Or rfl,h];simp
    | succ q=>
      obtain⟨hD,Dd⟩:=hq q rfl;have hy:=zI (show q<run.length by omega);have D8:=D8 q _ rfl hy
      have e1:zzy p k tn l run (q+1)=(zzy p k tn l run q).see l c a mv:=by
       have e0:zzy p k tn l run (q+1)=itS (nxK p k) tn l (zzy p k tn l run q) run[q]:=by
        rw[zzy,zac hy,zgq];rfl
       have e2:nxK p k (zzy p k tn l run q).c run[q]=c:=by
        rw[<- O8,e0];rfl
       rw[e0,itS,e2,Lt,<- Dd,D8]
      rw[e1];exact hD.step hr.1 fun h1 h2=>⟨Dh.1,Od (AV h1 h2).1,(AV h1 h2).2⟩
   have fin: ∀la:Int,(zzy p k tn l run i).Desc B la-> ∀(f':Nat->Slot) (c':Config),(i<run.length-> ∃y,run[i]? =some y/\c'=nxK p k c y/\IsK p k c')->(i=run.length->c'=c)->
    (f' 20).v=vi (i+1:Nat)->(f' 17).v= .lb->(f' 17).box=some [.t (ints c'.mem),.t (ints c'.at_),.t (.sl (c'.buf.map (fun b=>[.sl (b.map Entry.enc)])))]->
    (f' 18).v=vi la->(f' 19).v=vb (decide (a<0))->
    (f' 20).v=vi (i+1:Nat)/\ ∃(c:Config) (last:Int) (asl:Bool),IsK p k c/\c=(run.take (i+1)).foldl (nxK p k) (zxz p)/\okN p k c (run.drop (i+1))=true/\
   (f' 17).v= .lb/\(f' 17).box=some [.t (ints c.mem),.t (ints c.at_),.t (.sl (c.buf.map (fun b=>[.sl (b.map Entry.enc)])))]/\(f' 18).v=vi last/\(f' 19).v=vb asl/\(i+1=0->last= -1/\asl=true)/\
   (∀q,i+1=q+1->(zzy p k tn l run q).Desc B last/\asl=decide (atI (zzy p k tn l run q).c.at_ tn= -1)):=by
     intro la hD f' c' C3 Co g1 g2 g3 g4 g5;refine⟨g1,c',_,_,?_,?_,?_,g2,g3,g4,g5,fun h=>by omega,fun q hq=> ?_⟩
     ·rcases Nat.lt_or_ge i run.length with h | h
      ·obtain⟨y,_,_,h3⟩:=C3 h;exact h3
      ·rw[Co (by omega)];exact hc
     ·rcases Nat.lt_or_ge i run.length with h | h
      ·obtain⟨y,h1,h2,_⟩:=C3 h;rw[zac h1,List.foldl_append,<- LX,h2];rfl
      ·rw[Co (by omega),LX,List.take_of_length_le h,List.take_of_length_le (by omega)]
     ·rcases Nat.lt_or_ge i run.length with h | h
      ·obtain⟨y,h1,h2,_⟩:=C3 h;rw[zbC h1,okN,zF]at Gx;rw[h2];exact Gx.2
      ·rw[List.drop_of_length_le (by omega)];rfl
     ·have:q=i:=by omega
      subst this;exact⟨hD,by rw[O8,Lt,MQ]⟩
   have MP:i<run.length-> ∃y,run[i]? =some y/\IsK p k (nxK p k c y)/\Den Γ G 340 [(zP p),vi k,(.agg [.t (ints (c).mem),.t (ints (c).at_),.t (.sl ((c).buf.map (fun b=>[.sl (b.map Entry.enc)])))]),(.agg [.t (ti (y).thread),.t (ti (y).step),.t (ti (y).cell)])]=some (.tup [(.agg [.t (ints (nxK p k c y).mem),.t (ints (nxK p k c y).at_),.t (.sl ((nxK p k c y).buf.map (fun b=>[.sl (b.map Entry.enc)])))]),vi 0]):=fun h=>by
    obtain⟨y,hy,_⟩:=zad h;rw[zbC hy,okN,zF,decide_eq_true_eq]at Gx;obtain⟨d,hn,hd⟩:=zgn hf hc Gx.1;exact⟨y,hy,by unfold nxK;rw[hn];exact hd,zjK p hs hf k hk c hc y Gx.1⟩
   have JJ:asl=false-> ∀q y mv,i=q+1->run[q]? =some y->zA5 tn y=mv-> ∀q' y',i=q'+1->run[q']? =some y'->(zA5 tn y' ||asl)=mv:=fun ha q y mv hi hy hm q' y' h1 h2=>by
    have:q=q':=by omega
    subst this;rw[hy]at h2;cases h2;rw[ha,Bool.or_false];exact hm
   have Lj:(asl=true\/(asl=false/\ ∃q y,i=q+1/\run[q]? =some y/\y.thread=tn/\y.step>=0))\/(asl=false/\ ∃q y,i=q+1/\run[q]? =some y/\((y.thread=tn/\y.step= -1)\/ ¬y.thread=tn)):=by
    cases asl
    ·rcases Nat.eq_zero_or_pos i with h | h
     ·have:=(hz h).2;cases this
     ·obtain⟨y,hy,DE⟩:=zad (show i-1<run.length by omega);have:=CG y DE
      by_cases e1:y.thread=tn
      ·by_cases e2:y.step= -1
       ·exact .inr ⟨rfl,i-1,y,by omega,hy,.inl ⟨e1,e2⟩⟩
       ·exact .inl (.inr ⟨rfl,i-1,y,by omega,hy,e1,by omega⟩)
      ·exact .inr ⟨rfl,i-1,y,by omega,hy,.inr e1⟩
    ·exact .inl (.inl rfl)
   have Mz: ∀q:Nat,i=q+1->IntKind.i64.wrap ((i:Int)-1)=(q:Int):=fun q h=>zn1 (by omega) (by omega)
   have e3: ¬(-1:Int)>=0:=by omega
   rcases Lj with J2 | ⟨FF,q,y,Je,hy,hC⟩
   case' inl=>
    have D8: ∀q y,i=q+1->run[q]? =some y->(zA5 tn y||asl)=true:=by
     rcases J2 with rfl | ⟨FF,q,y,Je,hy,e1,e2⟩
     ·exact fun q y _ _=>Bool.or_true _
     ·exact JJ FF q y true Je hy (by simp[zA5,e1];omega)
    have Ca:=key true D8 fun _=>rfl
    rcases J2 with rfl | ⟨rfl,q,y,Je,hy,e1,e2⟩
    case' inl=>simp -dsimp only[go_sem,seval,H6,CO,Eu,Av,b1,b2,ha]
    case' inr=>simp -dsimp only[go_sem,seval,H6,CO,Eu,Av,b1,b2,ha,Mz q Je,hy,e1,e2]
    all_goals
     cases hi:zxj l a<;>rw[hi]at Hq
     case' false=>
      have hD:=Ca fun h=>by rw[hi]at h;cases h
      rw[zwX hi]at hD;simp -dsimp only[go_sem,seval,Hq,Av]
     case' true=>
      by_cases e4:a=l.head
      case' neg=>
       have hD:=Ca fun _ h=>by simp[e4]at h
       rw[zwY hi e4]at hD;simp -dsimp only[go_sem,seval,Hq,ha,e4,b1,b2,CO]
      case' pos=>
       have Gp:=Hq;have e4':=e4;rw[FC]at Gp e4';have e4':=eq_true e4'
       by_cases EJ:A.ev c.mem c.mem=1
       case' neg=>simp -dsimp only[go_sem,seval,Gp,ha,e4',b1,b2,CO,hx,FC,hA,Bi,Bs,EJ]
       case' pos=>
        have hD:=fun h=>Ca fun _ _=>⟨EJ,h⟩
        rw[zw0 hi e4]at hD
        by_cases DW:last>=0
        case' neg=>
         have hD:=hD fun h=>DW h.1
         simp -dsimp only[go_sem,seval,Gp,ha,e4',b1,b2,CO,hx,FC,hA,Bi,Bs,EJ,DW]
        case' pos=>
         by_cases Ha:l.variant.ev c.mem c.mem>=last
         case' pos=>simp -dsimp only[go_sem,seval,Gp,ha,e4',b1,b2,CO,hx,FC,hA,Bi,Bs,EJ,DW,Ha]
         case' neg=>
          have hD:=hD fun h=>Ha h.2
          simp -dsimp only[go_sem,seval,Gp,ha,e4',b1,b2,CO,hx,FC,hA,Bi,Bs,EJ,DW,Ha]
   case' inr=>
    have Ca:=key false (JJ FF q y false Je hy (by rcases hC with⟨e1,e2⟩ | e1<;>simp[zA5, *])) fun h=>by omega
    have hD:=Ca fun _ h=>by simp at h
    subst FF;rcases hC with⟨e1,e2⟩ | e1
    case' inl=>simp -dsimp only[go_sem,seval,H6,CO,Eu,Av,b1,b2,ha,Mz q Je,hy,e1,e2,e3]
    case' inr=>simp -dsimp only[go_sem,seval,H6,CO,Eu,Av,b1,b2,ha,Mz q Je,hy,e1]
    all_goals
     cases hi:zxj l a<;>rw[hi]at Hq<;>rw[zwZ hi]at hD<;>simp -dsimp only[go_sem,seval,Hq,ha,b1,b2,CO]
   all_goals
    by_cases BL:i<run.length
    case' pos=>
     obtain⟨y',L7,Dp,IH⟩:=MP BL;have Jg:=eq_true BL;simp -dsimp only[go_sem,seval,Jg,H6,CO,L7,b1,b2,IH];exact⟨by omega,fin _ hD _ (nxK p k c y') (fun _=>⟨y',L7,rfl,Dp⟩) (fun h=>by omega) (by simp -dsimp only[go_sem,seval,hw]) (by simp -dsimp only[go_sem,seval,b1]) (by simp -dsimp only[go_sem,seval]) (by simp -dsimp only[go_sem,seval,CO]) (by simp -dsimp only[go_sem,seval])⟩
    have Jg:=eq_false BL;simp -dsimp only[go_sem,seval,Jg,H6,CO,b1,b2];exact⟨by omega,fin _ hD _ c (fun h=>absurd h BL) (fun _=>rfl) (by simp -dsimp only[go_sem,seval,hw]) (by simp -dsimp only[go_sem,seval,b1]) (by simp -dsimp only[go_sem,seval,b2]) (by simp -dsimp only[go_sem,seval,CO]) (by simp -dsimp only[go_sem,seval])⟩
  ·have:i=run.length+1:=by omega
   subst this;have Av: ¬((run.length+1:Nat):Int)<=(run.length:Int):=by omega
   have hD:=(hq run.length rfl).1.b;rw[zzy,List.take_length]at hD;simp -dsimp only[go_sem,seval,H6,Av,b1,b2,Jd,hb,hD]
end Rg
end
section
namespace Rg
open Go
inductive Tr (α:Type)where
 | nil
 | node (v:Option α) (l r:Tr α)
namespace Tr
variable {α:Type}
noncomputable def get (t:Tr α):Nat->Option α:=
 Tr.rec (motive:=fun _=>Nat->Option α) (fun _=>none) (fun v _ _ a b n=>Nat.rec v (fun m _=>Nat.rec (a (Nat.div m 2)) (fun _ _=>b (Nat.div m 2)) (Nat.mod m 2)) n) t
noncomputable def node1 (ih:Tr α->Nat->α->Tr α) (v:Option α) (l r:Tr α) (n:Nat) (x:α):Tr α:=
 Nat.rec (.node (some x) l r) (fun m _=>Nat.rec (.node v (ih l (Nat.div m 2) x) r) (fun _ _=> .node v l (ih r (Nat.div m 2) x)) (Nat.mod m 2)) n
noncomputable def put (f:Nat):Tr α->Nat->α->Tr α:=
 Nat.rec (fun t _ _=>t) (fun _ ih t=>Tr.rec (motive:=fun _=>Nat->α->Tr α) (node1 ih none .nil .nil) (fun v l r _ _=>node1 ih v l r) t) f
theorem zdK (v:Option α) (l r:Tr α) (m:Nat):(Tr.node v l r).get (m+1)=if m % 2=0 then l.get (m/ 2)else r.get (m/ 2):=by
 show Nat.rec (motive:=fun _=>Option α) (l.get (m/ 2)) (fun _ _=>r.get (m/ 2)) (m % 2)=_;cases m % 2<;>rfl
theorem zjI (ih:Tr α->Nat->α->Tr α) (v:Option α) (l r:Tr α) (m:Nat) (x:α):node1 ih v l r (m+1) x=if m % 2=0 then .node v (ih l (m/ 2) x) r else .node v l (ih r (m/ 2) x):=by
 show Nat.rec (motive:=fun _=>Tr α) (.node v (ih l (m/ 2) x) r) (fun _ _=> .node v l (ih r (m/ 2) x)) (m % 2)=_;cases m % 2<;>rfl
theorem zhq (ih:Tr α->Nat->α->Tr α) (n:Nat) (x:α) (hi: ∀m,m<n-> ∀t j,(ih t m x).get j=if j=m then some x else t.get j) (v:Option α) (l r:Tr α) (j:Nat):
 (node1 ih v l r n x).get j=if j=n then some x else(Tr.node v l r).get j:=by
 cases n with
 | zero=>cases j<;>rfl
 | succ m=>
   rw[zjI]
   by_cases h:m % 2=0
   ·rw[if_pos h]
    cases j with
    | zero=>rfl
    | succ j=>
      rw[zdK,zdK]
      by_cases h2:j % 2=0
      ·rw[if_pos h2,if_pos h2,hi _ (by omega)]
       by_cases h3:j=m
       ·rw[if_pos (by rw[h3]),if_pos (by rw[h3])]
       ·rw[if_neg (by omega),if_neg (by omega)]
      ·rw[if_neg h2,if_neg h2,if_neg (by omega)]
   ·rw[if_neg h]
    cases j with
    | zero=>rfl
    | succ j=>
      rw[zdK,zdK]
      by_cases h2:j % 2=0
      ·rw[if_pos h2,if_pos h2,if_neg (by omega)]
      ·rw[if_neg h2,if_neg h2,hi _ (by omega)]
       by_cases h3:j=m
       ·rw[if_pos (by rw[h3]),if_pos (by rw[h3])]
       ·rw[if_neg (by omega),if_neg (by omega)]
theorem get_put: ∀(f:Nat) (t:Tr α) (n:Nat) (x:α),n<f-> ∀j,(put f t n x).get j=if j=n then some x else t.get j:=by
 intro f
 induction f with
 | zero=>intro t n x h;omega
 | succ f ih=>
   intro t n x h j;have hi: ∀m,m<n-> ∀t j,(put f t m x).get j=if j=m then some x else t.get j:=fun m hm t j=>ih t m x (by omega) j
   cases t with
   | nil=>
     show(node1 (put f) none .nil .nil n x).get j=_;rw[zhq _ n x hi]
     have : ∀k,(Tr.node none .nil .nil:Tr α).get k=(Tr.nil:Tr α).get k:=by
      intro k
      cases k with
      | zero=>rfl
      | succ k=>rw[zdK];split<;>rfl
     rw[this]
   | node v l r=>exact zhq _ n x hi v l r j
end Tr
structure Fn (α:Type)where
 base:Nat->α
 ov:Tr α
namespace Fn
variable {α:Type}
noncomputable def app (f:Fn α) (k:Nat):α:=match f.ov.get k with
 | some v=>v
 | none=>f.base k
noncomputable def set (f:Fn α) (k:Nat) (v:α):Fn α:=Fn.rec (fun b o=>⟨b,o.put (k+1) k v⟩) f
def of (f:Nat->α):Fn α:=⟨f,.nil⟩
theorem app_set (f:Fn α) (k:Nat) (v:α):(f.set k v).app=upd f.app k v:=by
 funext j
 unfold app set upd;simp only;rw[Tr.get_put (k+1) f.ov k v (by omega)]
 by_cases h:j=k
 ·rw[if_pos h,if_pos h]
 ·rw[if_neg h,if_neg h]
end Fn
structure E where
 env:Fn V
 loc:Fn (Option (List V))
 adr:Fn (Option (Nat×Nat))
 used:Fn Bool
 heap:Fn (Option O)
 nxt:Nat
 bas:Nat
namespace E
noncomputable def st (e:E):St:=⟨e.env.app,e.loc.app,e.adr.app,e.used.app,e.heap.app,e.nxt,e.bas⟩
def begin (e:E) (n:Nat):E:={ e with adr:=.of fun _=>none,used:=.of fun _=>false,bas:=e.nxt,nxt:=e.nxt+n }
noncomputable def hpSet (h:Fn (Option O)):List (Nat×O)->Fn (Option O)
 | []=>h
 | (k,o)::r=>hpSet (h.set k (some o)) r
theorem zlq (h:Fn (Option O)) (l:List (Nat×O)):(hpSet h l).app=zxu h.app l:=by
 induction l generalizing h with
 | nil=>rfl
 | cons a l ih=>rw[hpSet,zxu,ih,Fn.app_set]
noncomputable def apply(s:E) (dst:Option Nat) (e:Eff):E:=
 { s with
   env:=match dst with | some d=>s.env.set d e.val | none=>s.env
   adr:=match dst with | some d=>s.adr.set d e.adr | none=>s.adr
   loc:=match dst with
    | some d=>(match e.wloc with | some (b,cs)=>s.loc.set b (some cs) | none=>s.loc).set d e.loc
    | none=>match e.wloc with | some (b,cs)=>s.loc.set b (some cs) | none=>s.loc
   used:=match e.adr with | some (b,_)=>s.used.set b true | none=>s.used
   heap:=hpSet s.heap e.hp }
theorem apply_st (s:E) (dst:Option Nat) (e:Eff):(s.apply dst e).st=s.st.apply dst e:=by
 unfold apply st St.apply;rcases dst with _ | d<;>rcases e with⟨val,adr,loc,wloc,hp⟩<;>rcases wloc with _ | ⟨b,cs⟩<;>rcases adr with _ | ⟨a1,a2⟩<;>simp only[Fn.app_set,zlq]
def init (args:List V) (h:Fn (Option O)) (n:Nat):E:=⟨.of (zza args),.of fun _=>none,.of fun _=>none,.of fun _=>false,h,n,n⟩
noncomputable def fill:Fn V->List Nat->List V->Fn V
 | env,t::ts,v::vs=>fill (env.set t v) ts vs
 | env,_,_=>env
theorem zm8 (f:Fn V) (ts:List Nat) (vs:List V):(fill f ts vs).app=zzj f.app ts vs:=by
 induction ts generalizing f vs with
 | nil=>cases vs<;>rfl
 | cons t ts ih=>cases vs with
   | nil=>rfl
   | cons v vs=>rw[fill,zzj,ih,Fn.app_set]
noncomputable def round (h:Fn (Option O)) (n k:Nat) (env:Nat->V) (ps:List Nat) (bd:C) (vs:List V):E:=
 ⟨fill (.of env) ps vs,.of fun _=>none,.of fun _=>none,.of fun _=>false,h.set k (some (.loop env ps bd .enter)),n,n⟩
theorem round_st (h:Fn (Option O)) (n k:Nat) (env:Nat->V) (ps:List Nat) (bd:C) (vs:List V):(round h n k env ps bd vs).st=zzg h.app n k env ps bd vs:=by
 unfold round st zzg;simp only[zm8,Fn.app_set];rfl
noncomputable def freeB (s:E) (dst:Option Nat) (e:Eff):Bool:=match dst with
 | none=>true
 | some d=> !s.used.app d&&match e.adr with
   | some (b,_)=> !decide (b=d)
   | none=>true
theorem free_of {s:E} {dst:Option Nat} {e:Eff} (h:s.freeB dst e=true):s.st.free dst e:=by
 intro d hd;subst hd;unfold freeB at h;simp only[zF,Bool.not_eq_true']at h;refine⟨h.1,fun b o hb=> ?_⟩;rw[hb]at h;simpa using h.2
end E
inductive ET where
 | code (c:C) (s:E)
 | loop (b:C) (s:E)
 | ops (draw:Bool) (p:Nat) (l:List ROp) (s:E)
 | pcall (f:Nat) (args:List V)
 | rcall (f:Nat) (args:List V) (h:Fn (Option O)) (n:Nat)
inductive EO where
 | code (e:Ex) (s:E)
 | ops (s:E)
 | val (v:V)
 | vals (v:V) (h:Fn (Option O)) (n:Nat)
noncomputable def ET.task:ET->Task
 | .code c s=> .code c s.st
 | .loop b s=> .loop b s.st
 | .ops d p l s=> .ops d p l s.st
 | .pcall f a=> .pcall f a
 | .rcall f a h n=> .rcall f a h.app n
noncomputable def EO.out:EO->Out
 | .code e s=> .code e s.st
 | .ops s=> .ops s.st
 | .val v=> .val v
 | .vals v h n=> .vals v h.app n
def zCc:Ex->Bool
 | .exit _=>false
 | _=>true
theorem zA6 {e:Ex} (h:zCc e=true): ∀id,e≠ .exit id:=by
 rintro id rfl;cases h
def zyV:Option EO->Option (Ex×E)
 | some (.code e s)=>some (e,s)
 | _=>none
def zBY:Option EO->Option E
 | some (.ops s)=>some s
 | _=>none
def zCL:Option EO->Option V
 | some (.val v)=>some v
 | _=>none
def zAE:Option EO->Option (V×Fn (Option O)×Nat)
 | some (.vals v h n)=>some (v,h,n)
 | _=>none
theorem zx8 {x:Option EO} {e:Ex} {s:E} (h:zyV x=some (e,s)):x=some (.code e s):=by
 unfold zyV at h;split at h
 ·cases h;rfl
 ·cases h
theorem zAX {x:Option EO} {s:E} (h:zBY x=some s):x=some (.ops s):=by
 unfold zBY at h;split at h
 ·cases h;rfl
 ·cases h
theorem zCK {x:Option EO} {v:V} (h:zCL x=some v):x=some (.val v):=by
 unfold zCL at h;split at h
 ·cases h;rfl
 ·cases h
theorem zAn {x:Option EO} {v:V} {hp:Fn (Option O)} {n:Nat} (h:zAE x=some (v,hp,n)):x=some (.vals v hp n):=by
 unfold zAE at h;split at h
 ·cases h;rfl
 ·cases h
noncomputable def loopAt (h:Fn (Option O)) (k:Nat):Option ((Nat->V)×List Nat×C×LSt):=match h.app k with
 | some (.loop env ps b st)=>some (env,ps,b,st)
 | _=>none
theorem zzD {h:Fn (Option O)} {k:Nat} {env:Nat->V} {ps:List Nat} {b:C} {st:LSt} (e:loopAt h k=some (env,ps,b,st)):h.app k=some (.loop env ps b st):=by
 unfold loopAt at e;split at e
 ·rename_i h0;cases e;exact h0
 ·cases e
def LSt.isReady:LSt->Bool
 | .ready=>true
 | _=>false
def LSt.isEnter:LSt->Bool
 | .enter=>true
 | _=>false
def LSt.isBusy:LSt->Bool
 | .busy=>true
 | _=>false
def roundOf:C->Option (C×C)
 | .round a b=>some (a,b)
 | _=>none
def zoD:C->Option Ext
 | .ext e=>some e
 | _=>none
def zsL:V->Option Nat
 | .yl k=>some k
 | _=>none
def zhK:AOp->Option (Bool×Opd×List Opd)
 | .call r f a=>some (r,f,a)
 | _=>none
def zgy:AOp->Option (Opd×List Opd)
 | .fcall f a=>some (f,a)
 | _=>none
def ask (b:Bool):Option Unit:=if b then some ()else none
theorem zye {b:Bool} {u:Unit} (h:ask b=some u):b=true:=by
 unfold ask at h;split at h
 ·assumption
 ·cases h
section
variable (Γ:Nat->Option F) (G:Nat->List T) (R:ET->Option EO)
noncomputable def evCode (s:E):C->Option EO
 | .skip=>some (.code .normal s)
 | .ret=>some (.code .ret s)
 | .exit id=>some (.code (.exit id) s)
 | .region d l=>(zBY (R (.ops d 0 l (s.begin l.length)))).bind fun s'=>some (.code .normal s')
 | .regionD ck l=>(zBY (R (.ops true 0 l (s.begin l.length)))).bind fun s'=>(ask (zAw G s'.st l ck)).bind fun _=>some (.code .normal s')
 | .seq a b=>(zyV (R (.code a s))).bind fun q=>match q with
   | (.normal,s1)=>(zyV (R (.code b s1))).bind fun q=>some (.code q.1 q.2)
   | (e,s1)=>some (.code e s1)
 | .cond c a b=>(zyM G s.st c).bind fun t=>(zyV (R (.code (if t then a else b) s))).bind fun q=>some (.code q.1 q.2)
 | .block id b=>(zyV (R (.code b s))).bind fun q=>some (.code (if q.1= .exit id then .normal else q.1) q.2)
 | .loop b=>(zyV (R (.loop b s))).bind fun q=>some (.code q.1 q.2)
 | .rangeF x ps bd=>(evl G s.st x).bind fun fv=>(zze fv).bind fun g=>(Γ g.1).bind fun fn=>(ask fn.raw).bind fun _=>
   (zAE (R (.rcall g.1 (g.2.1++[.yl s.nxt]++g.2.2) (s.heap.set s.nxt (some (.loop s.env.app ps bd .ready))) (s.nxt+1)))).bind fun r=>
   (loopAt r.2.1 s.nxt).bind fun q=>(LSt.ends q.2.2.2).bind fun e=>some (.code e { s with heap:=r.2.1.set s.nxt (some .dead),nxt:=r.2.2 })
 | .ext _=>none
 | .round _ _=>none
noncomputable def evRest (d:Bool) (p:Nat) (o:ROp) (l:List ROp) (s:E) (e:Eff):Option EO:=
 (zBY (R (.ops d (p+1) l (s.apply o.dst e)))).bind fun s'=>some (.ops s')
noncomputable def evYield (d:Bool) (p:Nat) (o:ROp) (l:List ROp) (s:E) (k:Nat) (vs:List V):Option EO:=
 (loopAt s.heap k).bind fun q=>(ask (LSt.isReady q.2.2.2)).bind fun _=>(roundOf q.2.2.1).bind fun c=>(ask (decide (vs.length=q.2.1.length))).bind fun _=>
 (zyV (R (.code c.1 (.round s.heap s.nxt k q.1 q.2.1 (.round c.1 c.2) vs)))).bind fun r1=>(ask (decide (r1.1= .normal))).bind fun _=>
 (loopAt r1.2.heap k).bind fun q1=>(ask (LSt.isEnter q1.2.2.2)).bind fun _=>
 (zyV (R (.code c.2 { r1.2 with heap:=r1.2.heap.set k (some (.loop q1.1 q1.2.1 q1.2.2.1 .busy)) }))).bind fun r2=>
 (loopAt r2.2.heap k).bind fun q2=>(ask (LSt.isBusy q2.2.2.2)).bind fun _=>
 evRest R d p o l { s with heap:=r2.2.heap.set k (some (.loop q2.1 q2.2.1 q2.2.2.1 r2.1.toL)),nxt:=r2.2.nxt } { val:=.t (.bool (decide (r2.1=Ex.normal))) }
noncomputable def evOp (d:Bool) (p:Nat) (o:ROp) (l:List ROp) (s:E):Option EO:=match zhK o.op with
 | some (raw,f,args)=>(ask (s.freeB o.dst {})).bind fun _=>(evl G s.st f).bind fun fv=>(zzo G s.st args).bind fun vs=>match zsL fv with
   | some k=>(ask raw).bind fun _=>evYield R d p o l s k vs
   | none=>(zze fv).bind fun g=>(Γ g.1).bind fun fn=>if raw then
      (ask fn.raw).bind fun _=>(zAE (R (.rcall g.1 (g.2.1++vs++g.2.2) s.heap s.nxt))).bind fun r=>evRest R d p o l { s with heap:=r.2.1,nxt:=r.2.2 } { val:=r.1 }
     else(ask (!fn.raw)).bind fun _=>((g.2.1++vs++g.2.2).mapM (toT1 s.st.heap)).bind fun rs=>(zCL (R (.pcall g.1 rs))).bind fun r=>
      (ask (!d||r.scalar||((g.2.1++vs++g.2.2).flatMap (zxp s.st.heap)).isEmpty)).bind fun _=>
      evRest R d p o l s { val:=r,hp:=if r.scalar then []else freezes s.st.heap ((g.2.1++vs++g.2.2).flatMap (zxp s.st.heap)) }
 | none=>match zgy o.op with
   | some (f,args)=>(ask (s.freeB o.dst {})).bind fun _=>(evl G s.st f).bind fun fv=>(zzo G s.st args).bind fun vs=>(zze fv).bind fun g=>(Γ g.1).bind fun fn=>(ask fn.raw).bind fun _=>
     ((g.2.1++vs++g.2.2).mapM (toT1 s.st.heap)).bind fun rs=>(ask ((g.2.1++vs++g.2.2).flatMap (zxp s.st.heap)).isEmpty).bind fun _=>
     (zAE (R (.rcall g.1 rs (.of fun _=>none) 0))).bind fun r=>(zBy (s.bas+p) r.1 r.2.1.app).bind fun e=>evRest R d p o l s e
   | none=>(zw4 G p s.st o.op).bind fun e=>(ask (s.freeB o.dst e)).bind fun _=>evRest R d p o l s e
noncomputable def evStep:ET->Option EO
 | .code c s=>evCode Γ G R s c
 | .loop b s=>(zyV (R (.code b s))).bind fun q=>match q with
   | (.normal,s1)=>(zyV (R (.loop b s1))).bind fun q=>some (.code q.1 q.2)
   | (e,s1)=>some (.code e s1)
 | .ops _ _ [] s=>some (.ops s)
 | .ops d p (o::l) s=>(zxW s.st o.guard).bind fun w=>if w then evOp Γ G R d p o l s else(ask (s.freeB o.dst {})).bind fun _=>evRest R d p o l s {}
 | .pcall g args=>(Γ g).bind fun fn=>(ask (!fn.raw)).bind fun _=>match zoD fn.body with
   | some e=>(zyZ e args).bind fun r=>some (.val r)
   | none=>(zyV (R (.code fn.body (.init args (.of fun _=>none) 0)))).bind fun q=>(ask (zCc q.1)).bind fun _=>(zyQ q.2.st fn.results).bind fun v=>(reify q.2.st.heap v).bind fun r=>some (.val r)
 | .rcall g args h m=>(Γ g).bind fun fn=>(ask fn.raw).bind fun _=>match zoD fn.body with
   | some e=>(zyL e args h.app m).bind fun r=>some (.vals r.1 (.of r.2.1) r.2.2)
   | none=>(zyV (R (.code fn.body (.init args h m)))).bind fun q=>(ask (zCc q.1)).bind fun _=>(zyQ q.2.st fn.results).bind fun v=>some (.vals v q.2.heap q.2.nxt)
end
noncomputable def ev (Γ:Nat->Option F) (G:Nat->List T):Nat->ET->Option EO
 | 0=>fun _=>none
 | n+1=>evStep Γ G (ev Γ G n)
section
variable {Γ:Nat->Option F} {G:Nat->List T} {R:ET->Option EO}
def zdx (Γ:Nat->Option F) (G:Nat->List T) (R:ET->Option EO):Prop:= ∀t o,R t=some o->Big Γ G t.task o.out
theorem bind_some {α β:Type} {x:Option α} {f:α->Option β} {b:β} (h:x.bind f=some b): ∃a,x=some a/\f a=some b:=by
 cases x with
 | none=>cases h
 | some a=>exact⟨a,rfl,h⟩
theorem zhz (hR:zdx Γ G R) {s:E} {c:C} {o:EO} (h:evCode Γ G R s c=some o):Big Γ G (.code c s.st) o.out:=by
 cases c with
 | skip=>simp only[evCode,zA]at h;subst h;exact .skip
 | ret=>simp only[evCode,zA]at h;subst h;exact .ret
 | exit id=>simp only[evCode,zA]at h;subst h;exact .exit
 | region d l=>
   simp only[evCode]at h;obtain⟨s',h1,h⟩:=bind_some h;simp only[zA]at h;subst h
   exact .region (hR _ _ (zAX h1))
 | regionD ck l=>
   simp only[evCode]at h;obtain⟨s',h1,h⟩:=bind_some h;obtain⟨u,h2,h⟩:=bind_some h;simp only[zA]at h;subst h
   exact .regionD (hR _ _ (zAX h1)) (zye h2)
 | seq a b=>
   simp only[evCode]at h;obtain⟨⟨e,s1⟩,h1,h⟩:=bind_some h;have g1:=hR _ _ (zx8 h1)
   cases e with
   | normal=>
     obtain⟨⟨e2,s2⟩,h2,h⟩:=bind_some h;simp only[zA]at h;subst h
     exact .seqN g1 (hR _ _ (zx8 h2))
   | exit id=>simp only[zA]at h;subst h;exact .seqX g1 (by intro h;cases h)
   | ret=>simp only[zA]at h;subst h;exact .seqX g1 (by intro h;cases h)
 | cond c a b=>
   simp only[evCode]at h;obtain⟨t,ht,h⟩:=bind_some h;obtain⟨⟨e,s1⟩,h1,h⟩:=bind_some h;simp only[zA]at h;subst h
   exact .cond ht (hR _ _ (zx8 h1))
 | block id b=>
   simp only[evCode]at h;obtain⟨⟨e,s1⟩,h1,h⟩:=bind_some h;simp only[zA]at h;subst h
   exact .block (hR _ _ (zx8 h1))
 | loop b=>
   simp only[evCode]at h;obtain⟨⟨e,s1⟩,h1,h⟩:=bind_some h;simp only[zA]at h;subst h
   exact .loop (hR _ _ (zx8 h1))
 | rangeF x ps bd=>
   simp only[evCode]at h;obtain⟨fv,An,h⟩:=bind_some h;obtain⟨⟨g,a,b⟩,Au,h⟩:=bind_some h;obtain⟨fn,hg,h⟩:=bind_some h;obtain⟨_,hr,h⟩:=bind_some h;obtain⟨⟨r,h',n'⟩,hc,h⟩:=bind_some h;obtain⟨⟨env',ps',bd',st⟩,hl,h⟩:=bind_some h;obtain⟨e,he,h⟩:=bind_some h;simp only[zA]at h;subst h;have g1:=hR _ _ (zAn hc);simp only[ET.task,EO.out,Fn.app_set]at g1;have:=Big.rangeF (s:=s.st) (ps:=ps) (bd:=bd) An Au hg (zye hr) g1 (zzD hl) he
   simpa only[EO.out,E.st,Fn.app_set]using this
 | ext e=>simp[evCode]at h
 | round a b=>simp[evCode]at h
theorem zbg (hR:zdx Γ G R) {d:Bool} {p:Nat} {ro:ROp} {l:List ROp} {s:E} {e:Eff} {o:EO} (h:evRest R d p ro l s e=some o): ∃s',o= .ops s'/\Big Γ G (.ops d (p+1) l (s.st.apply ro.dst e)) (.ops s'.st):=by
 obtain⟨s',h1,h⟩:=bind_some h;simp only[zA]at h;subst h;have:=hR _ _ (zAX h1);simp only[ET.task,EO.out,E.apply_st]at this;exact⟨s',rfl,this⟩
theorem zjO {st:LSt} (h:st.isReady=true):st= .ready:=by cases st<;>first | rfl | cases h
theorem zjP {st:LSt} (h:st.isEnter=true):st= .enter:=by cases st<;>first | rfl | cases h
theorem zlh {st:LSt} (h:st.isBusy=true):st= .busy:=by cases st<;>first | rfl | cases h
theorem zjE {c a b:C} (h:roundOf c=some (a,b)):c= .round a b:=by cases c<;>first | (cases h;rfl) | cases h
theorem zBD {c:C} {e:Ext} (h:zoD c=some e):c= .ext e:=by cases c<;>first | (cases h;rfl) | cases h
theorem zn0 {v:V} {k:Nat} (h:zsL v=some k):v= .yl k:=by cases v<;>first | (cases h;rfl) | cases h
theorem zlV {o:AOp} {r:Bool} {f:Opd} {a:List Opd} (h:zhK o=some (r,f,a)):o= .call r f a:=by cases o<;>first | (cases h;rfl) | cases h
theorem zjW {o:AOp} {f:Opd} {a:List Opd} (h:zgy o=some (f,a)):o= .fcall f a:=by cases o<;>first | (cases h;rfl) | cases h
theorem zgz (hR:zdx Γ G R) {d:Bool} {p:Nat} {ro:ROp} {l:List ROp} {s:E} {k:Nat} {vs:List V} {o:EO} {f:Opd} {args:List Opd} (hw:zxW s.st ro.guard=some true) (hf:s.st.free ro.dst {}) (ho:ro.op= .call true f args)
 (An:evl G s.st f=some (.yl k)) (Ar:zzo G s.st args=some vs) (h:evYield R d p ro l s k vs=some o):Big Γ G (.ops d p (ro::l) s.st) o.out:=by
 unfold evYield at h;obtain⟨⟨env,ps,bd,st⟩,hk,z1⟩:=bind_some h;obtain⟨_,AA,z2⟩:=bind_some z1;obtain⟨⟨ca,cb⟩,hc,z3⟩:=bind_some z2;obtain⟨_,Ac,z4⟩:=bind_some z3;obtain⟨⟨e1,s1⟩,h1,z5⟩:=bind_some z4;obtain⟨_,Jp,z6⟩:=bind_some z5;obtain⟨⟨env1,ps1,bd1,st1⟩,Be,z7⟩:=bind_some z6;obtain⟨_,Ir,z8⟩:=bind_some z7;obtain⟨⟨e2,s2⟩,h2,z9⟩:=bind_some z8;obtain⟨⟨env',ps',bd',st2⟩,Ba,z10⟩:=bind_some z9;obtain⟨_,E0,z11⟩:=bind_some z10;have q1:=zjO (zye AA);have q2:=zjP (zye Ir);have q3:=zlh (zye E0);have q4:=zjE hc;have q5:=of_decide_eq_true (zye Jp);have q6:=of_decide_eq_true (zye Ac);simp only at q1 q2 q3 q4 q5 q6 h1 h2 hk Be Ba z11;subst q1 q2 q3 q4 q5;obtain⟨s',rfl,hb⟩:=zbg hR z11;have g1:=hR _ _ (zx8 h1);have g2:=hR _ _ (zx8 h2);simp only[ET.task,EO.out,E.round_st]at g1 g2;refine .opsYield (s:=s.st) (s1:=s1.st) (s2:=s2.st) (e:=e2) hw hf ho An (zzD hk) Ar q6 g1 (zzD Be) ?_ (zzD Ba) ?_
 ·simpa only[E.st,Fn.app_set]using g2
 ·simpa only[E.st,Fn.app_set]using hb
theorem zjZ (hR:zdx Γ G R) {d:Bool} {p:Nat} {ro:ROp} {l:List ROp} {s:E} {o:EO} (hw:zxW s.st ro.guard=some true) (h:evOp Γ G R d p ro l s=some o):Big Γ G (.ops d p (ro::l) s.st) o.out:=by
 unfold evOp at h;split at h
 ·rename_i raw f args BQ;have ho:=zlV BQ;obtain⟨_,hf,h⟩:=bind_some h;obtain⟨fv,An,h⟩:=bind_some h;obtain⟨vs,Ar,h⟩:=bind_some h;have AI:=E.free_of (zye hf);split at h
  ·rename_i k hk;obtain⟨_,hr,h⟩:=bind_some h;have Ai:=zn0 hk;rw[Ai]at An;rw[zye hr]at ho;exact zgz hR hw AI ho An Ar h
  ·obtain⟨⟨g,a,b⟩,Au,h⟩:=bind_some h;obtain⟨fn,hg,h⟩:=bind_some h;split at h
   ·rename_i B3;rw[B3]at ho;obtain⟨_,hr,h⟩:=bind_some h;obtain⟨⟨r,h',n'⟩,hc,h⟩:=bind_some h;obtain⟨s',rfl,hb⟩:=zbg hR h;have g1:=hR _ _ (zAn hc);exact .opsRaw hw AI ho An Au hg (zye hr) Ar g1 hb
   ·rename_i B3;have B3:raw=false:=by simpa using B3
    rw[B3]at ho;obtain⟨_,hr,h⟩:=bind_some h;obtain⟨rs,AB,h⟩:=bind_some h;obtain⟨r,hc,h⟩:=bind_some h;obtain⟨_,hd,h⟩:=bind_some h;obtain⟨s',rfl,hb⟩:=zbg hR h;have g1:=hR _ _ (zCK hc);have Cy:fn.raw=false:=by simpa using zye hr
    have Dp:=zye hd;simp only[Bool.or_eq_true,Bool.not_eq_true',List.isEmpty_iff]at Dp;refine .opsPure hw AI ho An Au hg Cy Ar AB g1 (fun h0=> ?_) hb;rcases Dp with(Dp | Dp) | Dp
    ·rw[Dp]at h0;cases h0
    ·exact .inl Dp
    ·exact .inr Dp
 ·split at h
  ·rename_i f args BQ;have ho:=zjW BQ;obtain⟨_,hf,h⟩:=bind_some h;obtain⟨fv,An,h⟩:=bind_some h;obtain⟨vs,Ar,h⟩:=bind_some h;obtain⟨⟨g,a,b⟩,Au,h⟩:=bind_some h;obtain⟨fn,hg,h⟩:=bind_some h;obtain⟨_,hr,h⟩:=bind_some h;obtain⟨rs,AB,h⟩:=bind_some h;obtain⟨_,hd,h⟩:=bind_some h;obtain⟨⟨r,h',n'⟩,hc,h⟩:=bind_some h;obtain⟨e,he,h⟩:=bind_some h;obtain⟨s',rfl,hb⟩:=zbg hR h;have g1:=hR _ _ (zAn hc);exact .opsFresh hw (E.free_of (zye hf)) ho An Au hg (zye hr) Ar AB (List.isEmpty_iff.1 (zye hd)) g1 he hb
  ·obtain⟨e,he,h⟩:=bind_some h;obtain⟨_,hf,h⟩:=bind_some h;obtain⟨s',rfl,hb⟩:=zbg hR h;exact .opsEff hw (E.free_of (zye hf)) he hb
theorem zhy (hR:zdx Γ G R):zdx Γ G (evStep Γ G R):=by
 intro t o h
 cases t with
 | code c s=>exact zhz hR h
 | loop b s=>
   simp only[evStep]at h;obtain⟨⟨e,s1⟩,h1,h⟩:=bind_some h;have g1:=hR _ _ (zx8 h1)
   cases e with
   | normal=>
     obtain⟨⟨e2,s2⟩,h2,h⟩:=bind_some h;simp only[zA]at h;subst h
     exact .loopN g1 (hR _ _ (zx8 h2))
   | exit id=>simp only[zA]at h;subst h;exact .loopX g1 (by intro h;cases h)
   | ret=>simp only[zA]at h;subst h;exact .loopX g1 (by intro h;cases h)
 | ops d p l s=>
   cases l with
   | nil=>simp only[evStep,zA]at h;subst h;exact .opsNil
   | cons ro l=>
     simp only[evStep]at h;obtain⟨w,hw,h⟩:=bind_some h
     cases w with
     | true=>exact zjZ hR hw h
     | false=>
       simp only[zG,if_false]at h;obtain⟨_,hf,h⟩:=bind_some h;obtain⟨s',rfl,hb⟩:=zbg hR h
       exact .opsSkip hw (E.free_of (zye hf)) hb
 | pcall g args=>
   simp only[evStep]at h;obtain⟨fn,hg,h⟩:=bind_some h;obtain⟨_,hr,h⟩:=bind_some h;have Cy:fn.raw=false:=by simpa using zye hr
   split at h
   ·rename_i e he;obtain⟨r,hx,h⟩:=bind_some h;simp only[zA]at h;subst h;exact .pext hg Cy (zBD he) hx
   ·obtain⟨⟨e,s1⟩,h1,h⟩:=bind_some h;obtain⟨_,hn,h⟩:=bind_some h;obtain⟨v,hv,h⟩:=bind_some h;obtain⟨r,Bp,h⟩:=bind_some h;simp only[zA]at h;subst h
    exact .pcall hg Cy (hR _ _ (zx8 h1)) (zA6 (zye hn)) hv Bp
 | rcall g args hp m=>
   simp only[evStep]at h;obtain⟨fn,hg,h⟩:=bind_some h;obtain⟨_,hr,h⟩:=bind_some h;split at h
   ·rename_i e he;obtain⟨⟨r,h',n'⟩,hx,h⟩:=bind_some h;simp only[zA]at h;subst h;exact .rext hg (zye hr) (zBD he) hx
   ·obtain⟨⟨e,s1⟩,h1,h⟩:=bind_some h;obtain⟨_,hn,h⟩:=bind_some h;obtain⟨v,hv,h⟩:=bind_some h;simp only[zA]at h;subst h;exact .rcall hg (zye hr) (hR _ _ (zx8 h1)) (zA6 (zye hn)) hv
end
/-! The same evaluator in a form that the kernel runs with less room. -/
abbrev TG:=Nat->Option F
abbrev TL:=Nat->List T
abbrev TR:=ET->Option EO
theorem zbF {α β:Type} (x:Option α) (f:α->Option β):x.bind f=Option.rec none f x:=by cases x<;>rfl
theorem zbl {α:Type} (x:Option EO) (f:E->Option α):(zBY x).bind f=Option.rec none (fun o=>EO.rec (fun _ _=>none) f (fun _=>none) (fun _ _ _=>none) o) x:=by
 cases x with
 | none=>rfl
 | some o=>cases o<;>rfl
theorem zbv {α:Type} (x:Option EO) (f:Ex×E->Option α):(zyV x).bind f=Option.rec none (fun o=>EO.rec (fun e s=>f (e,s)) (fun _=>none) (fun _=>none) (fun _ _ _=>none) o) x:=by
 cases x with
 | none=>rfl
 | some o=>cases o<;>rfl
theorem zbU {α:Type} (x:Option EO) (f:V->Option α):(zCL x).bind f=Option.rec none (fun o=>EO.rec (fun _ _=>none) (fun _=>none) f (fun _ _ _=>none) o) x:=by
 cases x with
 | none=>rfl
 | some o=>cases o<;>rfl
theorem zbu {α:Type} (x:Option EO) (f:V×Fn (Option O)×Nat->Option α):(zAE x).bind f=Option.rec none (fun o=>EO.rec (fun _ _=>none) (fun _=>none) (fun _=>none) (fun v h n=>f (v,h,n)) o) x:=by
 cases x with
 | none=>rfl
 | some o=>cases o<;>rfl
noncomputable def valsE (v:V) (s:E):EO:=E.rec (fun _ _ _ _ heap nxt _=>EO.vals v heap nxt) s
theorem zcj (v:V) (s:E):EO.vals v s.heap s.nxt=valsE v s:=by cases s;rfl
theorem zcy {α:Type} (b:Bool) (f:Unit->Option α):(ask b).bind f=Bool.rec none (f ()) b:=by cases b<;>rfl
theorem zdr {α:Type} (b:Bool) (x y:α):(if b=true then x else y)=Bool.rec y x b:=by cases b<;>rfl
noncomputable def stE (t:Option Nat) (env:Fn V) (loc:Fn (Option (List V))) (adr:Fn (Option (Nat×Nat))) (used:Fn Bool) (heap:Fn (Option O)) (nxt bas:Nat) (v:V) (a:Option (Nat×Nat)) (c:Option (List V)) (w:Option (Nat×List V)):E:=
 Option.rec ⟨env,Option.rec loc (fun w=>loc.set w.1 (some w.2)) w,adr,Option.rec used (fun a=>used.set a.1 true) a,heap,nxt,bas⟩
  (fun t=>⟨env.set t v,(Option.rec loc (fun w=>loc.set w.1 (some w.2)) w:Fn (Option (List V))).set t c,adr.set t a,Option.rec used (fun a=>used.set a.1 true) a,heap,nxt,bas⟩) t
noncomputable def restE (R:TR) (d:Bool) (p:Nat) (t:Option Nat) (l:List ROp) (env:Fn V) (loc:Fn (Option (List V))) (adr:Fn (Option (Nat×Nat))) (used:Fn Bool) (heap:Fn (Option O)) (nxt bas:Nat) (e:Eff):Option EO:=
 Option.rec none (fun q=>EO.rec (fun _ _=>none) (fun s'=>some (.ops s')) (fun _=>none) (fun _ _ _=>none) q) (R (.ops d (p+1) l
  (Eff.rec (fun v a c w hp=>List.rec (stE t env loc adr used heap nxt bas v a c w) (fun _ _ _=>stE t env loc adr used (E.hpSet heap hp) nxt bas v a c w) hp) e)))
theorem zgf (R:TR) (d:Bool) (p:Nat) (t:Option Nat) (g:Option (Nat×Bool)) (op:AOp) (l:List ROp) (env:Fn V) (loc:Fn (Option (List V))) (adr:Fn (Option (Nat×Nat))) (used:Fn Bool) (heap:Fn (Option O)) (nxt bas:Nat) (e:Eff):
 evRest R d p ⟨g,t,op⟩ l ⟨env,loc,adr,used,heap,nxt,bas⟩ e=restE R d p t l env loc adr used heap nxt bas e:=by
 have h:E.apply ⟨env,loc,adr,used,heap,nxt,bas⟩ t e=Eff.rec (fun v a c w hp=>List.rec (stE t env loc adr used heap nxt bas v a c w) (fun _ _ _=>stE t env loc adr used (E.hpSet heap hp) nxt bas v a c w) hp) e:=by
  obtain⟨v,a,c,w,hp⟩:=e;cases t<;>cases hp<;>rcases a with _ | ⟨a1,a2⟩<;>rcases w with _ | ⟨w1,w2⟩<;>rfl
 unfold evRest restE;rw[zbl];simp only[h]
theorem zDo (Γ:TG) (G:TL) (R:TR) (d:Bool) (p:Nat) (g:Option (Nat×Bool)) (t:Option Nat) (op:AOp) (l:List ROp) (env:Fn V) (loc:Fn (Option (List V))) (adr:Fn (Option (Nat×Nat))) (used:Fn Bool) (heap:Fn (Option O)) (nxt bas:Nat) (h1:zhK op=none) (h2:zgy op=none):
 (Option.rec none (fun e=>Bool.rec none (restE R d p t l env loc adr used heap nxt bas e) (E.freeB ⟨env,loc,adr,used,heap,nxt,bas⟩ t e)) (zw4 G p (E.st ⟨env,loc,adr,used,heap,nxt,bas⟩) op):Option EO)=evOp Γ G R d p ⟨g,t,op⟩ l ⟨env,loc,adr,used,heap,nxt,bas⟩:=by
 simp only[evOp,h1,h2,zcy,zgf];simp only[zbF]
noncomputable def evO1 (op:AOp): {f:TG->TL->TR->Bool->Nat->Option (Nat×Bool)->Option Nat->List ROp->Fn V->Fn (Option (List V))->Fn (Option (Nat×Nat))->Fn Bool->Fn (Option O)->Nat->Nat->Option EO//
 ∀Γ G R d p g t l env loc adr used heap nxt bas,f Γ G R d p g t l env loc adr used heap nxt bas=evOp Γ G R d p ⟨g,t,op⟩ l ⟨env,loc,adr,used,heap,nxt,bas⟩}:=by
 induction op
 case call r f a=>exact⟨_,fun Γ G R d p g t l env loc adr used heap nxt bas=>by simp only[evOp,zhK,zgf,zbl,zbv,zbU,zbu,zcj,zcy];(try simp only[zbF,zdr]);rfl⟩
 case fcall f a=>exact⟨_,fun Γ G R d p g t l env loc adr used heap nxt bas=>by simp only[evOp,zhK,zgy,zgf,zbl,zbv,zbU,zbu,zcj,zcy];(try simp only[zbF,zdr]);rfl⟩
 all_goals exact⟨_,fun Γ G R d p g t l env loc adr used heap nxt bas=>by refine Eq.trans ?_ (zDo Γ G R d p g t _ l env loc adr used heap nxt bas rfl rfl);simp only[zw4,zC,zbF];rfl⟩
noncomputable def begE (s:E) (n:Nat):E:=
 E.rec (fun env loc _ _ heap nxt _=>Nat.rec ⟨env,loc,.of fun _=>none,.of fun _=>false,heap,n,0⟩ (fun m _=>⟨env,loc,.of fun _=>none,.of fun _=>false,heap,m+1+n,m+1⟩) nxt) s
theorem zoO (s:E) (n:Nat):s.begin n=begE s n:=by
 obtain⟨env,loc,adr,used,heap,nxt,bas⟩:=s;cases nxt
 ·show(⟨env,loc,_,_,heap,0+n,0⟩:E)=⟨env,loc,_,_,heap,n,0⟩;rw[Nat.zero_add]
 ·rfl
noncomputable def evC1 (c:C): {f:TG->TL->TR->E->Option EO// ∀Γ G R s,f Γ G R s=evCode Γ G R s c}:=by
 induction c<;>exact⟨_,fun Γ G R s=>by simp only[evCode,zoO,zbl,zbv,zbU,zbu,zcj,zcy];(try simp only[zbF,zdr]);rfl⟩
noncomputable def skp (env:Fn V) (loc:Fn (Option (List V))) (adr:Fn (Option (Nat×Nat))) (used:Fn Bool) (heap:Fn (Option O)) (nxt bas:Nat) (dst:Option Nat):E:=
 Option.rec ⟨env,loc,adr,used,heap,nxt,bas⟩ (fun d=>⟨env.set d .undef,loc.set d none,adr.set d none,used,heap,nxt,bas⟩) dst
theorem zpg (env:Fn V) (loc:Fn (Option (List V))) (adr:Fn (Option (Nat×Nat))) (used:Fn Bool) (heap:Fn (Option O)) (nxt bas:Nat) (dst:Option Nat):E.apply ⟨env,loc,adr,used,heap,nxt,bas⟩ dst {}=skp env loc adr used heap nxt bas dst:=by
 cases dst<;>rfl
theorem zoG (Γ:TG) (G:TL) (R:TR) (d:Bool) (p:Nat) (o:ROp) (l:List ROp) (env:Fn V) (loc:Fn (Option (List V))) (adr:Fn (Option (Nat×Nat))) (used:Fn Bool) (heap:Fn (Option O)) (nxt bas:Nat):
 (Option.rec none (fun w=>Bool.rec (Bool.rec none (Option.rec none (fun q=>EO.rec (fun _ _=>none) (fun s'=>some (.ops s')) (fun _=>none) (fun _ _ _=>none) q) (R (.ops d (p+1) l (skp env loc adr used heap nxt bas o.dst)))) (E.freeB ⟨env,loc,adr,used,heap,nxt,bas⟩ o.dst {}))
   ((evO1 o.op).1 Γ G R d p o.guard o.dst l env loc adr used heap nxt bas) w) (zxW (E.st ⟨env,loc,adr,used,heap,nxt,bas⟩) o.guard):Option EO)=evStep Γ G R (.ops d p (o::l) ⟨env,loc,adr,used,heap,nxt,bas⟩):=by
 simp only[evStep]
 cases zxW (E.st ⟨env,loc,adr,used,heap,nxt,bas⟩) o.guard with
 | none=>rfl
 | some w=>
   cases w with
   | true=>exact(evO1 o.op).2 ..
   | false=>
     simp only[zD,zG,if_false,evRest,zpg]
     cases E.freeB ⟨env,loc,adr,used,heap,nxt,bas⟩ o.dst {}with
     | false=>rfl
     | true=>
       simp only[zbl,zcy]
noncomputable def evS1 (t:ET): {f:TG->TL->TR->Option EO// ∀Γ G R,f Γ G R=evStep Γ G R t}:=by
 induction t with
 | code c s=>exact⟨fun Γ G R=>(evC1 c).1 Γ G R s,fun Γ G R=>(evC1 c).2 Γ G R s⟩
 | loop b s=>exact⟨_,fun Γ G R=>by simp only[evStep,zbl,zbv,zbU,zbu,zcj,zcy];(try simp only[zbF,zdr]);rfl⟩
 | ops d p l s=>
   induction l with
   | nil=>exact⟨_,fun Γ G R=>by simp only[evStep,zbl,zbv,zbU,zbu,zcj,zcy];(try simp only[zbF,zdr]);rfl⟩
   | cons o l _=>
     induction s with
     | mk env loc adr used heap nxt bas=>exact⟨_,fun Γ G R=>zoG Γ G R d p o l env loc adr used heap nxt bas⟩
 | pcall g a=>exact⟨_,fun Γ G R=>by simp only[evStep,zbl,zbv,zbU,zbu,zcj,zcy];(try simp only[zbF,zdr]);rfl⟩
 | rcall g a h m=>exact⟨_,fun Γ G R=>by simp only[evStep,zbl,zbv,zbU,zbu,zcj,zcy];(try simp only[zbF,zdr]);rfl⟩
noncomputable def knownT (K:Nat->List V->Option V) (t:ET):Option V:=ET.rec (fun _ _=>none) (fun _ _=>none) (fun _ _ _ _=>none) K (fun _ _ _ _=>none) t
noncomputable def ev2 (K:Nat->List V->Option V) (Γ:TG) (G:TL) (n:Nat):TR:=Nat.rec (fun _=>none) (fun _ R t=>Option.rec ((evS1 t).1 Γ G R) (fun r=>some (.val r)) (knownT K t)) n
theorem zBc {Γ:TG} {G:TL} {K:Nat->List V->Option V} (hK: ∀g args r,K g args=some r->Den Γ G g args=some r): ∀n,zdx Γ G (ev2 K Γ G n)
 | 0=>fun _ _ h=>by cases h
 | n+1=>by
   intro t o h;have h':(Option.rec ((evS1 t).1 Γ G (ev2 K Γ G n)) (fun r=>some (.val r)) (knownT K t):Option EO)=some o:=h
   cases hk:knownT K t with
   | none=>
     rw[hk]at h';have h2:(evS1 t).1 Γ G (ev2 K Γ G n)=some o:=h';rw[(evS1 t).2]at h2
     exact zhy (zBc hK n) _ _ h2
   | some r=>
     rw[hk]at h';cases h'
     cases t with
     | pcall g a=>exact zzw.1 (hK g a r hk)
     | _=>cases hk
theorem zd4 {Γ:TG} {G:TL} {K:Nat->List V->Option V} (hK: ∀g args r,K g args=some r->Den Γ G g args=some r) (n:Nat) {g:Nat} {args:List V} {r:V} (h:ev2 K Γ G n (.pcall g args)=some (.val r)):Den Γ G g args=some r:=
 zzw.2 (zBc hK n _ _ h)
end Rg
end
section
set_option maxRecDepth 100000
namespace Rg
open Go
mutual
def eqT:T->T->Bool
 | .int k a,.int l b=>decide (k=l)&&decide (a=b)
 | .bool a,.bool b=>decide (a=b)
 | .str a,.str b=>decide (a.data.toList=b.data.toList)
 | .sl a,.sl b=>zo1 a b
 | _,_=>false
def eqR:List T->List T->Bool
 | [],[]=>true
 | x::a,y::b=>eqT x y&&eqR a b
 | _,_=>false
def zo1:List (List T)->List (List T)->Bool
 | [],[]=>true
 | x::a,y::b=>eqR x y&&zo1 a b
 | _,_=>false
end
mutual
theorem znR: ∀{a b:T},eqT a b=true->a=b
 | .int k a,b,h=>by
   cases b<;>simp only[eqT,zF,decide_eq_true_eq,zG]at h
   rw[h.1,h.2]
 | .bool a,b,h=>by
   cases b<;>simp only[eqT,decide_eq_true_eq,zG]at h
   rw[h]
 | .str a,b,h=>by
   cases b<;>simp only[eqT,decide_eq_true_eq,zG]at h
   rename_i b
   have:a=b:=by
    cases a;cases b
    congr
    exact Array.toList_inj.1 h
   rw[this]
 | .sl a,b,h=>by
   cases b<;>simp only[eqT,zG]at h
   rw[zlH h]
 | .nilp,b,h=>by simp[eqT]at h
 | .nils,b,h=>by simp[eqT]at h
 | .nilm,b,h=>by simp[eqT]at h
 | .nilf,b,h=>by simp[eqT]at h
 | .nili,b,h=>by simp[eqT]at h
 | .ip _,b,h=>by simp[eqT]at h
 | .fn _ _ _,b,h=>by simp[eqT]at h
 | .fa _ _,b,h=>by simp[eqT]at h
 | .opq,b,h=>by simp[eqT]at h
 | .slc _,b,h=>by simp[eqT]at h
theorem zlI: ∀{a b:List T},eqR a b=true->a=b
 | [],[],_=>rfl
 | [],_::_,h=>by simp[eqR]at h
 | _::_,[],h=>by simp[eqR]at h
 | x::a,y::b,h=>by
   simp only[eqR,zF]at h;rw[znR h.1,zlI h.2]
theorem zlH: ∀{a b:List (List T)},zo1 a b=true->a=b
 | [],[],_=>rfl
 | [],_::_,h=>by simp[zo1]at h
 | _::_,[],h=>by simp[zo1]at h
 | x::a,y::b,h=>by
   simp only[zo1,zF]at h;rw[zlI h.1,zlH h.2]
end
def zBh:List V->Option (List T)
 | []=>some []
 | .t x::r=>(zBh r).map (x:: ·)
 | _=>none
theorem zfg: ∀{l:List V} {r:List T},zBh l=some r->l=r.map V.t
 | [],r,h=>by cases h;rfl
 | .t x::l,r,h=>by
   simp only[zBh,zE]at h;obtain⟨y,hy,rfl⟩:=h
   rw[zfg hy];rfl
 | .ms _ _ _::_,_,h=>by cases h
 | .mp _ _ _::_,_,h=>by cases h
 | .mm _::_,_,h=>by cases h
 | .yl _::_,_,h=>by cases h
 | .fn _ _ _::_,_,h=>by cases h
 | .agg _::_,_,h=>by cases h
 | .tup _::_,_,h=>by cases h
 | .undef::_,_,h=>by cases h
 | .lb::_,_,h=>by cases h
def eqV:V->V->Bool
 | .t a,.t b=>eqT a b
 | .agg a,.agg b=>match zBh a,zBh b with
   | some x,some y=>eqR x y
   | _,_=>false
 | _,_=>false
theorem zpS {a b:V} (h:eqV a b=true):a=b:=by
 unfold eqV at h;split at h
 ·rw[znR h]
 ·split at h
  ·rename_i h1 h2;rw[zfg h1,zfg h2,zlI h]
  ·cases h
 ·cases h
def zo0:List V->List V->Bool
 | [],[]=>true
 | x::a,y::b=>eqV x y&&zo0 a b
 | _,_=>false
theorem zlG: ∀{a b:List V},zo0 a b=true->a=b
 | [],[],_=>rfl
 | [],_::_,h=>by simp[zo0]at h
 | _::_,[],h=>by simp[zo0]at h
 | x::a,y::b,h=>by
   simp only[zo0,zF]at h;rw[zpS h.1,zlG h.2]
def zti (l:List (Nat×List V×V)) (g:Nat) (args:List V):Option V:=(l.find? fun e=>e.1==g&&zo0 e.2.1 args).map (·.2.2)
theorem zzM {l:List (Nat×List V×V)} (h: ∀e∈l,Den Γ G e.1 e.2.1=some e.2.2): ∀g args r,zti l g args=some r->Den Γ G g args=some r:=by
 intro g args r hr;unfold zti at hr;rw[zE]at hr;obtain⟨e,he,rfl⟩:=hr;have h1:=List.find?_some he;simp only[zF,beq_iff_eq]at h1;rw[<- h1.1,<- zlG h1.2];exact h e (List.mem_of_find?_eq_some he)
end Rg
end

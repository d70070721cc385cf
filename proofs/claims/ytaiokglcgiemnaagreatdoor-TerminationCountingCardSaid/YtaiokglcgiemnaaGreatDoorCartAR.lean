/- Part of the proof of laws of relyguardlaw36. No condition. -/
import Derived.Test.YtaiokglcgiemnaaGreatDoorCartAP
import Derived.Test.YtaiokglcgiemnaaGreatDoorCartAQ
set_option linter.unusedSimpArgs false
set_option linter.unusedVariables false
section
namespace Rg
open Go
theorem zdg (p:Prog) (hs:p.sane) (hf:zw6 p=true) (k:Int) (hk:0<=k/\k<=2) (c:Config) (hc:IsK p k c):Den Γ G 354 [(zP p),vi k,(.agg [.t (ints (c).mem),.t (ints (c).at_),.t (.sl ((c).buf.map (fun b=>[.sl (b.map Entry.enc)])))])]=some (.t (.sl ((zxv p k c).map Choice.enc))):=by
 rw[zcu hc];obtain⟨⟨l1,l2,l3,l4⟩,l5⟩:=zw8 (zw9 hf).1;have AG:=zht p hs hf k hk c hc;have NU:=hc.b.lb
 (refine zw3 Γ354 rfl ?_;dsimp only[zqU])
 simp -dsimp only[go_sem,seval,AG];refine zap 309485009821345068724717440 p.threads.length (fun i f h x=>(f 8).v=vi i/\za0 h x (f 7).v 3 (zzB (zxQ p k c i))) rfl ⟨by simp -dsimp only[go_sem,seval],.inl ⟨by simp -dsimp only[go_sem,seval],rfl⟩⟩ ?_;rintro i f u H x bs hi ⟨h8,Ab⟩;have hw:=zag i (by omega);simp -dsimp only[go_sem,seval,h8];refine zw1 (fun h=> ?_) (fun h=> ?_)<;>(try rw[h])<;>(try simp only[zab]at h)<;>(try simp -dsimp only[go_sem,seval,h8])
 ·obtain⟨t,ht,HS⟩:=zad ‹i<p.threads.length›;obtain⟨_,AB,_⟩:=l5 t HS;obtain⟨b,hb,KN⟩:=zad (show i<c.buf.length by omega);have Nn:=zjm hb;obtain⟨G6,E5,_⟩:=hc.b.buf i b hb;have AZ:=zcv hf hc.b (k:=k) i;refine zap 18014398501094016 t.steps.length (fun j f' h x=>(f' 9).v=vi j/\za0 h x (f' 7).v 3 (zzB (zxQ p k c i++zy1 p c i t j))) rfl ⟨by simp -dsimp only[go_sem,seval],by simp -dsimp only[go_sem,seval,zy1,List.take_zero,List.zipIdx_nil,List.filterMap_nil,List.append_nil];exact Ab.le (by omega)⟩ ?_;clear Ab;rintro j f' u' H' x' bs' hj ⟨h9,Ab⟩;have Ay:=zag j (by omega)
  by_cases Ai:j<t.steps.length
  ·have A9:=eq_true Ai;obtain⟨s,Hm,HW⟩:=zad Ai;have Dp:=zgA p hf k c hc i t ht j s Hm;have AR:=zh0 (p:=p) (c:=c) (t:=i) Hm;have Cz:=zdU p c i t j;cases hE:zxi p c i s
   ·rw[hE]at Dp AR;simp -dsimp only[go_sem,seval,h9,h8,ht,A9,Hm,Step.enc,Dp];refine⟨by omega,by simp -dsimp only[go_sem,seval,Ay],?_⟩;simp -dsimp only[go_sem,seval,AR,List.append_nil,zG,if_false];exact Ab.le (by omega)
   ·rw[hE]at Dp AR;have v1:=Ab.valOf;have v2:=Ab.r2;have v3:=Ab.r3;have v4:=Ab.r4;have v5:=Ab.r5;simp -dsimp only[go_sem,seval,h9,h8,ht,A9,Hm,Step.enc,Dp,v1,v2,v3,v4,v5];refine zaM (Ab.upd (by omega) _) (by omega) (by rw[zdE,zM];omega) (by decide) rfl (zzA _) ?_;intro v hp hO Be As;have w1:=hO.valOf;simp -dsimp only[go_sem,seval,w1,h9];refine⟨by omega,by simp -dsimp only[go_sem,seval,Ay],?_⟩;simp -dsimp only[go_sem,seval,AR,if_true];rw[<- zQ,zdF];exact hO.le (by omega)
  ·have A9:=eq_false Ai;have:j=t.steps.length:=by omega
   subst this;simp -dsimp only[go_sem,seval,h9,h8,ht,A9];refine zap 309485009803330670215300224 b.length (fun q f h x=>(f 10).v=vi q/\za0 h x (f 7).v 3 (zzB ((zxQ p k c i++zy1 p c i t t.steps.length)++zz0 k i b q))) rfl ⟨by simp -dsimp only[go_sem,seval],by simp -dsimp only[go_sem,seval,zz0,List.take_zero,List.zipIdx_nil,List.filterMap_nil,List.append_nil];exact Ab.le (by omega)⟩ ?_;have Cz:=zdU p c i t t.steps.length;clear Ab;rintro q f3 u3 H3 x3 bs3 hq ⟨DW,Ab⟩;have HP:=zag q (by omega)
   by_cases M8:q<b.length
   ·have GQ:=eq_true M8;obtain⟨e,he,CX⟩:=zad M8;have EB:=E5 e CX;have BM:=zkL k b q e he (by omega) (fun y hy=>by have:=zaW (E5 y hy);omega);have AR:=zj0 (k:=k) (t:=i) he;have Ea:=zhB k i b q
    have CM:e.cells[0]? =some (zyk e):=by
     have:=EB.ne
     cases AU:e.cells with
     | nil=>exact absurd AU this
     | cons n r=>simp[zyk,AU]
    have Cp:0<e.cells.length:=by
     have:=EB.ne
     cases AU:e.cells with
     | nil=>exact absurd AU this
     | cons n r=>simp
    have Nb:(0:Int)<(e.cells.length:Int):=by omega
    cases hO:zyy k b q e
    ·rw[hO]at BM AR;simp -dsimp only[go_sem,seval,DW,h8,hb,GQ,BM];refine⟨by omega,by simp -dsimp only[go_sem,seval,HP],?_⟩;simp -dsimp only[go_sem,seval,AR,List.append_nil,zG,if_false];exact Ab.le (by omega)
    ·rw[hO]at BM AR;have v1:=Ab.valOf;have v2:=Ab.r2;have v3:=Ab.r3;have v4:=Ab.r4;have v5:=Ab.r5;simp -dsimp only[go_sem,seval,DW,h8,hb,GQ,BM,he,Entry.enc,CM,Nb,v1,v2,v3,v4,v5];refine zaM (Ab.upd (by omega) _) (by omega) (by rw[zdE,zM,zM];omega) (by decide) rfl (zzA _) ?_;intro v hp Oe Be As;have w1:=Oe.valOf;simp -dsimp only[go_sem,seval,w1,DW];refine⟨by omega,by simp -dsimp only[go_sem,seval,HP],?_⟩;simp -dsimp only[go_sem,seval,AR,if_true];rw[<- zQ,zdF];exact Oe.le (by omega)
   ·have GQ:=eq_false M8;have:q=b.length:=by omega
    subst this;simp -dsimp only[go_sem,seval,DW,h8,hb,GQ];refine⟨by omega,by simp -dsimp only[go_sem,seval,hw],?_⟩;simp -dsimp only[go_sem,seval];rw[zdh ht,Nn,<- zQ];exact Ab.le (by omega)
 ·have:i=p.threads.length:=by omega
  subst this;have v1:=Ab.valOf;have Bk:=Ab.reify (zzx _);have v5:=Ab.resVal;simp only[Rg.resVal]at v5;simp -dsimp only[go_sem,seval,v1,v5];exact Bk
end Rg
end
section
namespace Rg
open Go
theorem zhp (l:Loop) (hl:l.body.length<2^40) (a:Int):Den Γ G 359 [(.agg [.t (ti (l).head),.t (ints (l).body),.t (ti ((l).variant).op),.t (ti ((l).variant).w),.t (ti ((l).variant).n),.t (.sl (((l).variant).kids.map Expr.enc))]),vi a]=some (vb (zxj l a)):=by
 (refine zw3 Γ359 rfl ?_;dsimp only[zqP])
 have h1:=zcx l.body a hl
 by_cases ha:a=l.head
 ·have:zxj l a=true:=by simp[zxj,ha]
  rw[this];simp -dsimp only[go_sem,seval,ha]
 ·have:zxj l a=l.body.contains a:=by simp[zxj,ha]
  rw[this];simp -dsimp only[go_sem,seval,ha,h1]
theorem zla (k:Int) (hk:0<=k/\k<=2):Den Γ G 358 [vi k]=some (vb true):=by
 (refine zw3 Γ358 rfl ?_;dsimp only[zqQ])
 rcases(show k=0\/k=1\/k=2 by omega)with rfl | rfl | rfl
 ·simp -dsimp only[go_sem,seval]
 ·simp -dsimp only[go_sem,seval]
 ·simp -dsimp only[go_sem,seval]
theorem znk {h:Nat->Option O} {key:Nat} {l:List Int} {K:V->List (Nat×O)->Prop} {w:WK K} (hl:l.length<2^31)
 (hK: ∀v hp,za0 (Av h hp) (key+1) v 1 (zw5 l)->(∀j,j≠key->Av h hp j=h j)->(∀j,j≠key->zdc v j)->(Rg.valOf v=some v/\V.cells v=some [v])->K v hp):zpM (Γ:=Γ) (G:=G) false h key 32 [.t (ints l)] K w:=by
 obtain⟨r,h',n',C1,Ab,_,_⟩:=zeD l hl (fun _=>none) 0;refine zd0 (es:=l.map fun n=>[ti n]) rfl rfl ⟨r,h',n',C1,Ab⟩ fun v hp o a b=>hK v hp o a b ?_
 rcases o with⟨rfl,_⟩ | ⟨k,rfl,_⟩<;>exact⟨rfl,rfl⟩
def zkh (h:Nat->Option O) (lo hi:Nat) (v:V) (rows:List (List V)):Prop:=
 (v= .t .nils/\rows=[])\/ ∃k,v= .ms k 0 rows.length/\lo<=k/\k<hi/\h k=some (.rows 1 rows false)
theorem zkh.keep {h h':Nat->Option O} {lo hi:Nat} {v:V} {rows:List (List V)} (o:zkh h lo hi v rows) (hh: ∀k,lo<=k->k<hi->h' k=h k):zkh h' lo hi v rows:=by
 rcases o with o | ⟨k,h1,h2,h3,h4⟩
 ·exact .inl o
 ·exact .inr ⟨k,h1,h2,h3,by rw[hh k h2 h3];exact h4⟩
theorem zkh.val {h:Nat->Option O} {lo hi:Nat} {v:V} {rows:List (List V)} (o:zkh h lo hi v rows):Rg.valOf v=some v/\V.cells v=some [v]:=by
 rcases o with⟨rfl,_⟩ | ⟨k,rfl,_⟩<;>exact⟨rfl,rfl⟩
theorem zkh.tree {h:Nat->Option O} {lo hi:Nat} {v:V} {l:List Int} (o:zkh h lo hi v (zw5 l)) (d:Nat):toT h (d+1) v=some (ints l):=by
 rcases o with⟨rfl,he⟩ | ⟨k,rfl,_,_,hh⟩
 ·have:l=[]:=by
   have:=congrArg List.length he;rw[zw2]at this;exact List.eq_nil_of_length_eq_zero this
  subst this;rfl
 ·have Cu:List.take (zw5 l).length (zw5 l)=zw5 l:=zaC rfl;simp only[toT,hh,rd,Nat.zero_add,Nat.le_refl,if_true,List.drop_zero,Cu,zC,zD,zaL]
def zvO (h:Nat->Option O) (x:Nat) (vM vA:V) (kB:Nat) (c:Config):Prop:=
 ∃x1 x2 bd vs,zkh h 0 x1 vM (zw5 c.mem)/\zkh h x1 x2 vA (zw5 c.at_)/\x1<=x2/\x2<=kB/\kB<bd 0/\h kB=some (.rows 1 vs false)/\BufsV h bd vs c.buf/\bd c.buf.length<=x
theorem zBf (p:Prog) (hf:zw6 p=true) (c:Config) (hc:IsB p c) (nx:Nat):
 ∃r h' n',DenR Γ G 356 [(.agg [.t (ints (c).mem),.t (ints (c).at_),.t (.sl ((c).buf.map (fun b=>[.sl (b.map Entry.enc)])))])] (fun _=>none) nx=some (r,h',n')/\ ∃vM vA kB,r= .agg [vM,vA,.ms kB 0 c.buf.length]/\zvO h' n' vM vA kB c:=by
 obtain⟨⟨m1,m2,m3,m4⟩,_⟩:=zw8 (zw9 hf).1;have l1:=hc.lm;have l2:=hc.la;have l3:=hc.lb;have e3:(c.buf.length:Int)<=4294967296:=by omega
 (refine zxC Γ356 rfl ?_;dsimp only[zqS])
 simp -dsimp only[go_sem,seval];refine znk (by omega) ?_;rintro vM EW M4 Pd G4 ⟨AY,CZ⟩;simp -dsimp only[go_sem,seval,AY];refine znk (by omega) ?_;rintro vA Es M3 Dm IL ⟨D3,C2⟩;unfold V.cells at CZ C2;simp -dsimp only[go_sem,seval,AY,CZ,D3,C2,e3,Int.le_refl]
 generalize P2:Av (Av (fun _=>none) EW) Es=H0 at *
 refine zap 2305843009213431920 c.buf.length (fun i f h x=>(f 4).v=vi i/\ ∃bd vs,h (nx+2+9)=some (.rows 1 (vs++List.replicate (c.buf.length-i) [.t .nils]) false)/\BufsV h bd vs (c.buf.take i)/\bd 0=nx+2+10/\bd i<=x/\(∀k,k<nx+2+9->h k=H0 k)) rfl ?_ ?_
 ·refine⟨by simp -dsimp only[go_sem,seval],fun _=>nx+2+10,[],by simp -dsimp only[go_sem,seval,List.nil_append,Nat.sub_zero],⟨rfl,fun q hq=>Nat.le_refl _,fun q b hb=>by simp at hb⟩,rfl,by simp -dsimp only[go_sem,seval];omega,?_⟩;intro k hk;have:k≠nx+2+9:=by omega
  simp -dsimp only[go_sem,seval,this]
 rintro i f u Ho x bs hi ⟨E6,bd,vs,hB,Ax,Cc,Hc,AE⟩;have hw:=zag i (by omega);simp -dsimp only[go_sem,seval,E6];refine zw1 (fun h=> ?_) (fun h=> ?_)<;>(try rw[h])<;>(try simp only[zab]at h)<;>(try simp -dsimp only[go_sem,seval,E6])
 ·obtain⟨b,hb,KN⟩:=zad ‹i<c.buf.length›;obtain⟨b1,b2,_⟩:=hc.buf i b hb
  have Ad:List.replicate (c.buf.length-i) [V.t T.nils]=[V.t T.nils]::List.replicate (c.buf.length-i-1) [V.t T.nils]:=by
   rw[<- List.replicate_succ];congr 1;omega
  have JC:vs.length=i:=by rw[Ax.len,List.length_take];omega
  have CV:nx+2+9<x:=by have:=Ax.le (q:=0) (r:=i) (by omega) (by rw[List.length_take];omega);omega
  refine zap 2305843009180139616 b.length (fun j f' h' x'=>(f' 5).v=vi j/\ ∃v,h' (nx+2+9)=some (.rows 1 (vs++[v]::List.replicate (c.buf.length-i-1) [.t .nils]) false)/\zhU h' x x' v (b.take j)/\x<=x'/\(∀k,k<x->k≠nx+2+9->h' k=Ho k)) rfl ?_ ?_
  ·refine⟨by simp -dsimp only[go_sem,seval],.t .nils,by simp -dsimp only[go_sem,seval,hB,Ad],⟨[],.inl ⟨rfl,rfl⟩,by simp,by simp,by simp⟩,by simp -dsimp only[go_sem,seval];omega,fun k _ _=>rfl⟩
  rintro j f' u' Hi x' bs' hj ⟨Hg,v,Je,E4,Or,Dn⟩;have Ay:=zag j (by omega);simp -dsimp only[go_sem,seval,Hg,E6,hb];refine zw1 (fun h=> ?_) (fun h=> ?_)<;>(try rw[h])<;>(try simp only[zab]at h)<;>(try simp -dsimp only[go_sem,seval,Hg,E6,hb])
  ·obtain⟨e,he,CX⟩:=zad ‹j<b.length›;have Cr:=b2 e CX;have Cm:=zaW Cr
   have Bu:(vs++[v]::List.replicate (c.buf.length-i-1) [V.t T.nils])[i]? =some [v]:=by
    rw[List.getElem?_append_right (by omega),JC,Nat.sub_self];rfl
   obtain⟨B3,Fs⟩:=E4.val;have D1:(i:Int)<(c.buf.length:Int):=by omega
   have DM:(0:Int)<=(i:Int):=by omega
   simp -dsimp only[go_sem,seval,Hg,E6,hb,he,Entry.enc,Je,Bu,D1,DM,B3];refine znk (by omega) ?_;rintro vc Er M2 MN Jw ⟨Bn,Bd⟩;simp -dsimp only[go_sem,seval,Bn];refine znk (by have:=Cr.len;omega) ?_;rintro vv EV Kb KA KE ⟨CO,C6⟩;unfold V.cells at Bd C6;obtain⟨rows,By,AW,BX,Bk⟩:=E4
   have hG: ∀k,k<x'->updC (Av (Av Hi Er) EV) (x'+8+10+15) (some (O.rows 2 [[vc,vv]] false)) k=Hi k:=fun k hk=>by
    rw[zae,if_neg (by omega),KA k (by omega),MN k (by omega)]
   have Kc:za0 (updC (Av (Av Hi Er) EV) (x'+8+10+15) (some (O.rows 2 [[vc,vv]] false))) (x'+8+10+16) v 2 rows:=by
    rcases By with h | ⟨k,h1,h2,h3,h4⟩
    ·exact .inl h
    ·exact .inr ⟨k,h1,by omega,by rw[hG k h3];exact h4⟩
   have AA:=Kc.rowsS;simp -dsimp only[go_sem,seval,B3,Bn,Bd,CO,C6,AA];have Aa:(rows.all fun r=>decide (r.length=2))=true:=by simpa using BX
   refine zaM Kc (Nat.le_refl _) (by have:=Ax.len;rw[AW,List.length_take];omega) (by decide) rfl Aa ?_;intro v2 hp hO Be As;rcases hO with⟨_,CG⟩ | ⟨k2,rfl,AX,CC⟩
   ·simp at CG
   have Gb:x'+8+10+16<=k2:=by
    rcases Nat.lt_or_ge k2 (x'+8+10+16)with h1 | h1
    ·exact absurd rfl (Be k2 h1 0 _)
    ·exact h1
   have B0: ∀k,(k<x\/x'<=k\/ ∀rs fz,Hi k≠some (O.rows 2 rs fz))->zdc v k:=by
    intro k hk;rcases By with⟨rfl,_⟩ | ⟨k',rfl,h2,h3,h4⟩
    ·intro i n h0;cases h0
    ·refine zyp ?_ _ _;rintro rfl;rcases hk with hk | hk | hk
     ·omega
     ·omega
     ·exact hk _ _ h4
   have DH: ∀k,k<x'->(k<x\/ ∀rs fz,Hi k≠some (O.rows 2 rs fz))->Av (updC (Av (Av Hi Er) EV) (x'+8+10+15) (some (O.rows 2 [[vc,vv]] false))) hp k=Hi k:=by
    intro k hk Ag;rw[As k (by omega) (B0 k (by rcases Ag with h | h;exact .inl h;exact .inr (.inr h))),hG k hk]
   have Hf:=DH (nx+2+9) (by omega) (.inl (by omega));rw[Je]at Hf
   have En:(vs++[v]::List.replicate (c.buf.length-i-1) [V.t T.nils]).set i [V.ms k2 0 (rows++[[vc,vv]]).length]=vs++[V.ms k2 0 (rows++[[vc,vv]]).length]::List.replicate (c.buf.length-i-1) [V.t T.nils]:=by
    rw[List.set_append_right _ _ (by omega),JC,Nat.sub_self];rfl
   simp -dsimp only[go_sem,seval,Hg,E6,Hf,Bu,D1,DM,En];have CW: ∀(o:Option O) k,k≠nx+2+9->updC (Av (updC (Av (Av Hi Er) EV) (x'+8+10+15) (some (O.rows 2 [[vc,vv]] false))) hp) (nx+2+9) o k=Av (updC (Av (Av Hi Er) EV) (x'+8+10+15) (some (O.rows 2 [[vc,vv]] false))) hp k:=fun o k hk=>by rw[zae,if_neg hk]
   have Gn: ∀(o:Option O) x'',k2<x''->zhU (updC (Av (updC (Av (Av Hi Er) EV) (x'+8+10+15) (some (O.rows 2 [[vc,vv]] false))) hp) (nx+2+9) o) x x'' (.ms k2 0 (rows++[[vc,vv]]).length) (b.take (j+1)):=by
    intro o x'' HN;refine⟨rows++[[vc,vv]],.inr ⟨k2,rfl,by omega,HN,by rw[CW _ _ (by omega)];exact CC⟩,by rw[zM,AW,List.length_take,List.length_take];simp;omega,?_,?_⟩
    ·intro r hr;rcases List.mem_append.1 hr with hr | hr
     ·exact BX r hr
     ·rw[List.mem_singleton]at hr;rw[hr];rfl
    ·intro q e0 hq;rw[zac he]at hq;have Bt:(b.take j).length=j:=by rw[List.length_take];omega
     rcases Nat.lt_or_ge q j with h1 | h1
     ·rw[List.getElem?_append_left (by omega)]at hq;obtain⟨r,hr,hE⟩:=Bk q e0 hq;refine⟨r,by rw[List.getElem?_append_left (by rw[AW];omega)];exact hr,hE.keep (Nat.le_refl _) (by omega) fun k a1 a2 a3=> ?_⟩;rw[CW _ _ (by omega),DH k a2 (.inr a3)]
     ·have If:q=j:=by
       have:=(zH.1 hq).1;rw[zM,Bt,List.length_singleton]at this;omega
      subst If;rw[List.getElem?_append_right (by omega),Bt,Nat.sub_self]at hq;simp only[List.getElem?_cons_zero,zA]at hq;subst hq;refine⟨[vc,vv],by rw[List.getElem?_append_right (by rw[AW,Bt];exact Nat.le_refl _),AW,Bt,Nat.sub_self];rfl,?_⟩;have MX:zw5 e.cells≠[]:=fun h0=>Cr.ne (List.eq_nil_of_length_eq_zero (by rw[<- zw2,h0];rfl))
      have Aj:zw5 e.values≠[]:=fun h0=>Cr.ne (List.eq_nil_of_length_eq_zero (by rw[<- Cr.len,<- zw2,h0];rfl))
      rcases M2 with⟨_,h0⟩ | ⟨kc,rfl,Dx,I7⟩
      ·exact absurd h0 MX
      rcases Kb with⟨_,h0⟩ | ⟨kv,rfl,Eu,I1⟩
      ·exact absurd h0 Aj
      have qc:kc=x'+8+10+10:=by
       rcases Nat.decEq kc (x'+8+10+10)with h1 | h1
       ·exact absurd rfl (Jw kc h1 0 _)
       ·exact h1
      have qv:kv=x'+8+10+13:=by
       rcases Nat.decEq kv (x'+8+10+13)with h1 | h1
       ·exact absurd rfl (KE kv h1 0 _)
       ·exact h1
      refine⟨kc,kv,by rw[zw2,zw2],by omega,by omega,by omega,by omega,?_,?_⟩
      ·rw[CW _ _ (by omega),As kc (by omega) (B0 kc (.inr (.inl (by omega)))),zae,if_neg (by omega),KA kc (by omega)];exact I7
      ·rw[CW _ _ (by omega),As kv (by omega) (B0 kv (.inr (.inl (by omega)))),zae,if_neg (by omega)];exact I1
   refine⟨by omega,by simp -dsimp only[go_sem,seval,Ay],.ms k2 0 (rows++[[vc,vv]]).length,by simp -dsimp only[go_sem,seval],?_,by simp -dsimp only[go_sem,seval];omega,?_⟩
   ·simp -dsimp only[go_sem,seval];exact Gn _ _ (by omega)
   intro k hk Ky;simp -dsimp only[go_sem,seval,CW _ k Ky];rw[DH k (by omega) (.inl hk)];exact Dn k hk Ky
  ·have:j=b.length:=by omega
   subst this;rw[List.take_length]at E4;have Cu:c.buf.take (i+1)=c.buf.take i++[b]:=zac hb;have FT:(c.buf.take i).length=i:=by rw[List.length_take];omega
   have Gz:=Ax.snoc (h':=Hi) (x:=x') (v:=v) (b:=b) (by rw[FT];omega) (fun k k1 k2=>by rw[FT]at k2;exact Dn k (by omega) (by omega)) (by
    rw[FT];obtain⟨rows,By,AW,BX,Bk⟩:=E4;refine⟨rows,?_,AW,BX,fun q e0 hq=> ?_⟩
    ·rcases By with h | ⟨k,h1,h2,h3,h4⟩
     ·exact .inl h
     ·exact .inr ⟨k,h1,by omega,h3,h4⟩
    ·obtain⟨r,hr,hE⟩:=Bk q e0 hq
     exact⟨r,hr,hE.keep Hc (Nat.le_refl _) fun _ _ _ _=>rfl⟩)
   rw[FT,<- Cu]at Gz;refine⟨by omega,by simp -dsimp only[go_sem,seval,hw,E6],_,vs++[[v]],?_,Gz,by rw[if_pos (Nat.zero_le _)];exact Cc,by rw[if_neg (by omega)];simp -dsimp only[go_sem,seval];omega,?_⟩
   ·simp -dsimp only[go_sem,seval,Je];rw[zQ];rfl
   ·intro k hk;simp -dsimp only[go_sem,seval,Dn k (by omega) (by omega)];exact AE k hk
 ·have C0:i=c.buf.length:=by omega
  subst C0;rw[Nat.sub_self,List.replicate_zero,List.append_nil]at hB;rw[List.take_length]at Ax
  have hM:zkh Ho 0 (nx+5) vM (zw5 c.mem):=by
   rcases M4 with h1 | ⟨k,h1,h2,h3⟩
   ·exact .inl h1
   ·exact .inr ⟨k,h1,by omega,by omega,by rw[AE k (by omega),Dm k (by omega)];exact h3⟩
  have hA:zkh Ho (nx+5) (nx+8) vA (zw5 c.at_):=by
   rcases M3 with h1 | ⟨k,h1,h2,h3⟩
   ·exact .inl h1
   ·have hk:k=nx+2+5:=by
     rcases Nat.decEq k (nx+2+5)with h4 | h4
     ·subst h1;exact absurd rfl (IL k h4 0 _)
     ·exact h4
    exact .inr ⟨k,h1,by omega,by omega,by rw[AE k (by omega)];exact h3⟩
  refine⟨vM,vA,nx+2+9,rfl,nx+5,nx+8,bd,vs,hM,hA,by omega,by omega,by omega,hB,Ax,by simp -dsimp only[go_sem,seval];omega⟩
def noF:Option O->Option O
 | some (.rows sz rs _)=>some (.rows sz rs true)
 | o=>o
theorem zc2 {o:Option O} {sz:Nat} {rs:List (List V)} {f:Bool} (h:noF o=noF (some (.rows sz rs f))): ∃f',o=some (.rows sz rs f'):=by
 match o with
 | none=>cases h
 | some (.rows sz' rs' f')=>cases h;exact⟨f',rfl⟩
 | some (.map _)=>cases h
 | some (.loop _ _ _ _)=>cases h
 | some (.raw _)=>cases h
 | some .dead=>cases h
theorem zk0 {a b:Option O} (h:noF a=noF b):a=b\/ ∃sz rs f f',a=some (.rows sz rs f)/\b=some (.rows sz rs f'):=by
 match a,b with
 | some (.rows sz rs f),b=>
   obtain⟨f',rfl⟩:=zc2 h.symm
   exact .inr ⟨sz,rs,f,f',rfl,rfl⟩
 | a,some (.rows sz rs f)=>
   obtain⟨f',rfl⟩:=zc2 h
   exact .inr ⟨sz,rs,f',f,rfl,rfl⟩
 | none,none=>exact .inl rfl
 | none,some (.map _)=>cases h
 | none,some (.loop _ _ _ _)=>cases h
 | none,some (.raw _)=>cases h
 | none,some .dead=>cases h
 | some (.map _),none=>cases h
 | some (.loop _ _ _ _),none=>cases h
 | some (.raw _),none=>cases h
 | some .dead,none=>cases h
 | some (.map _),some (.map _)=>exact .inl h
 | some (.map _),some (.loop _ _ _ _)=>exact .inl h
 | some (.map _),some (.raw _)=>exact .inl h
 | some (.map _),some .dead=>exact .inl h
 | some (.loop _ _ _ _),some (.map _)=>exact .inl h
 | some (.loop _ _ _ _),some (.loop _ _ _ _)=>exact .inl h
 | some (.loop _ _ _ _),some (.raw _)=>exact .inl h
 | some (.loop _ _ _ _),some .dead=>exact .inl h
 | some (.raw _),some (.map _)=>exact .inl h
 | some (.raw _),some (.loop _ _ _ _)=>exact .inl h
 | some (.raw _),some (.raw _)=>exact .inl h
 | some (.raw _),some .dead=>exact .inl h
 | some .dead,some (.map _)=>exact .inl h
 | some .dead,some (.loop _ _ _ _)=>exact .inl h
 | some .dead,some (.raw _)=>exact .inl h
 | some .dead,some .dead=>exact .inl h
theorem zB3 {h h':Nat->Option O} (hh: ∀k,noF (h k)=noF (h' k)): ∀(d:Nat) (v:V),toT h d v=toT h' d v:=by
 intro d
 induction d with
 | zero=>intro v;cases v<;>simp only[toT]
 | succ d ih=>
   intro v;have he:toT h d=toT h' d:=funext ih
   match v with
   | .t x=>simp only[toT]
   | .ms k i n=>
     rcases zk0 (hh k)with e | ⟨sz,rs,f,f',e1,e2⟩
     ·simp only[toT,e,he]
     ·simp only[toT,e1,e2,he]
   | .mp k i n=>
     rcases zk0 (hh k)with e | ⟨sz,rs,f,f',e1,e2⟩
     ·simp only[toT,e,he]
     ·simp only[toT,e1,e2,he]
   | .fn f a b=>simp only[toT,he]
   | .mm k=>
     rcases zk0 (hh k)with e | ⟨sz,rs,f,f',e1,e2⟩
     ·simp only[toT,e]
     ·simp only[toT,e1,e2]
   | .yl k=>simp only[toT]
   | .agg cs=>simp only[toT]
   | .tup cs=>simp only[toT]
   | .undef=>simp only[toT]
   | .lb=>simp only[toT]
theorem zls (h:Nat->Option O): ∀(l:List Nat) (g:Nat->Option O) (k:Nat),noF (g k)=noF (h k)->noF (Av g (freezes h l) k)=noF (h k)
 | [],g,k,hg=>by simpa only[freezes,List.filterMap_nil,zar]using hg
 | q::l,g,k,hg=>by
   have ih:=zls h l;unfold freezes at ih⊢;rw[List.filterMap_cons];split
   ·exact ih g k hg
   ·rename_i b hb;rw[zav];split at hb
    ·rename_i sz rs f hq;cases hb;refine ih _ k ?_;rw[zae];split
     ·rename_i OW;rw[OW,hq];rfl
     ·exact hg
    ·cases hb
theorem zlr (h:Nat->Option O): ∀(l:List Nat) (g:Nat->Option O) (k:Nat),k∉ l->Av g (freezes h l) k=g k
 | [],g,k,_=>by simp only[freezes,List.filterMap_nil,zar]
 | q::l,g,k,hk=>by
   have ih:=zlr h l;unfold freezes at ih⊢;rw[List.filterMap_cons];simp only[List.mem_cons,not_or]at hk;split
   ·exact ih g k hk.2
   ·rename_i b hb;rw[zav];split at hb
    ·cases hb;rw[ih _ k hk.2,zae,if_neg hk.1]
    ·cases hb
theorem zoH {r:V} {h:Nat->Option O} {vs:List V} {K:V->(Nat->Option O)->Prop} {w:WK K} (hk: ∀H',(∀k,noF (H' k)=noF (h k))->(∀k,k∉ vs.flatMap (zxp h)->H' k=h k)->K r H'):ziv (some r) false h vs K w:=by
 unfold ziv;simp only;split
 ·exact hk _ (fun _=>rfl) fun _ _=>rfl
 ·exact⟨fun h=>Bool.noConfusion h,hk _ (fun k=>zls h _ h k rfl) fun k hk=>zlr h _ h k hk⟩
theorem zdq {h:Nat->Option O} {k:Nat} {l:List Int} {f:Bool} {i n d:Nat} (hk:h k=some (.rows 1 (zw5 l) f)):zx0 h (d+1) (.ms k i n)=[k]:=by
 have hf: ∀r∈zw5 l,∀v∈r,V.tree v=true:=by
  intro r hr v hv;obtain⟨b,hb,rfl⟩:=List.mem_map.1 hr;obtain⟨n,_,rfl⟩:=List.mem_map.1 hb;simp at hv;subst hv;rfl
 simp only[zx0,hk,zfI h d hf]
theorem zf1 {α:Type} {l:List α} {i i0:Nat} {a:α} (h:l[i]? =some a):(l.take (i+1)).eraseIdx i0=if i=i0 then(l.take i).eraseIdx i0 else(l.take i).eraseIdx i0++[a]:=by
 have hl:(l.take i).length=i:=by rw[List.length_take];have:=(zH.1 h).1;omega
 rw[zac h];split
 ·rename_i e;subst e;rw[List.eraseIdx_append_of_length_le (by omega),hl,Nat.sub_self,List.eraseIdx_of_length_le (l:=List.take i l) (by omega)];simp
 ·rename_i e;rcases Nat.lt_or_ge i i0 with h1 | h1
  ·rw[List.eraseIdx_of_length_le (by rw[zM,hl,List.length_singleton];omega),List.eraseIdx_of_length_le (by omega)]
  ·rw[List.eraseIdx_append_of_lt_length (by omega)]
theorem zhF (p:Prog) (hf:zw6 p=true) (c:Config) (hc:IsB p c) (t:Nat) (ht:t<p.threads.length) (i0:Nat) (e:Entry) (he:(zxq c t)[i0]? =some e)
 (Do: ∀(j:Nat) (f:Entry),j<i0->(zxq c t)[j]? =some f->zyk f≠zyk e):
 Den Γ G 355 [(.agg [.t (ints (c).mem),.t (ints (c).at_),.t (.sl ((c).buf.map (fun b=>[.sl (b.map Entry.enc)])))]),vi t,vi (zyk e)]=some (.agg [.t (ints (zxr c t i0).mem),.t (ints (zxr c t i0).at_),.t (.sl ((zxr c t i0).buf.map (fun b=>[.sl (b.map Entry.enc)])))]):=by
 obtain⟨⟨m1,m2,m3,m4⟩,_⟩:=zw8 (zw9 hf).1;have Cp:=(zxV hf).1;have l1:=hc.lm;have l2:=hc.la;have l3:=hc.lb;have Ae:=zx4 (c:=c) (t:=t) (by omega);obtain⟨b1,b2,_⟩:=hc.buf t _ Ae;have Cb:=(zH.1 he).1;have EB:=b2 e (zL he)
 (refine zw3 Γ355 rfl ?_;dsimp only[zqT])
 simp -dsimp only[go_sem,seval];refine zas (zBf p hf c hc _) ?_;rintro r h' n' ⟨vM,vA,kB,rfl,x1,x2,bd,vs,hM,hA,CK,Ba,AX,hB,Ax,Hb⟩;obtain⟨NE,B9⟩:=hM.val;obtain⟨Bn,Bd⟩:=hA.val;obtain⟨v,hv,rows,By,AW,BX,Bk⟩:=Ax.at_ t _ Ae;have N6:=Ax.le (q:=0) (r:=t) (by omega) (by omega);have N5:=Ax.le (q:=t+1) (r:=c.buf.length) (by omega) (Nat.le_refl _);rcases By with⟨rfl,h0⟩ | ⟨kb,rfl,b3,b4,b5⟩
 ·exfalso;rw[h0]at AW;simp at AW;omega
 unfold V.cells at B9 Bd;have t0:(0:Int)<=(t:Int):=by omega
 have t1:(t:Int)<(c.buf.length:Int):=by omega
 simp -dsimp only[go_sem,seval,NE,B9,Bn,Bd]
 refine zap 2251799813672832 rows.length (fun i f h z=>(f 10).v=vi i/\(f 9).v=vb (decide (i0<i))/\(f 7).v= .lb/\(f 7).box=some [if i0<i then .t (ints (zz2 c.mem e))else vM,vA,.ms kB 0 c.buf.length]/\
  za0 h z (f 8).v 2 ((rows.take i).eraseIdx i0)/\(∀q,q<n'->noF (h q)=noF (h' q)/\zdc (f 8).v q)/\h kB=some (.rows 1 vs false)/\n'<=z) rfl
  ⟨by simp -dsimp only[go_sem,seval],by simp -dsimp only[go_sem,seval,Nat.not_lt_zero,decide_false],by simp -dsimp only[go_sem,seval],by simp -dsimp only[go_sem,seval,Nat.not_lt_zero,if_false],.inl ⟨by simp -dsimp only[go_sem,seval],by simp⟩,fun q hq=>⟨by simp -dsimp only[go_sem,seval],by simp -dsimp only[go_sem,seval];intro i n h;cases h⟩,by simp -dsimp only[go_sem,seval,hB],by simp -dsimp only[go_sem,seval];omega⟩ ?_
 rintro i f u H z bs hi ⟨DW,h9,h7,G8,Ab,AE,J2,hz⟩;have hw:=zag i (by omega);obtain⟨fb,CV⟩: ∃f',H kb=some (.rows 2 rows f'):=zc2 (by rw[(AE kb (by omega)).1,b5])
 by_cases Ai:i<rows.length
 ·have A9:=eq_true Ai;obtain⟨g,hg,Jt⟩:=zad (show i<(zxq c t).length by omega);obtain⟨r,hr,kc,kv,rfl,a1,a2,a3,a4,a5,a6⟩:=Bk i g hg;have NL:=b2 g Jt;obtain⟨fc,Dx⟩: ∃f',H kc=some (.rows 1 (zw5 g.cells) f'):=zc2 (by rw[(AE kc (by omega)).1,a5]);obtain⟨fv,Eu⟩: ∃f',H kv=some (.rows 1 (zw5 g.values) f'):=zc2 (by rw[(AE kv (by omega)).1,a6])
  have CM:(zw5 g.cells)[0]? =some [vi (zyk g)]:=by
   have:=NL.ne
   cases AU:g.cells with
   | nil=>exact absurd AU this
   | cons n l=>simp[zyk,AU,zw5]
  have KJ:(0:Int)<(g.cells.length:Int):=by
   have:=List.length_pos_iff.2 NL.ne;omega
  have i0':(0:Int)<=(i:Int):=by omega
  have i1':(i:Int)<(rows.length:Int):=by omega
  by_cases Lw:i=i0
  ·subst Lw;rw[he]at hg;cases hg;have d0:decide (i<i)=false:=by simp
   rw[d0]at h9;rw[if_neg (Nat.lt_irrefl i)]at G8
   have hT:toT H 1000=toT (fun q=>if q<n' then h' q else H q) 1000:=funext (zB3 (fun q=>by
    show noF (H q)=noF (if q<n' then h' q else H q);split
    ·exact(AE q ‹_›).1
    ·rfl) 1000)
   have Py:toT1 H vM=some (.t (ints c.mem)):=by
    have h3:=(hM.keep (h':=fun q=>if q<n' then h' q else H q) fun q q1 q2=>by rw[if_pos (by omega)]).tree 999;rw[<- hT]at h3;rcases hM with⟨rfl,_⟩ | ⟨k,rfl,_⟩<;>simp only[toT1,h3,Option.map_some]
   have Pu:toT1 H (.agg [.ms kc 0 e.cells.length,.ms kv 0 e.values.length])=some (.agg [.t (ints e.cells),.t (ints e.values)]):=by
    have hE:znY h' (bd t) (bd (t+1)) [.ms kc 0 e.cells.length,.ms kv 0 e.values.length] e:=⟨kc,kv,rfl,a1,a2,a3,a4,a5,a6⟩
    have h3:=(hE.keep (h':=fun q=>if q<n' then h' q else H q) (Nat.le_refl _) (Nat.le_refl _) fun q q1 q2 _=>by rw[if_pos (by omega)]).tree 999;rw[<- hT]at h3;simp only[toT1,h3];rfl
   have FF:=zhf c.mem e (by omega) EB.len (fun n hn=>by have:=zyw EB hn;omega) (by obtain⟨n,hn⟩:=List.exists_mem_of_ne_nil _ EB.ne;have:=(zyw EB hn).2.1;omega) (by have:=zaW EB;omega)
   have hL: ∀k∈[vM,.agg [.ms kc 0 e.cells.length,.ms kv 0 e.values.length]].flatMap (zxp H),k<n'/\k≠kB:=by
    intro k hk;simp only[List.flatMap_cons,List.flatMap_nil,List.append_nil,List.mem_append]at hk;rcases hk with hk | hk
    ·rcases hM with⟨rfl,_⟩ | ⟨kM,rfl,g1,g2,g3⟩
     ·simp[zxp,zx0]at hk
     ·obtain⟨fm,FY⟩: ∃f',H kM=some (.rows 1 (zw5 c.mem) f'):=zc2 (by rw[(AE kM (by omega)).1,g3]);rw[show zxp H (.ms kM 0 (zw5 c.mem).length)=[kM]from zdq (d:=999) (i:=0) (n:=(zw5 c.mem).length) FY]at hk;simp at hk;subst hk;omega
    ·simp only[zxp,List.flatMap_cons,List.flatMap_nil,List.append_nil,zdq (d:=999) Dx,zdq (d:=999) Eu]at hk;simp at hk;rcases hk with rfl | rfl<;>omega
   simp -dsimp only[go_sem,seval,DW,h9,h7,G8,J2,hv,t0,t1,CV,A9,i0',i1',hr,Dx,CM,KJ,NE,↓Py,↓Pu,FF];refine zoH fun H' EY Ir=> ?_
   simp -dsimp only[go_sem,seval,DW,h7,G8];have N0:H' kB=some (.rows 1 vs false):=by rw[Ir kB fun h=>(hL kB h).2 rfl];exact J2
   refine⟨by omega,by simp -dsimp only[go_sem,seval,hw],by simp -dsimp only[go_sem,seval,Nat.lt_succ_self,decide_true],by simp -dsimp only[go_sem,seval,h7],by simp -dsimp only[go_sem,seval,G8,Nat.lt_succ_self,if_true],?_,fun q hq=>⟨by simp -dsimp only[go_sem,seval,EY];exact(AE q hq).1,by simp -dsimp only[go_sem,seval];exact(AE q hq).2⟩,by simp -dsimp only[go_sem,seval,N0],by simp -dsimp only[go_sem,seval];omega⟩;rw[zf1 hr,if_pos rfl];simp -dsimp only[go_sem,seval];refine Ab.keep (by omega) fun k k1 k2=>Ir k fun h=>k2 (AE k (hL k h).1).2
  ·have Pc: ∀(α:Type) (a b:α),(if i0<i+1 then a else b)=if i0<i then a else b:=fun α a b=>by
    rcases Nat.lt_or_ge i0 i with h1 | h1
    ·rw[if_pos h1,if_pos (by omega)]
    ·rw[if_neg (by omega),if_neg (by omega)]
   have H9:decide (i0<i+1)=decide (i0<i):=by
    rcases Nat.lt_or_ge i0 i with h1 | h1
    ·rw[decide_eq_true h1,decide_eq_true (by omega)]
    ·rw[decide_eq_false (by omega),decide_eq_false (by omega)]
   have Ps:(((rows.take i).eraseIdx i0).all fun r=>decide (r.length=2))=true:=zN.2 fun r hr=>by simpa using BX r (List.mem_of_mem_take (List.mem_of_mem_eraseIdx hr))
   have FT:((rows.take i).eraseIdx i0).length<2^32:=by
    have:=List.length_eraseIdx_le (rows.take i) i0;rw[List.length_take]at this;omega
   have v1:=Ab.valOf;have v4:=Ab.r4
   rcases(show(decide (i0<i)=false/\zyk g≠zyk e)\/decide (i0<i)=true by
    rcases Nat.lt_or_ge i i0 with h1 | h1
    ·exact .inl ⟨by simp;omega,Do i g h1 hg⟩
    ·exact .inr (by simp;omega))with⟨d0,A8⟩ | d0
   case' inl=>
    rw[d0]at h9;simp -dsimp only[go_sem,seval,DW,h9,h7,G8,J2,hv,t0,t1,CV,A9,i0',i1',hr,Dx,CM,KJ,A8,v1,v4]
   case' inr=>
    rw[d0]at h9;simp -dsimp only[go_sem,seval,DW,h9,h7,G8,J2,hv,t0,t1,CV,A9,i0',i1',hr,v1,v4]
   all_goals
    refine zaM (Ab.upd (by omega) _) (by omega) FT (by decide) rfl Ps ?_;intro v2 hp hO Be As;have w1:=hO.valOf;have Gz:=zf1 (i0:=i0) hr;rw[if_neg Lw]at Gz;rw[<- Gz]at hO;simp -dsimp only[go_sem,seval,w1,DW,h7,G8];refine⟨by omega,by simp -dsimp only[go_sem,seval,hw],by simp -dsimp only[go_sem,seval,h9,H9,d0],by simp -dsimp only[go_sem,seval,h7],by simp -dsimp only[go_sem,seval,G8,Pc],by simp -dsimp only[go_sem,seval];exact hO.le (by omega),fun q hq=>⟨?_,by simp -dsimp only[go_sem,seval];exact Be q (by omega)⟩,?_,by simp -dsimp only[go_sem,seval];omega⟩
    ·simp -dsimp only[go_sem,seval];rw[As q (by omega) (AE q hq).2,zae,if_neg (by omega)];exact(AE q hq).1
    ·simp -dsimp only[go_sem,seval];rw[As kB (by omega) (AE kB (by omega)).2,zae,if_neg (by omega)];exact J2
 ·have A9:=eq_false Ai;have:i=rows.length:=by omega
  subst this;rw[List.take_length]at Ab;rw[if_pos (by omega)]at G8;have v1:=Ab.valOf;have GO: ∀q,q<n'->zdc (f 8).v q:=fun q hq=>(AE q hq).2
  have OO: ∀q,q<n'->noF (H q)=noF (h' q):=fun q hq=>(AE q hq).1
  have Lq:=Ab.cellsV;unfold V.cells at Lq
  generalize hl:(f 8).v=l at *
  have hC:zxr c t i0=⟨zz2 c.mem e,c.at_,c.buf.set t ((zxq c t).eraseIdx i0)⟩:=by simp only[zxr,he]
  have hT: ∀(o:Option O) (d:Nat),toT (updC H kB o) d=toT (fun q=>if q<n'/\q≠kB then h' q else updC H kB o q) d:=fun o d=>funext (zB3 (fun q=>by
   show noF (updC H kB o q)=noF (if q<n'/\q≠kB then h' q else updC H kB o q);split
   ·rename_i h;rw[zae,if_neg h.2];exact OO q h.1
   ·rfl) d)
  have AJ: ∀(o:Option O) q,q<n'->q≠kB->(fun q=>if q<n'/\q≠kB then h' q else updC H kB o q) q=h' q:=fun o q q1 q2=>by
   show(if q<n'/\q≠kB then h' q else updC H kB o q)=h' q;rw[if_pos ⟨q1,q2⟩]
  have f4: ∀o:Option O,toT (updC H kB o) 1000 vA=some (ints c.at_):=fun o=>by
   rw[hT];exact(hA.keep fun q q1 q2=>AJ o q (by omega) (by omega)).tree 999
  have f5: ∀v,(vs.set t [v]).length=c.buf.length:=fun v=>by rw[List.length_set];exact Ax.len
  have f6: ∀v,List.take c.buf.length (vs.set t [v])=vs.set t [v]:=fun v=>zaC (f5 v).symm
  have f7: ∀o:Option O,(vs.set t [l]).mapM (fun row=>row.mapM (toT (updC H kB o) 999))=some ((c.buf.set t ((zxq c t).eraseIdx i0)).map fun b=>[.sl (b.map Entry.enc)]):=by
   intro o;rw[hT];refine zbt _ _ (by rw[f5,List.length_set]) fun j b hb=> ?_
   rw[List.getElem?_set]at hb
   by_cases hj:t=j
   ·subst hj;rw[if_pos rfl,if_pos (by omega)]at hb;simp only[zA]at hb;subst hb;refine⟨_,by rw[List.getElem?_set,if_pos rfl,if_pos (by have:=Ax.len;omega)],?_⟩;refine zhU.tree (lo:=0) (hi:=n'+z) ⟨rows.eraseIdx i0,?_,by rw[List.length_eraseIdx_of_lt (by omega),List.length_eraseIdx_of_lt Cb,AW],fun r hr=>BX r (List.mem_of_mem_eraseIdx hr),fun q e0 hq=> ?_⟩ 997
    ·rcases Ab with h | ⟨kl,rfl,h2,h3⟩
     ·exact .inl h
     ·have Ls: ¬kl<n':=fun h=>GO kl h 0 _ rfl
      refine .inr ⟨kl,rfl,by omega,by omega,?_⟩;show(if kl<n'/\kl≠kB then h' kl else updC H kB o kl)=_;rw[if_neg fun h=>Ls h.1,zae,if_neg (by omega)];exact h3
    ·rw[List.getElem?_eraseIdx]at hq⊢
     have key: ∀q',(zxq c t)[q']? =some e0-> ∃r:List V,rows[q']? =some r/\znY (fun q=>if q<n'/\q≠kB then h' q else updC H kB o q) 0 (n'+z) r e0:=fun q' DZ=>by
      obtain⟨r,hr,hE⟩:=Bk q' e0 DZ;exact⟨r,hr,hE.keep (Nat.zero_le _) (by omega) fun w w1 w2 _=>AJ o w (by omega) (by omega)⟩
     split at hq
     ·rename_i h1;rw[if_pos h1];exact key _ hq
     ·rename_i h1;rw[if_neg h1];exact key _ hq
   ·rw[if_neg hj]at hb;obtain⟨u,hu,Jd⟩:=Ax.at_ j b hb;have Bt:=(zH.1 hb).1;have u1:=Ax.le (q:=0) (r:=j) (by omega) (by omega);have u2:=Ax.le (q:=j+1) (r:=c.buf.length) (by omega) (Nat.le_refl _);exact⟨u,by rw[List.getElem?_set,if_neg hj];exact hu,(Jd.keep (Nat.le_refl _) fun q q1 q2=>AJ o q (by omega) (by omega)).tree 997⟩
  rw[hC];simp -dsimp only[go_sem,seval,DW,h9,h7,G8,J2,hv,t0,t1,CV,A9,v1,hl,Lq,Bn,Bd,f4,f5,f6,f7,zxU,Nat.le_refl]
theorem zit {p:Prog} {k:Int} {c:Config} (hc:IsK p k c) {t:Nat} {s:Step} (h:k=0\/s.kind≠3):
 zBb p k c t s=⟨zxh c.mem (zxd c t) s.set,if s.kind=6 then(c.at_.set t s.to).set s.target.toNat 0 else c.at_.set t s.to,c.buf⟩:=by
 unfold zBb;split
 ·rename_i hk;have hq:=hc.q hk;rw[zfJ hq,zkP hc.b.lb hq];rfl
 ·rename_i hk;have h3:s.kind≠3:=h.resolve_left hk;simp only[zyO,if_neg h3]
theorem zjK (p:Prog) (hs:p.sane) (hf:zw6 p=true) (k:Int) (hk:0<=k/\k<=2) (c:Config) (hc:IsK p k c) (y:Choice) (hy:y∈zxv p k c):
 Den Γ G 340 [(zP p),vi k,(.agg [.t (ints (c).mem),.t (ints (c).at_),.t (.sl ((c).buf.map (fun b=>[.sl (b.map Entry.enc)])))]),(.agg [.t (ti (y).thread),.t (ti (y).step),.t (ti (y).cell)])]=some (.tup [(.agg [.t (ints ((zzh p k c y).1).mem),.t (ints ((zzh p k c y).1).at_),.t (.sl (((zzh p k c y).1).buf.map (fun b=>[.sl (b.map Entry.enc)])))]),vi 0]):=by
 have AG:=zht p hs hf k hk c hc;have Dp:=zdg p hs hf k hk c hc;have IF:=zoA (zxv p k c) y (by have:=zeo hf (k:=k) hc.b;rw[zcu hc];omega);rw[(zBB _ _).2 hy]at IF;obtain⟨⟨m1,m2,m3,m4⟩,_⟩:=zw8 (zw9 hf).1;have l1:=hc.b.lm;have l2:=hc.b.la;have l3:=hc.b.lb;rcases zhi hf hc hy with⟨t,x,i,s,hx,AB,he,rfl,hn,hd⟩ | ⟨CK,t,i,e,ht,hi,ho,rfl,hn,hd⟩
 ·rw[hn];have Bc:=za4 hf hx AB;have ht:t<p.threads.length:=(zH.1 hx).1;have En:=zeK Bc.set
  have B9: ∀a∈s.set,0<=a.cell/\a.cell<c.mem.length:=fun a ha=>by
   have:=(Bc.rng.2 a ha).1;simp only[inR,decide_eq_true_eq]at this;omega
  have C7:=zfs p hf c hc.b t ht;have ineg: ¬(i:Int)<0:=by omega
  (refine zw3 Γ340 rfl ?_;dsimp only[zpQ])
  simp -dsimp only[go_sem,seval,AG,Dp,IF,hx,AB,ineg];refine zas (zBf p hf c hc.b _) ?_;rintro r h' n' ⟨vM,vA,kB,rfl,x1,x2,bd,vs,hM,hA,CK,Ba,AX,hB,Ax,Hb⟩;obtain⟨Bn,Bd⟩:=hM.val;rcases hA with⟨_,h0⟩ | ⟨kA,rfl,a1,a2,a3⟩
  ·exfalso;have h1:=congrArg List.length h0;rw[zw2]at h1;simp at h1;rw[h1]at l2;simp at l2;omega
  unfold V.cells at Bd;have Nm:=Ax.le (q:=0) (r:=c.buf.length) (by omega) (Nat.le_refl _);have Bu:=zaE (l:=c.at_) (i:=t) (by omega);have JK:=zaD c.at_ t s.to;have Ai:(t:Int)<(c.at_.length:Int):=by omega
  have t0:(0:Int)<=(t:Int):=by omega
  have L9:kA≠kB:=by omega
  have Gv:kB≠kA:=by omega
  generalize Bq:(if s.kind=6 then(c.at_.set t s.to).set s.target.toNat 0 else c.at_.set t s.to)=at'
  have Fo:at'.length=c.at_.length:=by rw[<- Bq];split<;>simp
  by_cases Cm:k=0\/s.kind≠3
  ·have hE:=zit hc (t:=t) (s:=s) Cm;rw[Bq]at hE;have Lj:=zjt c.mem (zxd c t) s.set (by omega) (by omega) B9;have f2:(zw5 at').length=c.at_.length:=by rw[zw2,Fo]
   have f3:List.take c.at_.length (zw5 at')=zw5 at':=zaC f2.symm;have f5:vs.length=c.buf.length:=Ax.len;have f6:List.take c.buf.length vs=vs:=zaC f5.symm
   have f7: ∀o:Option O,vs.mapM (fun row=>row.mapM (toT (updC h' kA o) 999))=some (c.buf.map fun b=>[.sl (b.map Entry.enc)]):=fun o=>
    zbt _ _ f5 fun q b hq=>by
     obtain⟨u,hu,Nz⟩:=Ax.at_ q b hq;have FD:=(zH.1 hq).1;have u1:=Ax.le (q:=0) (r:=q) (by omega) (by omega);exact⟨u,hu,(Nz.keep (Nat.le_refl _) fun z z1 z2=>by rw[zae,if_neg (by omega)]).tree 997⟩
   rw[hE];simp -dsimp only[go_sem,seval,Bn,Bd,a3,Bu,Ai,t0,JK,zw2]
   by_cases h6:s.kind=6
   ·obtain⟨hr,_⟩:=Bc.tgt (.inl h6);simp only[inR,decide_eq_true_eq]at hr;have q1:s.target<(c.at_.length:Int):=by omega
    have q2:=hr.1;have Gd:=zaE (l:=c.at_.set t s.to) (i:=s.target.toNat) (by simp;omega);have Ek:=zaD (c.at_.set t s.to) s.target.toNat 0;rw[if_pos h6]at Bq;subst Bq;simp -dsimp only[go_sem,seval,h6,Bn,Bd,q1,q2,Gd,Ek,zw2,List.length_set,C7,Lj,Gv,hB,zdy,f2,f3,f5,f6,f7,zaL,Nat.le_refl]
   ·rw[if_neg h6]at Bq;subst Bq;rcases Cm with CK | BB
    ·by_cases BB:s.kind=3
     ·simp -dsimp only[go_sem,seval,CK,BB,Bn,Bd,zw2,List.length_set,C7,Lj,Gv,hB,f2,f3,f5,f6,f7,zaL,Nat.le_refl]
     ·simp -dsimp only[go_sem,seval,h6,CK,BB,Bn,Bd,zw2,List.length_set,C7,Lj,Gv,hB,f2,f3,f5,f6,f7,zaL,Nat.le_refl]
    ·simp -dsimp only[go_sem,seval,h6,BB,Bn,Bd,zw2,List.length_set,C7,Lj,Gv,hB,f2,f3,f5,f6,f7,zaL,Nat.le_refl]
  ·have CK: ¬k=0:=fun h=>Cm (.inl h)
   have BB:s.kind=3:=Decidable.of_not_not fun h=>Cm (.inr h)
   have k6: ¬s.kind=6:=by omega
   rw[if_neg k6]at Bq;subst Bq;simp -dsimp only[go_sem,seval,Bn,Bd,a3,Bu,Ai,t0,JK,zw2,BB,CK,C7]
   have hE:zBb p k c t s=⟨zxh c.mem (zxd c t) (s.set.filter fun a=> !zw7 p a),c.at_.set t s.to,c.buf.set t (zxq c t++[zzb p (zxd c t) s.set])⟩:=by
    unfold zBb;rw[if_neg CK];simp only[zyO,if_pos BB,if_neg k6]
   refine zap 2722258935367352965202086186919783424000 s.set.length (fun j f h z=>(f 14).v=vi j/\(f 13).v= .lb/\ ∃vc vv,(f 13).box=some [vc,vv]/\ztu h n' z vc vv (((s.set.take j).filter (zw7 p)).map Assign.cell) (((s.set.take j).filter (zw7 p)).map fun a=>a.to.eval (zxd c t) (zxd c t))/\
    zkh h 0 x1 vM (zw5 (zxh c.mem (zxd c t) ((s.set.take j).filter fun a=> !zw7 p a)))/\(∀q,x1<=q->q<n'->h q=if q=kA then some (O.rows 1 (zw5 (c.at_.set t s.to)) false)else h' q)/\n'<=z) rfl
    ⟨by simp -dsimp only[go_sem,seval],by simp -dsimp only[go_sem,seval],.t .nils,.t .nils,by simp -dsimp only[go_sem,seval],.inl ⟨rfl,rfl,rfl,rfl⟩,hM.keep fun q q1 q2=>by simp -dsimp only[go_sem,seval];rw[if_neg (by omega)],fun q _ _=>by simp -dsimp only[go_sem,seval],by simp -dsimp only[go_sem,seval];omega⟩ ?_
   rintro j f u H z bs hj ⟨Eg,h9,vc,vv,Fq,Dt,EZ,AE,hz⟩;have hw:=zag j (by omega)
   by_cases M9:j<s.set.length
   ·have GR:=eq_true M9;obtain⟨a,ha,Cj⟩:=zad M9;obtain⟨c0,c1⟩:=B9 a Cj;obtain⟨y,hy,_⟩:=Bc.wid a Cj;have Aj:=ze9 a.to (zxd c t) (zxd c t);have Bj:zw7 p a=decide (y.thread= -1):=by rw[zw7,zau hy]
    by_cases F5:y.thread= -1
    ·have EA:zw7 p a=true:=by rw[Bj];simpa using F5
     have Fs:Rg.valOf vc=some vc:=by rcases Dt with⟨rfl,_⟩ | ⟨_,_,rfl,_⟩<;>rfl
     have B3:Rg.valOf vv=some vv:=by rcases Dt with⟨_,rfl,_⟩ | ⟨_,_,_,rfl,_⟩<;>rfl
     generalize AU:((s.set.take j).filter (zw7 p)).map Assign.cell=cs at *
     generalize EP:(((s.set.take j).filter (zw7 p)).map fun a=>a.to.eval (zxd c t) (zxd c t))=ws at *
     have Cp:cs.length<=32:=by
      rw[<- AU,List.length_map];have:=List.length_filter_le (zw7 p) (s.set.take j);rw[List.length_take]at this;omega
     have GH:ws.length<=32:=by
      rw[<- EP,List.length_map];have:=List.length_filter_le (zw7 p) (s.set.take j);rw[List.length_take]at this;omega
     have FN: ∀q,(q<n'\/z<=q)->zdc vc q:=fun q hq=>by
      rcases Dt with⟨rfl,_⟩ | ⟨kc,kv,rfl,_,e1,e2,_⟩
      ·intro i n h0;cases h0
      ·exact zyp (by omega) _ _
     have B0: ∀q,(q<n'\/z<=q)->zdc vv q:=fun q hq=>by
      rcases Dt with⟨_,rfl,_⟩ | ⟨kc,kv,_,rfl,_,_,e1,e2,_⟩
      ·intro i n h0;cases h0
      ·exact zyp (by omega) _ _
     have Kd:za0 (updC H (z+5+7+6+8+4) (some (O.rows 1 [[V.t (ti a.cell)]] false))) (z+5+7+6+8+5) vc 1 (zw5 cs):=by
      rcases Dt with⟨rfl,_,rfl,_⟩ | ⟨kc,kv,rfl,_,e1,e2,e3,e4,e5,e6,e7⟩
      ·exact .inl ⟨rfl,rfl⟩
      ·exact .inr ⟨kc,rfl,by omega,by rw[zae,if_neg (by omega)];exact e6⟩
     have Hr:=Kd.rowsS;simp -dsimp only[go_sem,seval,Eg,h9,Fq,GR,ha,Aj,c0,hy,F5,Fs,Hr];refine zaM Kd (Nat.le_refl _) (by rw[zw2];omega) (by decide) rfl (zxw _) ?_;intro v1 EW Nx Im I2;rcases Nx with⟨_,CG⟩ | ⟨k1,rfl,MH,I9⟩
     ·simp at CG
     have MG:z+5+7+6+8+5<=k1:=by
      rcases Nat.lt_or_ge k1 (z+5+7+6+8+5)with h1 | h1
      ·exact absurd rfl (Im k1 h1 0 _)
      ·exact h1
     have FK: ∀q,q<z->zdc vc q->Av (updC H (z+5+7+6+8+4) (some (O.rows 1 [[V.t (ti a.cell)]] false))) EW q=H q:=fun q q1 q2=>by
      rw[I2 q (by omega) q2,zae,if_neg (by omega)]
     have FP:za0 (updC (Av (updC H (z+5+7+6+8+4) (some (O.rows 1 [[V.t (ti a.cell)]] false))) EW) (z+5+7+6+8+8+3) (some (O.rows 1 [[V.t (T.int IntKind.i64 (a.to.eval (zxd c t) (zxd c t)))]] false))) (z+5+7+6+8+8+4) vv 1 (zw5 ws):=by
      rcases Dt with⟨_,rfl,_,rfl⟩ | ⟨kc,kv,rfl,rfl,e1,e2,e3,e4,e5,e6,e7⟩
      ·exact .inl ⟨rfl,rfl⟩
      ·exact .inr ⟨kv,rfl,by omega,by rw[zae,if_neg (by omega),FK kv e4 (zyp (by omega) _ _)];exact e7⟩
     have DY:=FP.rowsS;simp -dsimp only[go_sem,seval,Eg,h9,Fq,B3,DY];refine zaM FP (Nat.le_refl _) (by rw[zw2];omega) (by decide) rfl (zxw _) ?_;intro v2 Es Jb Il FX;rcases Jb with⟨_,CG⟩ | ⟨k2,rfl,I8,CC⟩
     ·simp at CG
     have Gb:z+5+7+6+8+8+4<=k2:=by
      rcases Nat.lt_or_ge k2 (z+5+7+6+8+8+4)with h1 | h1
      ·exact absurd rfl (Il k2 h1 0 _)
      ·exact h1
     have FJ: ∀q,q<n'->Av (updC (Av (updC H (z+5+7+6+8+4) (some (O.rows 1 [[V.t (ti a.cell)]] false))) EW) (z+5+7+6+8+8+3) (some (O.rows 1 [[V.t (T.int IntKind.i64 (a.to.eval (zxd c t) (zxd c t)))]] false))) Es q=H q:=fun q hq=>by
      rw[FX q (by omega) (B0 q (.inl hq)),zae,if_neg (by omega),FK q (by omega) (FN q (.inl hq))]
     have IA:Av (updC (Av (updC H (z+5+7+6+8+4) (some (O.rows 1 [[V.t (ti a.cell)]] false))) EW) (z+5+7+6+8+8+3) (some (O.rows 1 [[V.t (T.int IntKind.i64 (a.to.eval (zxd c t) (zxd c t)))]] false))) Es k1=some (.rows 1 (zw5 cs++[[V.t (ti a.cell)]]) false):=by
      rw[FX k1 (by omega) (B0 k1 (.inr (by omega))),zae,if_neg (by omega)];exact I9
     have CE:(s.set.take (j+1)).filter (zw7 p)=(s.set.take j).filter (zw7 p)++[a]:=by
      rw[zac ha,List.filter_append];simp[EA]
     have Au:((s.set.take (j+1)).filter fun a=> !zw7 p a)=(s.set.take j).filter fun a=> !zw7 p a:=by
      rw[zac ha,List.filter_append];simp[EA]
     simp -dsimp only[go_sem,seval,Eg,h9];refine⟨by omega,by simp -dsimp only[go_sem,seval,hw],by simp -dsimp only[go_sem,seval,h9],.ms k1 0 (zw5 cs++[[V.t (ti a.cell)]]).length,.ms k2 0 (zw5 ws++[[V.t (T.int IntKind.i64 (a.to.eval (zxd c t) (zxd c t)))]]).length,by simp -dsimp only[go_sem,seval,Fq],?_,?_,?_,by simp -dsimp only[go_sem,seval];omega⟩
     ·rw[CE,List.map_append,List.map_append,AU,EP];refine .inr ⟨k1,k2,by rw[<- zaV];rfl,by rw[<- zaV];rfl,by omega,by simp -dsimp only[go_sem,seval];omega,by omega,by simp -dsimp only[go_sem,seval];omega,by omega,?_,?_⟩
      ·simp -dsimp only[go_sem,seval];rw[IA,<- zaV]
      ·simp -dsimp only[go_sem,seval];rw[CC,<- zaV]
     ·rw[Au];exact EZ.keep fun q q1 q2=>by simp -dsimp only[go_sem,seval];exact FJ q (by omega)
     ·intro q q1 q2;simp -dsimp only[go_sem,seval];rw[FJ q q2];exact AE q q1 q2
    ·have EA:zw7 p a=false:=by rw[Bj];simpa using F5
     have Ac:(zxh c.mem (zxd c t) ((s.set.take j).filter fun a=> !zw7 p a)).length=c.mem.length:=zaS (zxd c t) _ c.mem
     have CE:(s.set.take (j+1)).filter (zw7 p)=(s.set.take j).filter (zw7 p):=by
      rw[zac ha,List.filter_append];simp[EA]
     have Au:((s.set.take (j+1)).filter fun a=> !zw7 p a)=((s.set.take j).filter fun a=> !zw7 p a)++[a]:=by
      rw[zac ha,List.filter_append];simp[EA]
     rcases EZ with⟨_,h0⟩ | ⟨kM,rfl,m5,m6,m7⟩
     ·exfalso;have h1:=congrArg List.length h0;rw[zw2,Ac]at h1;simp at h1;rw[h1]at c1;simp at c1;omega
     have Bu:=zaE (l:=zxh c.mem (zxd c t) ((s.set.take j).filter fun a=> !zw7 p a)) (i:=a.cell.toNat) (by omega);have AB:=zaD (zxh c.mem (zxd c t) ((s.set.take j).filter fun a=> !zw7 p a)) a.cell.toNat (a.to.eval (zxd c t) (zxd c t))
     have EP:zxh c.mem (zxd c t) (((s.set.take j).filter fun a=> !zw7 p a)++[a])=(zxh c.mem (zxd c t) ((s.set.take j).filter fun a=> !zw7 p a)).set a.cell.toNat (a.to.eval (zxd c t) (zxd c t)):=by
      unfold zxh;rw[List.foldl_append];rfl
     rw[<- EP]at AB;have Cz:(zw5 (zxh c.mem (zxd c t) ((s.set.take j).filter fun a=> !zw7 p a))).length=c.mem.length:=by rw[zw2,Ac]
     have Ea:(zw5 (zxh c.mem (zxd c t) (((s.set.take j).filter fun a=> !zw7 p a)++[a]))).length=c.mem.length:=by rw[zw2,zaS]
     simp -dsimp only[go_sem,seval,Eg,h9,GR,ha,Aj,hy,F5,Cz,c0,c1,m7,Bu,AB];refine⟨by omega,by simp -dsimp only[go_sem,seval,hw],by simp -dsimp only[go_sem,seval,h9],vc,vv,by simp -dsimp only[go_sem,seval,Fq],?_,?_,?_,by simp -dsimp only[go_sem,seval];omega⟩
     ·rw[CE];rcases Dt with h1 | ⟨kc,kv,e0,e0',e1,e2,e3,e4,e5,e6,e7⟩
      ·exact .inl h1
      ·have u1:kc≠kM:=by omega
       have u2:kv≠kM:=by omega
       exact .inr ⟨kc,kv,e0,e0',e1,by simp -dsimp only[go_sem,seval];omega,e3,by simp -dsimp only[go_sem,seval];omega,e5,by simp -dsimp only[go_sem,seval,u1,e6],by simp -dsimp only[go_sem,seval,u2,e7]⟩
     ·rw[Au];exact .inr ⟨kM,by rw[Ea,Cz],m5,m6,by simp -dsimp only[go_sem,seval]⟩
     ·intro q q1 q2;have u1:q≠kM:=by omega
      simp -dsimp only[go_sem,seval,u1];exact AE q q1 q2
   ·have GR:=eq_false M9;have K1:j=s.set.length:=by omega
    subst K1;rw[List.take_length]at EZ Dt;have FG:=zcP Bc BB (zxd c t);rcases Dt with⟨_,_,h1,_⟩ | ⟨kc,kv,rfl,rfl,e1,e2,e3,e4,e5,e6,e7⟩
    ·exact absurd h1 FG.ne
    have g1:H kA=some (.rows 1 (zw5 (c.at_.set t s.to)) false):=by rw[AE kA a1 (by omega),if_pos rfl]
    have g2:H kB=some (.rows 1 vs false):=by rw[AE kB (by omega) (by omega),if_neg Gv];exact hB
    have Ae:=zx4 (c:=c) (t:=t) (by omega);obtain⟨v,hv,E4⟩:=Ax.at_ t _ Ae;have N6:=Ax.le (q:=0) (r:=t) (by omega) (by omega);have N5:=Ax.le (q:=t+1) (r:=c.buf.length) (by omega) (Nat.le_refl _);have P7:=Ax.mono t (by omega);obtain⟨B3,_⟩:=E4.val;obtain⟨rows,By,AW,BX,Bk⟩:=E4;have t1:(t:Int)<(c.buf.length:Int):=by omega
    have KC: ∀q,x1<=q->q<n'->q≠kA->H q=h' q:=fun q q1 q2 q3=>by rw[AE q q1 q2,if_neg q3]
    generalize CT:(zw5 (List.map Assign.cell (List.filter (zw7 p) s.set))).length=nc at *
    generalize Kg:(zw5 (List.map (fun a=>a.to.eval (zxd c t) (zxd c t)) (List.filter (zw7 p) s.set))).length=nv at *
    have B1: ∀q,(q<bd t\/bd (t+1)<=q\/ ∀rs fz,h' q≠some (O.rows 2 rs fz))->zdc v q:=fun q hq=>by
     rcases By with⟨rfl,_⟩ | ⟨kb,rfl,d1,d2,d3⟩
     ·intro i n h0;cases h0
     ·refine zyp ?_ _ _;rintro rfl;rcases hq with h | h | h
      ·omega
      ·omega
      ·exact h _ _ d3
    have FP:za0 (updC H (z+5+11) (some (O.rows 2 [[V.ms kc 0 nc,V.ms kv 0 nv]] false))) (z+5+12) v 2 rows:=by
     rcases By with⟨rfl,h1⟩ | ⟨kb,rfl,d1,d2,d3⟩
     ·exact .inl ⟨rfl,h1⟩
     ·exact .inr ⟨kb,rfl,by omega,by rw[zae,if_neg (by omega),KC kb (by omega) (by omega) (by omega)];exact d3⟩
    have DY:=FP.rowsS;simp -dsimp only[go_sem,seval,Eg,GR,h9,Fq,g2,hv,B3,t0,t1,DY];have Aa:(rows.all fun r=>decide (r.length=2))=true:=by simpa using BX
    obtain⟨b1,b2,_⟩:=hc.b.buf t _ Ae;refine zaM FP (Nat.le_refl _) (by rw[AW];omega) (by decide) rfl Aa ?_;intro v2 hp hO M1 DH;rcases hO with⟨_,CG⟩ | ⟨k2,rfl,I8,CC⟩
    ·simp at CG
    have Gb:z+5+12<=k2:=by
     rcases Nat.lt_or_ge k2 (z+5+12)with h1 | h1
     ·exact absurd rfl (M1 k2 h1 0 _)
     ·exact h1
    have Ep: ∀q,q<z->zdc v q->Av (updC H (z+5+11) (some (O.rows 2 [[V.ms kc 0 nc,V.ms kv 0 nv]] false))) hp q=H q:=fun q q1 q2=>by
     rw[DH q (by omega) q2,zae,if_neg (by omega)]
    have gB:=Ep kB (by omega) (B1 kB (.inl (by omega)));rw[g2]at gB;have gA:=Ep kA (by omega) (B1 kA (.inl (by omega)));rw[g1]at gA
    have CW: ∀(o:Option O) q,q≠kB->updC (Av (updC H (z+5+11) (some (O.rows 2 [[V.ms kc 0 nc,V.ms kv 0 nv]] false))) hp) kB o q=Av (updC H (z+5+11) (some (O.rows 2 [[V.ms kc 0 nc,V.ms kv 0 nv]] false))) hp q:=fun o q q2=>by
     rw[zae,if_neg q2]
    have AJ: ∀(o:Option O) q,x1<=q->q<n'->q≠kA->q≠kB->zdc v q->updC (Av (updC H (z+5+11) (some (O.rows 2 [[V.ms kc 0 nc,V.ms kv 0 nv]] false))) hp) kB o q=h' q:=fun o q q0 q1 q2 q3 q4=>by
     rw[CW o q q3,Ep q (by omega) q4,KC q q0 q1 q2]
    have fM: ∀o,toT (updC (Av (updC H (z+5+11) (some (O.rows 2 [[V.ms kc 0 nc,V.ms kv 0 nv]] false))) hp) kB o) 1000 vM=some (ints (zxh c.mem (zxd c t) (s.set.filter fun a=> !zw7 p a))):=fun o=>
     (EZ.keep fun q q1 q2=>by rw[CW o q (by omega),Ep q (by omega) (B1 q (.inl (by omega)))]).tree 999
    have f3:List.take c.at_.length (zw5 (c.at_.set t s.to))=zw5 (c.at_.set t s.to):=zaC (by rw[zw2,List.length_set]);have f5: ∀v,(vs.set t [v]).length=c.buf.length:=fun v=>by rw[List.length_set];exact Ax.len
    have f6: ∀v,List.take c.buf.length (vs.set t [v])=vs.set t [v]:=fun v=>zaC (f5 v).symm
    have f7: ∀o:Option O,(vs.set t [V.ms k2 0 (rows++[[V.ms kc 0 nc,V.ms kv 0 nv]]).length]).mapM (fun row=>row.mapM (toT (updC (Av (updC H (z+5+11) (some (O.rows 2 [[V.ms kc 0 nc,V.ms kv 0 nv]] false))) hp) kB o) 999))=some ((c.buf.set t (zxq c t++[zzb p (zxd c t) s.set])).map fun b=>[.sl (b.map Entry.enc)]):=by
     intro o;refine zbt _ _ (by rw[f5,List.length_set]) fun j b hb=> ?_
     rw[List.getElem?_set]at hb
     by_cases hj:t=j
     ·subst hj;rw[if_pos rfl,if_pos (by omega)]at hb;simp only[zA]at hb;subst hb;refine⟨_,by rw[List.getElem?_set,if_pos rfl,if_pos (by have:=Ax.len;omega)],?_⟩;refine zhU.tree (lo:=bd t) (hi:=k2+1) ⟨rows++[[V.ms kc 0 nc,V.ms kv 0 nv]],.inr ⟨k2,rfl,by omega,by omega,by rw[CW o k2 (by omega)];exact CC⟩,by rw[zM,zM,AW];rfl,?_,fun q e0 hq=> ?_⟩ 997
      ·intro r hr;rcases List.mem_append.1 hr with hr | hr
       ·exact BX r hr
       ·rw[List.mem_singleton]at hr;rw[hr];rfl
      ·rcases Nat.lt_or_ge q (zxq c t).length with h1 | h1
       ·rw[List.getElem?_append_left h1]at hq;obtain⟨r,hr,hE⟩:=Bk q e0 hq;refine⟨r,by rw[List.getElem?_append_left (by omega)];exact hr,hE.keep (Nat.le_refl _) (by omega) fun w w1 w2 w3=> ?_⟩;exact AJ o w (by omega) (by omega) (by omega) (by omega) (B1 w (.inr (.inr w3)))
       ·have If:q=(zxq c t).length:=by
         have:=(zH.1 hq).1;rw[zM,List.length_singleton]at this;omega
        subst If;rw[List.getElem?_append_right (Nat.le_refl _),Nat.sub_self]at hq;simp only[List.getElem?_cons_zero,zA]at hq;subst hq;refine⟨[V.ms kc 0 nc,V.ms kv 0 nv],by rw[List.getElem?_append_right (by omega),AW,Nat.sub_self];rfl,?_⟩
        have u1: ∀q,n'<=q->q<z->updC (Av (updC H (z+5+11) (some (O.rows 2 [[V.ms kc 0 nc,V.ms kv 0 nv]] false))) hp) kB o q=H q:=fun q q1 q2=>by
         rw[CW o q (by omega),Ep q q2 (B1 q (.inr (.inl (by omega))))]
        rw[zw2]at CT Kg;refine⟨kc,kv,by rw[<- CT,<- Kg];rfl,by omega,by omega,by omega,by omega,by rw[u1 kc e1 e2];exact e6,by rw[u1 kv e3 e4];exact e7⟩
     ·rw[if_neg hj]at hb;obtain⟨u,hu,Jd⟩:=Ax.at_ j b hb;have Bt:=(zH.1 hb).1;refine⟨u,by rw[List.getElem?_set,if_neg hj];exact hu,?_⟩;refine(Jd.keep (Nat.le_refl _) fun q q1 q2=> ?_).tree 997;have u1:=Ax.le (q:=0) (r:=j) (by omega) (by omega);have u2:=Ax.le (q:=j+1) (r:=c.buf.length) (by omega) (Nat.le_refl _);refine AJ o q (by omega) (by omega) (by omega) (by omega) (B1 q ?_);rcases Nat.lt_or_ge j t with h1 | h1
      ·have:=Ax.le (q:=j+1) (r:=t) (by omega) (by omega);exact .inl (by omega)
      ·have:=Ax.le (q:=t+1) (r:=j) (by omega) (by omega);exact .inr (.inl (by omega))
    rw[hE];simp -dsimp only[go_sem,seval,h9,Fq,gB,hv,t0,t1,L9,gA,Bn,Bd,Gv,fM,f3,f5,f6,f7,zw2,List.length_set,zaL,Nat.le_refl]
 ·rw[hn];obtain⟨G6,E5,_⟩:=hc.b.buf t _ (zx4 (c:=c) (t:=t) (by omega));have Na:=zhF p hf c hc.b t ht i e hi fun j f hj CL=>zAN E5 CL hi ho hj
  (refine zw3 Γ340 rfl ?_;dsimp only[zpQ])
  simp -dsimp only[go_sem,seval,AG,Dp,IF,Na]
def nxK (p:Prog) (k:Int) (c:Config) (x:Choice):Config:=(zzh p k c x).1
end Rg
end
section
namespace Rg
open Go
def okN (p:Prog) (k:Int):Config->List Choice->Bool
 | _,[]=>true
 | c,y::r=>decide (y∈zxv p k c)&&okN p k (nxK p k c y) r
section
end
def zBZ (p:Prog) (k:Int):Config->List Int->List Choice
 | _,[]=>[]
 | c,n::r=>if zxv p k c=[]then []else zz8 (zxv p k c) n::zBZ p k (nxK p k c (zz8 (zxv p k c) n)) r
theorem ziU (p:Prog) (k:Int): ∀(l:List Int) (c:Config),(zBZ p k c l).length<=l.length
 | [],c=>Nat.le_refl _
 | n::r,c=>by
   rw[zBZ];split
   ·simp
   ·have:=ziU p k r (nxK p k c (zz8 (zxv p k c) n));simp;omega
theorem zkE (p:Prog) (k:Int): ∀(l:List Int) (c:Config),okN p k c (zBZ p k c l)=true
 | [],c=>rfl
 | n::r,c=>by
   rw[zBZ];split
   ·rfl
   ·rename_i h;rw[okN,zF,decide_eq_true_eq];exact⟨zmH h n,zkE p k r _⟩
theorem zDO {p:Prog} {k:Int}: ∀{a b:List Choice} {c:Config},okN p k c (a++b)=true<->okN p k c a=true/\okN p k (a.foldl (nxK p k) c) b=true
 | [],b,c=>by simp[okN]
 | x::a,b,c=>by
   rw[List.cons_append,okN,okN,zF,zF,zDO,and_assoc];rfl
theorem zkF (p:Prog) (hs:p.sane) (hf:zw6 p=true) (k:Int) (hk:0<=k/\k<=2) (picks:List Int) (Ep: ∀n∈picks,0<=n/\n<256) (most:Nat) (hm:picks.length<=most) (Ks:most<=60):
 Den Γ G 338 [(zP p),vi k,.t (zCo picks),vi most]=some (.t (.sl ((zBZ p k (zxz p) picks).map Choice.enc))):=by
 have h1:=zjA p hs;have NU:(picks.map fun n=>[T.int .u8 n]).length=picks.length:=by simp
 (refine zw3 Γ338 rfl ?_;dsimp only[f338])
 simp -dsimp only[go_sem,seval,h1]
 refine zap 288230376151662336 picks.length (fun i f h x=>(f 11).v=vi i/\ ∃(c:Config) (l:List Choice),IsK p k c/\(f 9).v= .lb/\(f 9).box=some [.t (ints c.mem),.t (ints c.at_),.t (.sl (c.buf.map (fun b=>[.sl (b.map Entry.enc)])))]/\
  za0 h x (f 10).v 3 (zzB l)/\zBZ p k (zxz p) picks=l++zBZ p k c (picks.drop i)/\l.length<=i) rfl
  ⟨by simp -dsimp only[go_sem,seval],zxz p,[],zeG hf k,by simp -dsimp only[go_sem,seval],by simp -dsimp only[go_sem,seval],.inl ⟨by simp -dsimp only[go_sem,seval],rfl⟩,rfl,Nat.le_refl _⟩ ?_
 rintro i f u H x bs hi ⟨Bf,c,l,hc,b1,b2,Ab,Af,NS⟩;have hw:=zag i (by omega);have v1:=Ab.valOf;have Bk:=Ab.reify (zzx _);have v5:=Ab.resVal;simp only[Rg.resVal]at v5
 by_cases Ai:i<picks.length
 ·have A9:=eq_true Ai;have Ff:(i:Int)<(most:Int):=by omega
  obtain⟨n,hn,Jp⟩:=zad Ai;obtain⟨n0,n1⟩:=Ep n Jp;have Dp:=zdg p hs hf k hk c hc;have L4:=zeo hf (k:=k) hc.b;rw[<- zcu hc]at L4;rw[zbC hn,zBZ]at Af
  by_cases he:zxv p k c=[]
  ·rw[if_pos he,List.append_nil]at Af;have CG:(zxv p k c).length=0:=by rw[he];rfl
   simp -dsimp only[go_sem,seval,Bf,A9,Ff,b1,b2,Dp,CG,v1,v5];rw[Af];exact Bk
  ·rw[if_neg he]at Af;have IO:0<(zxv p k c).length:=List.length_pos_iff.2 he;have CG: ¬(((zxv p k c).length:Nat):Int)=0:=by omega
   have LR:IntKind.i64.wrap n=n:=zaj (by omega)
   have FC:n.tmod (zxv p k c).length=((n.toNat % (zxv p k c).length:Nat):Int):=by
    rw[Int.tmod_eq_emod_of_nonneg n0,Int.natCast_emod,Int.toNat_of_nonneg n0]
   have Dw:n.toNat % (zxv p k c).length<(zxv p k c).length:=Nat.mod_lt _ IO;obtain⟨y,hy,GD⟩:=zad Dw;have Oq:zz8 (zxv p k c) n=y:=by simp[zz8,List.getD,hy]
   have Ke:=zjK p hs hf k hk c hc y GD;obtain⟨d,Cs,hd⟩:=zgn hf hc GD;rw[Cs]at Ke;rw[Oq,nxK,Cs]at Af;have v6: ∀q1 q2 q3 q4 q5 q6 b,rowsS (updC H (x+q1+q2+q3+q4+q5+q6) b) (f 10).v=some (zzB l):=fun q1 q2 q3 q4 q5 q6 b=>(Ab.upd (by omega) b).rowsS
   simp -dsimp only[go_sem,seval,Bf,A9,Ff,b1,b2,Dp,CG,hn,LR,FC,hy,Ke,v1,v6];refine zaM (Ab.upd (by omega) _) (by omega) (by rw[zdE];omega) (by decide) rfl (zzA _) ?_;intro v hp hO Be As;have w1:=hO.valOf;simp -dsimp only[go_sem,seval,w1,Bf];refine⟨by omega,by simp -dsimp only[go_sem,seval,hw],d,l++[y],hd,by simp -dsimp only[go_sem,seval,b1],by simp -dsimp only[go_sem,seval,b2],?_,by rw[Af,zQ];rfl,by rw[zM,List.length_singleton];omega⟩;simp -dsimp only[go_sem,seval];rw[zdF];exact hO.le (by omega)
 ·have A9:=eq_false Ai;have:i=picks.length:=by omega
  subst this;rw[List.drop_length,zBZ,List.append_nil]at Af;simp -dsimp only[go_sem,seval,Bf,A9,b1,b2,v1,v5];rw[Af];exact Bk
end Rg
end
section
namespace Rg
open Go
theorem IsB.sane {p:Prog} (hs:p.sane) {c:Config} (hc:IsB p c):c.sane:=⟨by rw[hc.lm];exact hs.cells,by rw[hc.la];exact hs.threads,by rw[hc.lb];exact hs.threads⟩
theorem zk3 (p:Prog) (hs:p.sane) (hf:zw6 p=true) (k:Int) (hk:0<=k/\k<=2) (c:Config) (hc:IsK p k c) (x:Choice):Den Γ G 180 [(zP p),vi k,(.agg [.t (ints (c).mem),.t (ints (c).at_),.t (.sl ((c).buf.map (fun b=>[.sl (b.map Entry.enc)])))]),(.agg [.t (ti (x).thread),.t (ti (x).step),.t (ti (x).cell)])]=some (.tup [(.agg [.t (ints ((zzh p k c x).1).mem),.t (ints ((zzh p k c x).1).at_),.t (.sl (((zzh p k c x).1).buf.map (fun b=>[.sl (b.map Entry.enc)])))]),vi (zzh p k c x).2]):=by
 by_cases k0:k=0
 ·have h1:=zk2 p hs c (hc.b.sane hs) x;rw[zzh,if_pos k0]
  (refine zw3 Γ180 rfl ?_;dsimp only[f180])
  simp -dsimp only[go_sem,seval,k0,h1]
 ·rw[zzh,if_neg k0];exact zjJ p hs hf k (by omega) c hc.b x
def kM (m:Int):Int:=m % 3
theorem zB7 {l:List Int} (h:zyv l=true):l.Pairwise (· < ·):=by
 have h1: ∀i,i+1<l.length->l.getD i 0<l.getD (i+1) 0:=fun i hi=>by
  unfold zyv at h;simp only[zN,List.mem_range,decide_eq_true_eq]at h;exact h i (by omega)
 have h2: ∀d i,i+d+1<l.length->l.getD i 0<l.getD (i+d+1) 0:=by
  intro d
  induction d with
  | zero=>exact fun i hi=>h1 i hi
  | succ d ih=>intro i hi;have a:=ih i (by omega);have b:=h1 (i+d+1) (by omega);rw[show i+(d+1)+1=i+d+1+1 by omega];omega
 rw[List.pairwise_iff_getElem];intro i j hi hj At;have:=h2 (j-i-1) i (by omega);rw[show i+(j-i-1)+1=j by omega]at this;simpa[zK,zI hi,zI hj]using this
theorem znx {p:Prog} (hf:zw6 p=true) {t j:Nat} {x:Thread} {l:Loop} (hx:p.threads[t]? =some x) (hl:x.loops[j]? =some l):l.body.length<=48:=by
 have hr:=zi5.1 (show p.ok by simpa[zw6]using hf);obtain⟨_,_,⟨h1,h2,_⟩,_,h3,_,h4⟩:=zdA.1 (hr.threads t x hx);obtain⟨⟨g1,g2,g3⟩,g4,_⟩:=zeY.1 (h4 j l hl);have hb:=(zxV hf).2.2 x (zL hx);refine zdI 48 _ ((zB7 g2).imp fun h=>by omega) fun k hk=> ?_
 have:=zN.1 g3 k hk;simp only[inR,zF,decide_eq_true_eq]at this;have:=this.1;exact⟨this.1,by omega⟩
set_option maxHeartbeats 4000000 in
theorem zjN (p:Prog) (hs:p.sane) (hf:zw6 p=true) (k:Int) (hk:0<=k/\k<=2) {t j:Nat} {x:Thread} {l:Loop} (hx:p.threads[t]? =some x) (Fd:x.loops[j]? =some l)
 (run:List Choice) (Ac:run.length<=120) (Bc:okN p k (zxz p) run=true):
 Den Γ G 341 [(zP p),vi k,.t (.sl (run.map Choice.enc)),vi t,vi j]=some (.tup [vi (itM (nxK p k) t l (zxz p) run).best,vi 0]):=by
 have h1:=zjB p hs;have h2:=zeE p hs hf hx Fd;have h3:=zla k hk;have DP:=znx hf hx Fd;have Ar:=fun a=>zhp l (by omega) a
 have FA:=zeG hf k;have ht:t<p.threads.length:=(zH.1 hx).1;have NT: ¬((run.length:Int)>120):=by omega
 obtain⟨a0,Ja,_⟩:=zad (show t<(zxz p).at_.length by rw[FA.b.la];exact ht);have Nr:atI (zxz p).at_ t=a0:=zb9 (by simpa using Ja);have AW:(run.map Choice.enc).length=run.length:=by simp
 (refine zw3 Γ341 rfl ?_;dsimp only[zqY])
 by_cases hh:a0=l.head
 case' pos=>simp -dsimp only[go_sem,seval,h1,h2,h3,hx,Fd,NT,Ja,hh]
 case' neg=>simp -dsimp only[go_sem,seval,h1,h2,h3,hx,Fd,NT,Ja,hh]
 all_goals
  refine zaq 41538374868278620992215173616823296 run.length (fun i f=>(f 55).v=vi i/\ ∃s:It,s=itM (nxK p k) t l (zxz p) (run.take i)/\IsK p k s.c/\okN p k s.c (run.drop i)=true/\(f 13).v= .lb/\(f 13).box=some [.t (ints s.c.mem),.t (ints s.c.at_),.t (.sl (s.c.buf.map (fun b=>[.sl (b.map Entry.enc)])))]/\
   (f 14).v=vi s.best/\(f 15).v=vi s.arr/\0<=s.best/\s.best<=i+1/\0<=s.arr/\s.arr<=i+1) rfl rfl
   ⟨by simp -dsimp only[go_sem,seval],it0 t l (zxz p),rfl,FA,Bc,by simp -dsimp only[go_sem,seval],by simp -dsimp only[go_sem,seval,it0],by simp -dsimp only[go_sem,seval,it0],by simp -dsimp only[go_sem,seval,it0,Nr,hh],by simp[it0],by simp[it0],by simp only[it0];split<;>omega,by simp only[it0];split<;>omega⟩ ?_
  rintro i f u kk bb hi ⟨Oh,s,Mh,Hn,F8,b1,b2,b3,b4,c1,c2,c3,c4⟩;have hw:=zag i (by omega)
  by_cases Ai:i<run.length
  ·have A9:=eq_true Ai;obtain⟨y,hy,GD⟩:=zad Ai;rw[zbC hy,okN,zF,decide_eq_true_eq]at F8;obtain⟨J5,F8⟩:=F8;obtain⟨d,Cs,hd⟩:=zgn hf Hn J5;have Ke:=zk3 p hs hf k hk s.c Hn y;rw[Cs]at Ke;have H9:nxK p k s.c y=d:=by unfold nxK;rw[Cs]
   rw[H9]at F8;obtain⟨a,ha,_⟩:=zad (show t<s.c.at_.length by rw[Hn.b.la];exact ht);obtain⟨a',hb,_⟩:=zad (show t<d.at_.length by rw[hd.b.la];exact ht);have Pt:atI s.c.at_ t=a:=zb9 (by simpa using ha);have HB:atI d.at_ t=a':=zb9 (by simpa using hb);have Gz:itM (nxK p k) t l (zxz p) (run.take (i+1))=itS (nxK p k) t l s y:=by rw[zac hy,zgq,<- Mh]
   have NY:=Ar a';have hS:itS (nxK p k) t l s y=s.see l d a' (zA5 t y||decide (a= -1)):=by simp only[itS,H9,Pt,HB]
   have Oz:IntKind.i64.wrap (s.arr+1)=s.arr+1:=zaj (by omega);have LS:IntKind.i64.wrap (s.arr+1-1)=s.arr+1-1:=zaj (by omega);have Oy:IntKind.i64.wrap (s.arr-1)=s.arr-1:=zaj (by omega);have LO:IntKind.i64.wrap (0-1)=0-1:=zaj (by omega)
   have fin: ∀mv,(zA5 t y||decide (a= -1))=mv-> ∀(f':Nat->Slot) ,(f' 55).v=vi (i+1:Nat)->(f' 13).v= .lb->(f' 13).box=some [.t (ints d.mem),.t (ints d.at_),.t (.sl (d.buf.map (fun b=>[.sl (b.map Entry.enc)])))]->
    (f' 14).v=vi (s.see l d a' mv).best->(f' 15).v=vi (s.see l d a' mv).arr->(f' 55).v=vi (i+1:Nat)/\ ∃s:It,s=itM (nxK p k) t l (zxz p) (run.take (i+1))/\IsK p k s.c/\okN p k s.c (run.drop (i+1))=true/\(f' 13).v= .lb/\(f' 13).box=some [.t (ints s.c.mem),.t (ints s.c.at_),.t (.sl (s.c.buf.map (fun b=>[.sl (b.map Entry.enc)])))]/\
   (f' 14).v=vi s.best/\(f' 15).v=vi s.arr/\0<=s.best/\s.best<=(i+1:Nat)+1/\0<=s.arr/\s.arr<=(i+1:Nat)+1:=by
     intro mv Fx f' g1 g2 g3 g4 g5;refine⟨g1,s.see l d a' mv,by rw[Gz,hS,Fx],hd,F8,g2,g3,g4,g5,?_,?_,?_,?_⟩<;>simp only[It.see]<;>repeat' split
     all_goals omega
   have h5:((zA5 t y||decide (a= -1))=true/\(((y.thread=t)=True/\(y.step= -1)=False/\True)\/((y.thread=t)=False/\True/\(a= -1)=True)\/((y.thread=t)=True/\(y.step= -1)=True/\(a= -1)=True)))\/
    ((zA5 t y||decide (a= -1))=false/\(((y.thread=t)=False/\True/\(a= -1)=False)\/((y.thread=t)=True/\(y.step= -1)=True/\(a= -1)=False))):=by
    by_cases e1:y.thread=t<;>by_cases e2:y.step= -1<;>by_cases e3:a= -1<;>simp[zA5,e1,e2,e3]
   rcases h5 with⟨Fx,⟨e1,e2,e3⟩ | ⟨e1,e2,e3⟩ | ⟨e1,e2,e3⟩⟩ | ⟨Fx,⟨e1,e2,e3⟩ | ⟨e1,e2,e3⟩⟩
   all_goals
    cases AN:zxj l a'<;>rw[AN]at NY
    case' false=>have e4:=trivial
    case' true=>
     rcases Decidable.em (a'=l.head)with e4 | e4
     case' inl=>have e4:=eq_true e4
    all_goals
     simp -dsimp only[go_sem,seval,Oh,A9,hy,b1,b2,b3,b4,Ke,ha,hb,NY,e1,e2,e3,e4,Oz,LS,Oy,LO];exact⟨by omega,fin _ Fx _ (by simp -dsimp only[go_sem,seval,hw]) (by simp -dsimp only[go_sem,seval,b1]) (by simp -dsimp only[go_sem,seval]) (by simp -dsimp only[go_sem,seval,It.see,AN,e4,decide_true,decide_false,Bool.and_self,Bool.and_false,Bool.false_and,Bool.not_true,Bool.not_false,zG,if_false,if_true]) (by simp -dsimp only[go_sem,seval,b4,It.see,AN,e4,decide_true,decide_false,Bool.and_self,Bool.and_false,Bool.false_and,Bool.not_true,Bool.not_false,zG,if_false,if_true])⟩
  ·have A9:=eq_false Ai;have:i=run.length:=by omega
   subst this;rw[List.take_length]at Mh;simp -dsimp only[go_sem,seval,Oh,A9,b3];rw[Mh]
end Rg
end
section
namespace Rg
open Go
def zDN (t:Int) (run:List Choice) (i:Nat):Int:=(((run.take i).filter (zA5 t)).length:Int)
theorem zhg {t:Int} {run:List Choice} {i:Nat} {y:Choice} (h:run[i]? =some y):zDN t run (i+1)=zDN t run i+if zA5 t y then 1 else 0:=by
 unfold zDN;rw[zac h,List.filter_append,zM];cases ho:zA5 t y<;>simp[ho]
def zzy (p:Prog) (k:Int) (t:Int) (l:Loop) (run:List Choice) (i:Nat):It:=itM (nxK p k) t l (zxz p) (run.take i)
theorem ziB {p:Prog} {k t:Int} {l:Loop} (hh:l.head≠ -1) (hl:zxj l (-1)=false) (run:List Choice): ∀i,i<=run.length->(zzy p k t l run i).Ok t (zDN t run i)
 | 0,_=>by
   have:zDN t run 0=0:=by simp[zDN]
   rw[this]
   exact It.Ok.init hh
 | i+1,hi=>by
   have ih:=ziB (p:=p) (k:=k) (t:=t) hh hl run i (by omega);have hy:=zI (show i<run.length by omega);rw[zhg hy,zzy,zac hy,zgq];exact(ih.step hl _).1
theorem zlY {p:Prog} {k t:Int} {l:Loop} (hh:l.head≠ -1) (hl:zxj l (-1)=false) (run:List Choice) {i:Nat} (hi:i<run.length):
 (zzy p k t l run i).best<=(zzy p k t l run (i+1)).best/\(zzy p k t l run (i+1)).best<=(zzy p k t l run i).best+1:=by
 have ih:=ziB (p:=p) (k:=k) (t:=t) hh hl run i (by omega);have hy:=zI hi;rw[zzy,zzy,zac hy,zgq];exact(ih.step hl _).2
theorem zkT (t:Int) (run:List Choice) (i:Nat):0<=zDN t run i/\zDN t run i<=run.length:=by
 unfold zDN;have:=List.length_filter_le (zA5 t) (run.take i);rw[List.length_take]at this;omega
theorem zkX {p:Prog} (hf:zw6 p=true) {k:Int}: ∀{a:List Choice} {c:Config},IsK p k c->okN p k c a=true-> ∀y∈a,-1<=y.step
 | [],c,_,_,y,hy=>by simp at hy
 | x::a,c,h,ho,y,hy=>by
   rw[okN,zF,decide_eq_true_eq]at ho;rcases List.mem_cons.1 hy with rfl | hy
   ·rcases zhi hf h ho.1 with⟨u,z,i,s,_,_,_,rfl,_⟩ | ⟨_,u,i,e,_,_,_,rfl,_⟩
    ·simp only;omega
    ·simp
   ·obtain⟨d,hn,hd⟩:=zgn hf h ho.1;have D2:IsK p k (nxK p k c x):=by unfold nxK;rw[hn];exact hd
    exact zkX hf D2 ho.2 y hy
theorem zDP {p:Prog} {k:Int} {run:List Choice} {c:Config} (h:okN p k c run=true) (i:Nat):okN p k c (run.take i)=true:=by
 rw[<- List.take_append_drop i run]at h;exact(zDO.1 h).1
theorem zn1 {a b:Int} (h:a=b) (h2: -9223372036854775808<=b/\b<=9223372036854775807):IntKind.i64.wrap a=b:=by rw[h];exact zaj h2
theorem ztH {m:Int} (h:0<=m):m.tmod 3=m % 3:=Int.tmod_eq_emod_of_nonneg h
theorem zzY (hh:Den Γ G 334 []=some (vb true)) (p:Prog) (hl:p.lite) (m:Int) (hm:0<=m/\m<256) (picks:List Int) (Ep: ∀n∈picks,0<=n/\n<256) (t j:Int):
 Den Γ G 330 [(zP p),.t (.int .u8 m),.t (zCo picks),vi t,vi j]=some (vb true):=by
 have hg:=zjT p hl t j;have NU:(picks.map fun n=>[T.int .u8 n]).length=picks.length:=by simp
 (refine zw3 Γ330 rfl ?_;dsimp only[f330])
 cases Ge:zBT p&&zyr p t j
 ·rw[Ge]at hg;simp -dsimp only[go_sem,seval,hh,hg]
 ·rw[Ge]at hg;simp only[zF]at Ge;obtain⟨MS,OT⟩:=Ge;have hs:=zBC hl MS;obtain⟨hf,tn,jn,x,l,rfl,rfl,hx,Fd⟩:=zjS OT;obtain⟨A,hL⟩:=zi6 hf hx Fd
  by_cases hp:(picks.length:Int)>30
  ·simp -dsimp only[go_sem,seval,hh,hg,hp]
  ·have Lk:IntKind.i64.wrap m=m:=zaj (by omega);have NJ:=ztH hm.1
   generalize Ag:m % 3=k at NJ
   have hk:0<=k/\k<=2:=by omega
   have Af:Den Γ G 338 [(zP p),vi k,.t (zCo picks),vi 30]=some (.t (.sl ((zBZ p k (zxz p) picks).map Choice.enc))):=zkF p hs hf k hk picks Ep 30 (by omega) (by omega);have Bc:=zkE p k picks (zxz p);have AW:=ziU p k picks (zxz p)
   generalize zBZ p k (zxz p) picks=run at *
   have FA:=zeG hf k;have CB:=zkX hf FA Bc;have Ni:=fun i hi=>ziB (p:=p) (k:=k) (t:=tn) (l:=l) (by have:=hL.h0;omega) hL.nb run i hi
   have Ax:=fun i hi=>zlY (p:=p) (k:=k) (t:=tn) (l:=l) (by have:=hL.h0;omega) hL.nb run (i:=i) hi
   have IC:=fun i=>zjN p hs hf k hk hx Fd (run.take i) (by rw[List.length_take];omega) (zDP Bc i)
   simp -dsimp only[go_sem,seval,hh,hg,hp,Lk,NJ,Af];refine zaq 158456325028528674912210502656 (run.length+1) (fun i f=>(f 16).v=vi i/\(f 14).v=vi (if i=0 then 0 else(zzy p k tn l run (i-1)).best)/\(f 15).v=vi (if i=0 then 0 else zDN tn run (i-1))) rfl rfl ⟨by simp -dsimp only[go_sem,seval],by simp -dsimp only[go_sem,seval],by simp -dsimp only[go_sem,seval]⟩ ?_;rintro i f u kk bb hi ⟨Lf,Ca,BS⟩;have hw:=zag i (by omega)
   by_cases Ai:i<=run.length
   ·have A9:(i:Int)<=(run.length:Int):=by omega
    have Fh:=IC i;have ho:=Ni i Ai;have Cc:=ho.b0;have Hb:=ho.bn;have PL:=zkT tn run i;rw[show itM (nxK p k) tn l (zxz p) (run.take i)=zzy p k tn l run i from rfl]at Fh;have Aa:((run.map Choice.enc).all fun x=>decide (x.length=3))=true:=by simp[Choice.enc]
    have Cu:List.take ((i:Int)-0).toNat (run.map Choice.enc)=(run.take i).map Choice.enc:=by
     rw[Int.sub_zero,Int.toNat_natCast,List.map_take]
    obtain rfl | ⟨q,rfl⟩:i=0\/ ∃q,i=q+1:=by
     cases i with
     | zero=>exact .inl rfl
     | succ q=>exact .inr ⟨q,rfl⟩
    ·have hz:zDN tn run 0=0:=by simp[zDN]
     have hb:(zzy p k tn l run 0).best=0:=by omega
     rw[if_pos rfl]at Ca BS;rw[hb]at Fh;have K5:Den Γ G 341 [(zP p),vi k,.t (.sl []),vi tn,vi jn]=some (.tup [vi 0,vi 0]):=Fh;simp -dsimp only[go_sem,seval,Lf,Ca,BS,A9,Aa,Cu,K5,Int.sub_self,Int.toNat_zero,List.take_zero];refine⟨by omega,by simp -dsimp only[go_sem,seval,hw],?_,?_⟩
     ·simp -dsimp only[go_sem,seval];exact hb.symm
     ·simp -dsimp only[go_sem,seval,BS];exact hz.symm
    ·obtain⟨y,hy,GD⟩:=zad (show q<run.length by omega);have EN:=CB y GD;have Jm:=zhg (t:=tn) hy;obtain⟨s1,s2⟩:=Ax q (by omega);have Mu:=zkT tn run q;have Jo:=(Ni q (by omega)).b0;have OC:=(Ni q (by omega)).bn;rw[if_neg (by omega),Nat.add_sub_cancel]at Ca BS;have g0:((q+1:Nat):Int)>0:=by omega
     have LQ:IntKind.i64.wrap (((q+1:Nat):Int)-1)=(q:Int):=zn1 (by omega) (by omega);have O0:IntKind.i64.wrap (zDN tn run q+1)=zDN tn run q+1:=zaj (by omega);have LT:IntKind.i64.wrap ((zzy p k tn l run q).best+1)=(zzy p k tn l run q).best+1:=zaj (by omega);have c1: ¬(zzy p k tn l run (q+1)).best<(zzy p k tn l run q).best:=by omega
     have c2: ¬(zzy p k tn l run (q+1)).best>(zzy p k tn l run q).best+1:=by omega
     have fin: ∀(f':Nat->Slot),(f' 16).v=vi (q+1+1:Nat)->(f' 14).v=vi (zzy p k tn l run (q+1)).best->(f' 15).v=vi (zDN tn run (q+1))->
      (f' 16).v=vi (q+1+1:Nat)/\(f' 14).v=vi (if q+1+1=0 then 0 else(zzy p k tn l run (q+1+1-1)).best)/\(f' 15).v=vi (if q+1+1=0 then 0 else zDN tn run (q+1+1-1)):=by
      intro f' g1 g2 g3;rw[if_neg (by omega),if_neg (by omega),Nat.add_sub_cancel];exact⟨g1,g2,g3⟩
     by_cases e1:y.thread=tn
     ·by_cases e2:y.step= -1
      ·have e3: ¬(-1:Int)>=0:=by omega
       have JZ:zA5 tn y=false:=by simp[zA5,e1,e2]
       rw[JZ,if_neg (by simp),Int.add_zero]at Jm;have c3: ¬(zzy p k tn l run (q+1)).best>zDN tn run q:=by omega
       simp -dsimp only[go_sem,seval,Lf,Ca,BS,A9,Aa,Cu,Fh,g0,LQ,hy,e1,e2,e3,c1,LT,c2,c3];exact⟨by omega,fin _ (by simp -dsimp only[go_sem,seval,hw]) (by simp -dsimp only[go_sem,seval]) (by simp -dsimp only[go_sem,seval,BS,Jm])⟩
      ·have e3:y.step>=0:=by omega
       have JZ:zA5 tn y=true:=by simp[zA5,e1,e2]
       rw[JZ,if_pos rfl]at Jm;have c3: ¬(zzy p k tn l run (q+1)).best>zDN tn run q+1:=by omega
       simp -dsimp only[go_sem,seval,Lf,Ca,BS,A9,Aa,Cu,Fh,g0,LQ,hy,e1,e3,O0,c1,LT,c2,c3];exact⟨by omega,fin _ (by simp -dsimp only[go_sem,seval,hw]) (by simp -dsimp only[go_sem,seval]) (by simp -dsimp only[go_sem,seval,Jm])⟩
     ·have JZ:zA5 tn y=false:=by simp[zA5,e1]
      rw[JZ,if_neg (by simp),Int.add_zero]at Jm;have c3: ¬(zzy p k tn l run (q+1)).best>zDN tn run q:=by omega
      simp -dsimp only[go_sem,seval,Lf,Ca,BS,A9,Aa,Cu,Fh,g0,LQ,hy,e1,c1,LT,c2,c3];exact⟨by omega,fin _ (by simp -dsimp only[go_sem,seval,hw]) (by simp -dsimp only[go_sem,seval]) (by simp -dsimp only[go_sem,seval,BS,Jm])⟩
   ·have:i=run.length+1:=by omega
    subst this;have A9: ¬((run.length+1:Nat):Int)<=(run.length:Int):=by omega
    simp -dsimp only[go_sem,seval,Lf,A9]
end Rg
end

/- Part of the proof of laws of relyguardlaw36. No condition. -/
import Derived.Test.YtaiokglcgiemnaaGreatDoorCartAP
import Derived.Test.YtaiokglcgiemnaaGreatDoorCartAK
set_option linter.unusedSimpArgs false
set_option linter.unusedVariables false
section
namespace Rg
open Go
theorem zzQ (p:Prog) (hf:zw6 p=true) (c:Config) (hc:IsB p c) (nx:Nat):
 ∃r h' n',DenR Γ G 202 [(.agg [.t (ints (c).mem),.t (ints (c).at_),.t (.sl ((c).buf.map (fun b=>[.sl (b.map Entry.enc)])))])] (fun _=>none) nx=some (r,h',n')/\ ∃vM vA kB,r= .agg [vM,vA,.ms kB 0 c.buf.length]/\zvP h' n' vM vA kB c:=by
 obtain⟨⟨m1,m2,m3,m4⟩,_⟩:=zw8 (zw9 hf).1;have l1:=hc.lm;have l2:=hc.la;have l3:=hc.lb;have e3:(c.buf.length:Int)<=4294967296:=by omega
 (refine zxC Γ202 rfl ?_;dsimp only[zq4])
 simp -dsimp only[go_sem,seval];refine zhG (by omega) ?_;rintro vM EW M4 Pd G4 ⟨AY,CZ⟩;simp -dsimp only[go_sem,seval,AY];refine zhG (by omega) ?_;rintro vA Es M3 Dm IL ⟨D3,C2⟩;unfold V.cells at CZ C2;simp -dsimp only[go_sem,seval,AY,CZ,D3,C2,e3,Int.le_refl]
 generalize P2:Av (Av (fun _=>none) EW) Es=H0 at *
 have n1:c.buf.length=c.buf.length:=rfl;refine zap 9007199250546864 c.buf.length (fun i f h x=>(f 22).v=vi i/\ ∃bd vs,h (nx+2+9)=some (.rows 1 (vs++List.replicate (c.buf.length-i) [.t .nils]) false)/\BufsV h bd vs (c.buf.take i)/\bd 0=nx+2+10/\bd i<=x/\(∀k,k<nx+2+9->h k=H0 k)) rfl ?_ ?_
 ·refine⟨by simp -dsimp only[go_sem,seval],fun _=>nx+2+10,[],by simp -dsimp only[go_sem,seval,List.nil_append,Nat.sub_zero],⟨rfl,fun q hq=>Nat.le_refl _,fun q b hb=>by simp at hb⟩,rfl,by simp -dsimp only[go_sem,seval];omega,?_⟩;intro k hk;have:k≠nx+2+9:=by omega
  simp -dsimp only[go_sem,seval,this]
 rintro i f u Ho x bs hi ⟨E6,bd,vs,hB,Ax,Cc,Hc,AE⟩;have hw:=zag i (by omega);simp -dsimp only[go_sem,seval,E6];refine zw1 (fun h=> ?_) (fun h=> ?_)<;>(try rw[h])<;>(try simp only[zab]at h)<;>(try simp -dsimp only[go_sem,seval,E6])
 ·obtain⟨b,hb,KN⟩:=zad ‹i<c.buf.length›;obtain⟨b1,b2,_⟩:=hc.buf i b hb;simp -dsimp only[go_sem,seval,E6,hb]
  have Ad:List.replicate (c.buf.length-i) [V.t T.nils]=[V.t T.nils]::List.replicate (c.buf.length-i-1) [V.t T.nils]:=by
   rw[<- List.replicate_succ];congr 1;omega
  have JC:vs.length=i:=by rw[Ax.len,List.length_take];omega
  have CV:nx+2+9<x:=by have:=Ax.le (q:=0) (r:=i) (by omega) (by rw[List.length_take];omega);omega
  refine zap 4503599090499712 b.length (fun j f' h' x'=>(f' 29).v=vi j/\ ∃v,h' (nx+2+9)=some (.rows 1 (vs++[v]::List.replicate (c.buf.length-i-1) [.t .nils]) false)/\zhU h' x x' v (b.take j)/\x<=x'/\(∀k,k<x->k≠nx+2+9->h' k=Ho k)) rfl ?_ ?_
  ·refine⟨by simp -dsimp only[go_sem,seval],.t .nils,by simp -dsimp only[go_sem,seval,hB,Ad],⟨[],.inl ⟨rfl,rfl⟩,by simp,by simp,by simp⟩,by simp -dsimp only[go_sem,seval];omega,fun k _ _=>rfl⟩
  rintro j f' u' Hi x' bs' hj ⟨Hg,v,Je,E4,Or,Dn⟩;have Ay:=zag j (by omega);simp -dsimp only[go_sem,seval,Hg];refine zw1 (fun h=> ?_) (fun h=> ?_)<;>(try rw[h])<;>(try simp only[zab]at h)<;>(try simp -dsimp only[go_sem,seval,Hg,E6])
  ·obtain⟨e,he,CX⟩:=zad ‹j<b.length›;have Cr:=b2 e CX;have Cm:=zaW Cr
   have Bu:(vs++[v]::List.replicate (c.buf.length-i-1) [V.t T.nils])[i]? =some [v]:=by
    rw[List.getElem?_append_right (by omega),JC,Nat.sub_self];rfl
   obtain⟨B3,Fs⟩:=E4.val;have D1:(i:Int)<(c.buf.length:Int):=by omega
   have DM:(0:Int)<=(i:Int):=by omega
   simp -dsimp only[go_sem,seval,Hg,E6,he,Entry.enc,Je,Bu,D1,DM,B3];refine zhG (by omega) ?_;rintro vc Er M2 MN Jw ⟨Bn,Bd⟩;simp -dsimp only[go_sem,seval,Bn];refine zhG (by have:=Cr.len;omega) ?_;rintro vv EV Kb KA KE ⟨CO,C6⟩;unfold V.cells at Bd C6;obtain⟨rows,By,AW,BX,Bk⟩:=E4
   have hG: ∀k,k<x'->updC (Av (Av Hi Er) EV) (x'+1+4+15) (some (O.rows 2 [[vc,vv]] false)) k=Hi k:=fun k hk=>by
    rw[zae,if_neg (by omega),KA k (by omega),MN k (by omega)]
   have Kc:za0 (updC (Av (Av Hi Er) EV) (x'+1+4+15) (some (O.rows 2 [[vc,vv]] false))) (x'+1+4+16) v 2 rows:=by
    rcases By with h | ⟨k,h1,h2,h3,h4⟩
    ·exact .inl h
    ·exact .inr ⟨k,h1,by omega,by rw[hG k h3];exact h4⟩
   have AA:=Kc.rowsS;simp -dsimp only[go_sem,seval,B3,Bn,Bd,CO,C6,AA];have Aa:(rows.all fun r=>decide (r.length=2))=true:=by simpa using BX
   refine zaM Kc (Nat.le_refl _) (by have:=Ax.len;rw[AW,List.length_take];omega) (by decide) rfl Aa ?_;intro v2 hp hO Be As;rcases hO with⟨_,CG⟩ | ⟨k2,rfl,AX,CC⟩
   ·simp at CG
   have Gb:x'+1+4+16<=k2:=by
    rcases Nat.lt_or_ge k2 (x'+1+4+16)with h1 | h1
    ·exact absurd rfl (Be k2 h1 0 _)
    ·exact h1
   have B0: ∀k,(k<x\/x'<=k\/ ∀rs fz,Hi k≠some (O.rows 2 rs fz))->zdc v k:=by
    intro k hk;rcases By with⟨rfl,_⟩ | ⟨k',rfl,h2,h3,h4⟩
    ·intro i n h0;cases h0
    ·refine zyp ?_ _ _;rintro rfl;rcases hk with hk | hk | hk
     ·omega
     ·omega
     ·exact hk _ _ h4
   have DH: ∀k,k<x'->(k<x\/ ∀rs fz,Hi k≠some (O.rows 2 rs fz))->Av (updC (Av (Av Hi Er) EV) (x'+1+4+15) (some (O.rows 2 [[vc,vv]] false))) hp k=Hi k:=by
    intro k hk Ag;rw[As k (by omega) (B0 k (by rcases Ag with h | h;exact .inl h;exact .inr (.inr h))),hG k hk]
   have Hf:=DH (nx+2+9) (by omega) (.inl (by omega));rw[Je]at Hf
   have En:(vs++[v]::List.replicate (c.buf.length-i-1) [V.t T.nils]).set i [V.ms k2 0 (rows++[[vc,vv]]).length]=vs++[V.ms k2 0 (rows++[[vc,vv]]).length]::List.replicate (c.buf.length-i-1) [V.t T.nils]:=by
    rw[List.set_append_right _ _ (by omega),JC,Nat.sub_self];rfl
   simp -dsimp only[go_sem,seval,Hg,E6,Hf,Bu,D1,DM,En];have CW: ∀(o:Option O) k,k≠nx+2+9->updC (Av (updC (Av (Av Hi Er) EV) (x'+1+4+15) (some (O.rows 2 [[vc,vv]] false))) hp) (nx+2+9) o k=Av (updC (Av (Av Hi Er) EV) (x'+1+4+15) (some (O.rows 2 [[vc,vv]] false))) hp k:=fun o k hk=>by rw[zae,if_neg hk]
   have Gn: ∀(o:Option O) x'',k2<x''->zhU (updC (Av (updC (Av (Av Hi Er) EV) (x'+1+4+15) (some (O.rows 2 [[vc,vv]] false))) hp) (nx+2+9) o) x x'' (.ms k2 0 (rows++[[vc,vv]]).length) (b.take (j+1)):=by
    intro o x'' HN;refine⟨rows++[[vc,vv]],.inr ⟨k2,rfl,by omega,HN,by rw[CW _ _ (by omega)];exact CC⟩,by rw[zM,AW,List.length_take,List.length_take];simp;omega,?_,?_⟩
    ·intro r hr;rcases List.mem_append.1 hr with hr | hr
     ·exact BX r hr
     ·rw[List.mem_singleton]at hr;rw[hr];rfl
    ·intro q e0 hq;rw[zac he]at hq;have Bt:(b.take j).length=j:=by rw[List.length_take];omega
     rcases Nat.lt_or_ge q j with h1 | h1
     ·rw[List.getElem?_append_left (by omega)]at hq;obtain⟨r,hr,hE⟩:=Bk q e0 hq;refine⟨r,by rw[List.getElem?_append_left (by rw[AW];omega)];exact hr,hE.keep (Nat.le_refl _) (by omega) fun k a1 a2 a3=> ?_⟩;rw[CW _ _ (by omega),DH k a2 (.inr a3)]
     ·have If:q=j:=by
       have:=(zH.1 hq).1;rw[zM,Bt,List.length_singleton]at this;omega
      subst If;rw[List.getElem?_append_right (by omega),Bt,Nat.sub_self]at hq;simp only[List.getElem?_cons_zero,zA]at hq;subst hq;refine⟨[vc,vv],by rw[List.getElem?_append_right (by rw[AW,Bt];exact Nat.le_refl _),AW,Bt,Nat.sub_self];rfl,?_⟩;have MX:zw5 e.cells≠[]:=fun h0=>Cr.ne (List.eq_nil_of_length_eq_zero (by rw[<- zw2,h0];rfl))
      have Aj:zw5 e.values≠[]:=fun h0=>Cr.ne (List.eq_nil_of_length_eq_zero (by rw[<- Cr.len,<- zw2,h0];rfl))
      rcases M2 with⟨_,h0⟩ | ⟨kc,rfl,Dx,I7⟩
      ·exact absurd h0 MX
      rcases Kb with⟨_,h0⟩ | ⟨kv,rfl,Eu,I1⟩
      ·exact absurd h0 Aj
      have qc:kc=x'+1+4+10:=by
       rcases Nat.decEq kc (x'+1+4+10)with h1 | h1
       ·exact absurd rfl (Jw kc h1 0 _)
       ·exact h1
      have qv:kv=x'+1+4+13:=by
       rcases Nat.decEq kv (x'+1+4+13)with h1 | h1
       ·exact absurd rfl (KE kv h1 0 _)
       ·exact h1
      refine⟨kc,kv,by rw[zw2,zw2],by omega,by omega,by omega,by omega,?_,?_⟩
      ·rw[CW _ _ (by omega),As kc (by omega) (B0 kc (.inr (.inl (by omega)))),zae,if_neg (by omega),KA kc (by omega)];exact I7
      ·rw[CW _ _ (by omega),As kv (by omega) (B0 kv (.inr (.inl (by omega)))),zae,if_neg (by omega)];exact I1
   refine⟨by omega,by simp -dsimp only[go_sem,seval,Ay],.ms k2 0 (rows++[[vc,vv]]).length,by simp -dsimp only[go_sem,seval],?_,by simp -dsimp only[go_sem,seval];omega,?_⟩
   ·simp -dsimp only[go_sem,seval];exact Gn _ _ (by omega)
   intro k hk Ky;simp -dsimp only[go_sem,seval,CW _ k Ky];rw[DH k (by omega) (.inl hk)];exact Dn k hk Ky
  ·have:j=b.length:=by omega
   subst this;rw[List.take_length]at E4;have Cu:c.buf.take (i+1)=c.buf.take i++[b]:=zac hb;have FT:(c.buf.take i).length=i:=by rw[List.length_take];omega
   have Gz:=Ax.snoc (h':=Hi) (x:=x') (v:=v) (b:=b) (by rw[FT];omega) (fun k k1 k2=>by rw[FT]at k2;exact Dn k (by omega) (by omega)) (by
    rw[FT];obtain⟨rows,By,AW,BX,Bk⟩:=E4;refine⟨rows,?_,AW,BX,fun q e0 hq=> ?_⟩
    ·rcases By with h | ⟨k,h1,h2,h3,h4⟩
     ·exact .inl h
     ·exact .inr ⟨k,h1,by omega,h3,h4⟩
    ·obtain⟨r,hr,hE⟩:=Bk q e0 hq
     exact⟨r,hr,hE.keep Hc (Nat.le_refl _) fun _ _ _ _=>rfl⟩)
   rw[FT,<- Cu]at Gz;refine⟨by omega,by simp -dsimp only[go_sem,seval,hw,E6],_,vs++[[v]],?_,Gz,by rw[if_pos (Nat.zero_le _)];exact Cc,by rw[if_neg (by omega)];simp -dsimp only[go_sem,seval];omega,?_⟩
   ·simp -dsimp only[go_sem,seval,Je];rw[zQ];rfl
   ·intro k hk;simp -dsimp only[go_sem,seval,Dn k (by omega) (by omega)];exact AE k hk
 ·have C0:i=c.buf.length:=by omega
  subst C0;rw[Nat.sub_self,List.replicate_zero,List.append_nil]at hB;rw[List.take_length]at Ax
  have hM:ziH Ho 0 (nx+5) vM (zw5 c.mem):=by
   rcases M4 with h1 | ⟨k,h1,h2,h3⟩
   ·exact .inl h1
   ·exact .inr ⟨k,h1,by omega,by omega,by rw[AE k (by omega),Dm k (by omega)];exact h3⟩
  have hA:ziH Ho (nx+5) (nx+8) vA (zw5 c.at_):=by
   rcases M3 with h1 | ⟨k,h1,h2,h3⟩
   ·exact .inl h1
   ·have hk:k=nx+2+5:=by
     rcases Nat.decEq k (nx+2+5)with h4 | h4
     ·subst h1;exact absurd rfl (IL k h4 0 _)
     ·exact h4
    exact .inr ⟨k,h1,by omega,by omega,by rw[AE k (by omega)];exact h3⟩
  refine⟨vM,vA,nx+2+9,rfl,nx+5,nx+8,bd,vs,hM,hA,by omega,by omega,by omega,hB,Ax,by simp -dsimp only[go_sem,seval];omega⟩
end Rg
end
section
namespace Rg
open Go
theorem zBG (m:List Int) (e:Entry) (hl:e.values.length=e.cells.length) (hs:e.cells.length<2^40) (hc: ∀n∈e.cells,0<=n/\n.toNat<m.length) (H:Nat->Option O) (nx k kc kv:Nat) (hk:H k=some (.rows 1 (zw5 m) false))
 (Dx:H kc=some (.rows 1 (zw5 e.cells) false)) (Eu:H kv=some (.rows 1 (zw5 e.values) false)) (h1:kc≠k) (h2:kv≠k):
 ∃r h' n',DenR Γ G 199 [.ms k 0 m.length,.agg [.ms kc 0 e.cells.length,.ms kv 0 e.values.length]] H nx=some (r,h',n')/\(r= .tup []/\h' k=some (.rows 1 (zw5 (zz2 m e)) false)/\(∀j,j≠k->h' j=H j)/\nx<=n'):=by
 (refine zxC Γ199 rfl ?_;dsimp only[f199])
 simp -dsimp only[go_sem,seval,Dx];refine zap 8388144 e.cells.length (fun i f h x=>(f 9).v=vi i/\h k=some (.rows 1 (zw5 (zzX m e i)) false)/\(∀j,j≠k->h j=H j)/\nx<=x) rfl ⟨by simp -dsimp only[go_sem,seval],by simp -dsimp only[go_sem,seval,hk,zzX,List.take_zero,List.foldl_nil],fun j _=>rfl,by simp -dsimp only[go_sem,seval];omega⟩ ?_;rintro i f u H2 x bs hi ⟨h9,hh,hj,hx⟩;have hw:=zag i (by omega);have Kx:=hj kc h1;have Ku:=hj kv h2;rw[Dx]at Kx;rw[Eu]at Ku;simp -dsimp only[go_sem,seval,h9];refine zw1 (fun h=> ?_) (fun h=> ?_)<;>(try rw[h])<;>(try simp only[zab]at h)<;>(try simp -dsimp only[go_sem,seval,h9])
 ·obtain⟨c,EL,B9⟩:=zad ‹i<e.cells.length›;obtain⟨v,hv,_⟩:=zad (show i<e.values.length by omega);obtain⟨c0,c1⟩:=hc c B9;have AR:=zhb (m:=m) EL hv;have Ac:=ziY m e i;have Bu:=zaE (l:=zzX m e i) (i:=c.toNat) (by omega);have AB:=zaD (zzX m e i) c.toNat v;have c2:c<(m.length:Int):=by omega
  have i0:(0:Int)<=(i:Int):=by omega
  have j1:i<e.cells.length:=by omega
  have j2:i<e.values.length:=by omega
  have i1:(i:Int)<(e.cells.length:Int):=by omega
  have i2:(i:Int)<(e.values.length:Int):=by omega
  have B4:(zw5 e.cells)[i]? =some [vi c]:=by simp[zw5,EL]
  have BX:(zw5 e.values)[i]? =some [vi v]:=by simp[zw5,hv]
  simp -dsimp only[go_sem,seval,h9,Kx,Ku,i0,i1,i2,j1,j2,B4,BX,hh,c0,c2,Bu];refine⟨by omega,by simp -dsimp only[go_sem,seval,hw],?_,?_,by simp -dsimp only[go_sem,seval];omega⟩
  ·rw[AR];simp -dsimp only[go_sem,seval,AB]
  ·intro j MI;simp -dsimp only[go_sem,seval,MI,hj]
 ·have:i=e.cells.length:=by omega
  subst this;rw[ziZ hl]at hh;refine⟨rfl,hh,hj,by simp -dsimp only[go_sem,seval];omega⟩
theorem zBV (A:List (List V)) (hA: ∀r∈A,r.length=2) (hn:A.length<2^20) (i:Nat) (hi:i<A.length) (H:Nat->Option O) (nx k:Nat) (hk:H k=some (.rows 2 A false)) (G2:k<nx):
 ∃r h' n',DenR Γ G 203 [.ms k 0 A.length,vi i,vi ((i+1:Nat):Int)] H nx=some (r,h',n')/\ ∃k',r= .ms k' 0 (A.length-1)/\h' k'=some (.rows 2 (A.eraseIdx i++[[.t .nils,.t .nils]]) false)/\(∀j,j<nx->j≠k->h' j=H j)/\(k'=k\/nx<=k'):=by
 have g1:(0:Int)<=(i:Int):=by omega
 have g2:(i:Int)<=((i+1:Nat):Int):=by omega
 have g3:((i+1:Nat):Int)<=(A.length:Int):=by omega
 have g4:(0:Int)<=((i+1:Nat):Int):=by omega
 have g5:(i:Int)<=(A.length:Int):=by omega
 have g6: ¬(i:Int)=((i+1:Nat):Int):=by omega
 have g7:(A.length:Int)<=(A.length:Int):=Int.le_refl _;have g8: ¬((i+1:Nat):Int)=0:=by omega
 have s0:((i:Int)-0).toNat=i:=by omega
 have s1:((A.length:Int)-((i+1:Nat):Int)).toNat=A.length-(i+1):=by omega
 have s2:i<=A.length:=by omega
 have s3:rowsS H (.ms k (i+1) (A.length-(i+1)))=some (A.drop (i+1)):=by
  simp only[rowsS,hk,rd];rw[if_pos (by omega),List.take_of_length_le (by simp)]
 have s4:(A.take i).length=i:=by rw[List.length_take];omega
 have Aa: ∀l:List (List V),(∀r∈l,r∈A)->(l.all fun r=>decide (r.length=2))=true:=fun l hl=>zN.2 fun r hr=>by simpa using hA r (hl r hr)
 (refine zxC Γ203 rfl ?_;dsimp only[zq3])
 simp -dsimp only[go_sem,seval,hk,g1,g2,g3,g4,g5,g6,g7,g8,false_and,and_false,if_false,s0,s1,s2,s3];unfold zyh;rw[if_pos ⟨⟨by rw[s4,List.length_drop];omega,by decide⟩,Aa _ fun r hr=>List.mem_of_mem_drop hr,Aa _ fun r hr=>List.mem_of_mem_take hr⟩];have A8:(A.length:Int)-1=((A.length-1:Nat):Int):=by omega
 by_cases FV:i+1=A.length
 ·have hd:A.drop (i+1)=[]:=List.drop_of_length_le (by omega);rw[hd];simp only[List.isEmpty_nil,if_true,zbz,zar];have q2:((A.length:Int)-(i:Int)).toNat=1:=by omega
  have q3: ¬(A.length:Int)<=(i:Int):=by omega
  have q4:zfB H 2 (i:Int) (A.length:Int) (.ms k 0 i)=some (.ms k i 1):=by
   simp only[zfB,hk];rw[if_pos ⟨trivial,by omega,by omega,by omega⟩];simp only[Int.toNat_natCast,Nat.zero_add,q2]
  have q5:A.take i++[[V.t T.nils,V.t T.nils]]++A.drop (i+1)=A.eraseIdx i++[[.t .nils,.t .nils]]:=by
   rw[List.eraseIdx_eq_take_drop_succ,hd];simp
  have q6:i+1<=A.length:=hi;simp -dsimp only[go_sem,seval,hk,g1,q2,q3,q4,false_and,and_false,if_false,List.replicate_one,q5,q6];refine⟨k,by rw[show A.length-1=i by omega];rfl,by simp[zav,zar,zae],fun j _ hj=>by simp[zav,zar,zae,hj],.inl rfl⟩
 ·have hd:(A.drop (i+1)).isEmpty=false:=by
   cases H9:A.drop (i+1)with
   | nil=>have:=congrArg List.length H9;rw[List.length_drop]at this;simp at this;omega
   | cons _ _=>rfl
  rw[hd];simp only[zG,if_false,hk,and_self,if_true,zbz];have hm:(A.take i).length+(A.drop (i+1)).length=A.length-1:=by rw[s4,List.length_drop];omega
  have q3: ¬(A.length:Int)<=((A.length-1:Nat):Int):=by omega
  have hR:zxY (A.take i) (A.drop (i+1)) A=A.eraseIdx i++A.drop (A.length-1):=by
   unfold zxY;rw[hm,if_neg (by omega),List.eraseIdx_eq_take_drop_succ]
  have Nt:(A.eraseIdx i++A.drop (A.length-1)).length=A.length:=by
   rw[zM,List.length_eraseIdx_of_lt hi,List.length_drop];omega
  rw[hm,hR]
  have q4: ∀(h:Nat->Option O) q,zfB (updC h q (some (O.rows 2 (A.eraseIdx i++A.drop (A.length-1)) false))) 2 ((A.length-1:Nat):Int) (A.length:Int) (.ms q 0 (A.length-1))=some (.ms q (A.length-1) 1):=by
   intro h q;simp only[zfB,zae,if_true];rw[if_pos ⟨trivial,by omega,by omega,by rw[Nt];omega⟩];simp only[Int.toNat_natCast,Nat.zero_add]
   congr 1;congr 1;omega
  have e1:(A.eraseIdx i).length=A.length-1:=List.length_eraseIdx_of_lt hi
  have q5:(A.eraseIdx i++A.drop (A.length-1)).take (A.length-1)++[[V.t T.nils,V.t T.nils]]++(A.eraseIdx i++A.drop (A.length-1)).drop (A.length-1+1)=A.eraseIdx i++[[.t .nils,.t .nils]]:=by
   rw[List.take_append_of_le_length (by omega),List.take_of_length_le (by omega),List.drop_of_length_le (by rw[Nt];omega),List.append_nil]
  have q6:A.length-1+1<=(A.eraseIdx i++A.drop (A.length-1)).length:=by rw[Nt];omega
  simp -dsimp only[go_sem,seval,q3,q4,false_and,and_false,if_false,List.replicate_one,q5,q6];refine⟨_,rfl,by simp[zav,zar,zae],fun j hj A8=> ?_,.inr (by omega)⟩;have K3:j≠nx+1+6+3+3+6:=by omega
  rw[zav,zar,zav,zav,zar,zae,if_neg K3,zae,if_neg K3,zae,if_neg A8]
theorem zbt {h:Nat->Option O} {d:Nat}: ∀(vs:List (List V)) (bs:List (List Entry)),vs.length=bs.length->(∀(j:Nat) (b:List Entry),bs[j]? =some b-> ∃v,vs[j]? =some [v]/\toT h d v=some (.sl (b.map Entry.enc)))->
 vs.mapM (fun row=>row.mapM (toT h d))=some (bs.map fun b=>[.sl (b.map Entry.enc)])
 | [],[],_,_=>rfl
 | [],_::_,hl,_=>by simp at hl
 | _::_,[],hl,_=>by simp at hl
 | r::vs,b::bs,hl,hj=>by
   have ih:=zbt vs bs (by simpa using hl) fun j e he=>hj (j+1) e he
   obtain⟨v,hr,ht⟩:=hj 0 b rfl;simp only[List.getElem?_cons_zero,zA]at hr;subst hr;rw[List.mapM_cons,List.mapM_cons,ht,List.mapM_nil,ih];rfl
theorem zj6 (p:Prog) (hf:zw6 p=true) (k:Int) (c:Config) (hc:IsB p c) (t:Nat) (ht:t<p.threads.length) (i:Nat) (e:Entry) (he:(zxq c t)[i]? =some e):
 Den Γ G 191 [stV p k c,vi t,vi i]=some (.agg [.t (ints (zxr c t i).mem),.t (ints (zxr c t i).at_),.t (.sl ((zxr c t i).buf.map (fun b=>[.sl (b.map Entry.enc)])))]):=by
 obtain⟨⟨m1,m2,m3,m4⟩,_⟩:=zw8 (zw9 hf).1;have l1:=hc.lm;have l2:=hc.la;have l3:=hc.lb;have Ae:=zx4 (c:=c) (t:=t) (by omega);obtain⟨b1,b2,_⟩:=hc.buf t _ Ae;have Cb:=(zH.1 he).1;have Cr:=b2 e (zL he);have Cm:=zaW Cr;unfold stV
 (refine zw3 Γ191 rfl ?_;dsimp only[f191])
 simp -dsimp only[go_sem,seval];refine zas (zzQ p hf c hc _) ?_;rintro r h' n' ⟨vM,vA,kB,rfl,x1,x2,bd,vs,hM,hA,CK,Ba,AX,hB,Ax,Hb⟩;obtain⟨Bn,Bd⟩:=hA.val;have PU:=hA;obtain⟨v,hv,rows,By,AW,BX,Bk⟩:=Ax.at_ t _ Ae;have N6:=Ax.le (q:=0) (r:=t) (by omega) (by omega);have N5:=Ax.le (q:=t+1) (r:=c.buf.length) (by omega) (Nat.le_refl _);obtain⟨r,hr,kc,kv,rfl,a1,a2,a3,a4,a5,a6⟩:=Bk i e he;rcases By with⟨_,h0⟩ | ⟨kb,rfl,b3,b4,b5⟩
 ·exfalso;rw[h0]at hr;simp at hr
 rcases hM with⟨_,h0⟩ | ⟨kM,rfl,m5,m6,m7⟩
 ·exfalso;have h1:=congrArg List.length h0;rw[zw2]at h1;have:=zyw Cr (zz3 Cr);simp at h1;rw[h1]at l1;simp at l1;omega
 unfold V.cells at Bd;have i0:(0:Int)<=(i:Int):=by omega
 have i1:(i:Int)<(rows.length:Int):=by omega
 have t0:(0:Int)<=(t:Int):=by omega
 have t1:(t:Int)<(c.buf.length:Int):=by omega
 have hw:=zag i (by omega);simp -dsimp only[go_sem,seval,Bn,Bd,hB,hv,t0,t1,i0,i1,b5,hr];rw[zw2];refine zas (zBG c.mem e Cr.len (by omega) (fun n hn=>by have:=zyw Cr hn;omega) _ _ kM kc kv (by simp -dsimp only[go_sem,seval,m7]) (by simp -dsimp only[go_sem,seval,a5]) (by simp -dsimp only[go_sem,seval,a6]) (by omega) (by omega)) ?_;rintro r2 h2 n2 ⟨rfl,g1,g2,g3⟩;have Hf:=g2 kB (by omega);rw[hB]at Hf;have b52:=g2 kb (by omega);rw[b5]at b52;simp -dsimp only[go_sem,seval,Bn,Bd,Hf,hv,t0,t1,i0,i1,b52,hw];refine zas (zBV rows BX (by omega) i (by omega) h2 _ kb b52 (by omega)) ?_;rintro r3 h3 n3 ⟨kd,rfl,d1,d2,d3⟩;have Og:=d2 kB (by omega) (by omega);rw[Hf]at Og;have Ey:kd≠kB:=by omega
 have Jk:vs[t]? =some [.ms kb 0 rows.length]:=hv;simp -dsimp only[go_sem,seval,Bn,Bd,Og,hv,t0,t1];have hC:zxr c t i=⟨zz2 c.mem e,c.at_,c.buf.set t ((zxq c t).eraseIdx i)⟩:=by simp only[zxr,he]
 have AJ: ∀(o:Option O) q,q<n'->q≠kB->q≠kM->q≠kb->updC h3 kB o q=h' q:=fun o q q1 q2 q3 q4=>by
  rw[zae,if_neg q2,d2 q (by omega) q4,g2 q q3]
 have f0: ¬kM=kB:=by omega
 have f1:h3 kM=some (.rows 1 (zw5 (zz2 c.mem e)) false):=by rw[d2 kM (by omega) (by omega)];exact g1
 have f2:(zw5 (zz2 c.mem e)).length=c.mem.length:=by rw[zw2,zgh]
 have f3:List.take c.mem.length (zw5 (zz2 c.mem e))=zw5 (zz2 c.mem e):=zaC f2.symm
 have f4: ∀o:Option O,toT (updC h3 kB o) 1000 vA=some (ints c.at_):=fun o=>
  (hA.keep fun q q1 q2=>AJ o q (by omega) (by omega) (by omega) (by omega)).tree 999
 have f5: ∀v,(vs.set t [v]).length=c.buf.length:=fun v=>by rw[List.length_set];exact Ax.len
 have f6: ∀v,List.take c.buf.length (vs.set t [v])=vs.set t [v]:=fun v=>zaC (f5 v).symm
 have f7: ∀o:Option O,(vs.set t [V.ms kd 0 (rows.length-1)]).mapM (fun row=>row.mapM (toT (updC h3 kB o) 999))=some ((c.buf.set t ((zxq c t).eraseIdx i)).map fun b=>[.sl (b.map Entry.enc)]):=by
  intro o;refine zbt _ _ (by rw[f5,List.length_set]) fun j b hb=> ?_
  rw[List.getElem?_set]at hb
  by_cases hj:t=j
  ·subst hj;rw[if_pos rfl,if_pos (by omega)]at hb;simp only[zA]at hb;subst hb;refine⟨_,by rw[List.getElem?_set,if_pos rfl,if_pos (by have:=Ax.len;omega)],?_⟩;have hd:updC h3 kB o kd=some (.rows 2 (rows.eraseIdx i++[[.t .nils,.t .nils]]) false):=by rw[zae,if_neg Ey];exact d1
   have e1:(rows.eraseIdx i).length=rows.length-1:=List.length_eraseIdx_of_lt (by omega);have e2:rows.length-1<=(rows.eraseIdx i++[[V.t T.nils,V.t T.nils]]).length:=by rw[zM,e1];omega
   have e3:List.take (rows.length-1) (rows.eraseIdx i++[[V.t T.nils,V.t T.nils]])=rows.eraseIdx i:=by
    rw[List.take_append_of_le_length (by omega),List.take_of_length_le (by omega)]
   have e4:=zdY (h:=updC h3 kB o) (d:=998) (rows.eraseIdx i) ((zxq c t).eraseIdx i) (by rw[e1,List.length_eraseIdx_of_lt Cb,AW]) fun q e0 hq=>by
    rw[List.getElem?_eraseIdx]at hq⊢
    have key: ∀q',(zxq c t)[q']? =some e0-> ∃r:List V,rows[q']? =some r/\r.mapM (toT (updC h3 kB o) 998)=some (Entry.enc e0):=fun q' DZ=>by
     obtain⟨r,hr,hE⟩:=Bk q' e0 DZ;exact⟨r,hr,(hE.keep (Nat.le_refl _) (Nat.le_refl _) fun z z1 z2 z3=>AJ o z (by omega) (by omega) (by omega) (by rintro rfl;exact z3 _ _ b5)).tree 997⟩
    split at hq
    ·rename_i h1;rw[if_pos h1];exact key _ hq
    ·rename_i h1;rw[if_neg h1];exact key _ hq
   simp only[toT,hd,rd,Nat.zero_add,e2,if_true,List.drop_zero,e3,zC,zD,e4]
  ·rw[if_neg hj]at hb;obtain⟨u,hu,Jd⟩:=Ax.at_ j b hb;have Bt:=(zH.1 hb).1;refine⟨u,by rw[List.getElem?_set,if_neg hj];exact hu,?_⟩;refine(Jd.keep (Nat.le_refl _) fun q q1 q2=> ?_).tree 997;have u1:=Ax.le (q:=0) (r:=j) (by omega) (by omega);have u2:=Ax.le (q:=j+1) (r:=c.buf.length) (by omega) (Nat.le_refl _);refine AJ o q (by omega) (by omega) (by omega) ?_;rintro rfl;rcases Nat.lt_or_ge j t with h1 | h1
   ·have:=Ax.le (q:=j+1) (r:=t) (by omega) (by omega);omega
   ·have:=Ax.le (q:=t+1) (r:=j) (by omega) (by omega);omega
 rw[hC];simp -dsimp only[go_sem,seval,f0,f1,f2,f3,f4,f5,f6,f7,zaL,Nat.le_refl]
theorem zeK {p:Prog} {set:List Assign} (h:SetOk p set):set.length<=p.cells.length:=by
 have h1:=zdI p.cells.length (set.map Assign.cell) (by
  rw[List.nodup_iff_pairwise_ne,List.pairwise_iff_getElem];intro i j hi hj At he;simp only[List.length_map]at hi hj;simp only[List.getElem_map]at he;have:=h.dif i j _ _ (zI hi) (zI hj) he
  omega) (fun x hx=>by
  obtain⟨a,ha,rfl⟩:=List.mem_map.1 hx;have:=(h.rng a ha).1;simp only[inR,decide_eq_true_eq]at this
  exact this)
 simpa using h1
theorem zlD (p:Prog) (hf:zw6 p=true) (k:Int) (c:Config) (hc:IsB p c) (t:Nat) (x:Thread) (hx:p.threads[t]? =some x) (i:Nat) (s:Step) (hs:x.steps[i]? =some s) (y:Choice) (hy:y=⟨t,i,0⟩) (BB:s.kind≠3):
 Den Γ G 192 [stV p k c,(.agg [.t (ti (y).thread),.t (ti (y).step),.t (ti (y).cell)]),.t (ints (zxd c t))]=some (.agg [.t (ints (zyO p c t s).mem),.t (ints (zyO p c t s).at_),.t (.sl ((zyO p c t s).buf.map (fun b=>[.sl (b.map Entry.enc)])))]):=by
 subst hy;obtain⟨⟨m1,m2,m3,m4⟩,_⟩:=zw8 (zw9 hf).1;have l1:=hc.lm;have l2:=hc.la;have l3:=hc.lb;have Bc:=za4 hf hx hs;have ht:t<p.threads.length:=(zH.1 hx).1;have En:=zeK Bc.set
 have B9: ∀a∈s.set,0<=a.cell/\a.cell<c.mem.length:=fun a ha=>by
  have:=(Bc.rng.2 a ha).1;simp only[inR,decide_eq_true_eq]at this;omega
 unfold stV
 (refine zw3 Γ192 rfl ?_;dsimp only[f192])
 simp -dsimp only[go_sem,seval];refine zas (zzQ p hf c hc _) ?_;rintro r h' n' ⟨vM,vA,kB,rfl,x1,x2,bd,vs,hM,hA,CK,Ba,AX,hB,Ax,Hb⟩;obtain⟨Bn,Bd⟩:=hM.val;rcases hA with⟨_,h0⟩ | ⟨kA,rfl,a1,a2,a3⟩
 ·exfalso;have h1:=congrArg List.length h0;rw[zw2]at h1;simp at h1;rw[h1]at l2;simp at l2;omega
 unfold V.cells at Bd;simp -dsimp only[go_sem,seval,Bn,Bd,hx,hs]
 refine zap 18889465931476433377792 s.set.length (fun j f h z=>(f 31).v=vi j/\ziH h 0 x1 vM (zw5 (zxh c.mem (zxd c t) (s.set.take j)))/\(∀q,x1<=q->h q=h' q)/\n'<=z) rfl
  ⟨by simp -dsimp only[go_sem,seval],hM,fun _ _=>rfl,by simp -dsimp only[go_sem,seval];omega⟩ ?_
 rintro j f u H z bs hj ⟨Eg,EZ,AE,hz⟩;have hw:=zag j (by omega);simp -dsimp only[go_sem,seval,Eg];refine zw1 (fun h=> ?_) (fun h=> ?_)<;>(try rw[h])<;>(try simp only[zab]at h)<;>(try simp -dsimp only[go_sem,seval,Eg])
 ·obtain⟨a,ha,Cj⟩:=zad ‹j<s.set.length›;obtain⟨c0,c1⟩:=B9 a Cj;have Aj:=zbT a.to (zxd c t) (zxd c t);have Ac:(zxh c.mem (zxd c t) (s.set.take j)).length=c.mem.length:=zaS (zxd c t) _ c.mem;rcases EZ with⟨_,h0⟩ | ⟨kM,rfl,m5,m6,m7⟩
  ·exfalso;have h1:=congrArg List.length h0;rw[zw2,Ac]at h1;simp at h1;rw[h1]at c1;simp at c1;omega
  have Bu:=zaE (l:=zxh c.mem (zxd c t) (s.set.take j)) (i:=a.cell.toNat) (by omega);have AB:=zaD (zxh c.mem (zxd c t) (s.set.take j)) a.cell.toNat (a.to.eval (zxd c t) (zxd c t));rw[<- zdS ha]at AB;have Cz:(zw5 (zxh c.mem (zxd c t) (s.set.take j))).length=c.mem.length:=by rw[zw2,Ac]
  have Ea:(zw5 (zxh c.mem (zxd c t) (s.set.take (j+1)))).length=c.mem.length:=by rw[zw2,zaS]
  simp -dsimp only[go_sem,seval,Eg,ha,Aj,BB,Cz,c0,c1,m7,Bu,AB];refine⟨by omega,by simp -dsimp only[go_sem,seval,hw],.inr ⟨kM,by rw[Ea,Cz],m5,m6,by simp -dsimp only[go_sem,seval]⟩,?_,by simp -dsimp only[go_sem,seval];omega⟩;intro q hq;have OD:q≠kM:=by omega
  simp -dsimp only[go_sem,seval,OD];exact AE q hq
 ·have:j=s.set.length:=by omega
  subst this;rw[List.take_length]at EZ;have g1:H kA=some (.rows 1 (zw5 c.at_) false):=by rw[AE kA a1];exact a3
  have g2:H kB=some (.rows 1 vs false):=by rw[AE kB (by omega)];exact hB
  have Bu:=zaE (l:=c.at_) (i:=t) (by omega);have AB:=zaD c.at_ t s.to;have Ai:(t:Int)<(c.at_.length:Int):=by omega
  have t0:(0:Int)<=(t:Int):=by omega
  have L9:kA≠kB:=by omega
  have Gv:kB≠kA:=by omega
  have fM: ∀o,toT (updC H kA o) 1000 vM=some (ints (zxh c.mem (zxd c t) s.set)):=fun o=>
   (EZ.keep fun q q1 q2=>by rw[zae,if_neg (by omega)]).tree 999
  have f5:vs.length=c.buf.length:=Ax.len;have f6:List.take c.buf.length vs=vs:=zaC f5.symm
  have f7: ∀o:Option O,vs.mapM (fun row=>row.mapM (toT (updC H kA o) 999))=some (c.buf.map fun b=>[.sl (b.map Entry.enc)]):=fun o=>
   zbt _ _ f5 fun q b hq=>by
    obtain⟨u,hu,Nz⟩:=Ax.at_ q b hq;have FD:=(zH.1 hq).1;have u1:=Ax.le (q:=0) (r:=q) (by omega) (by omega);exact⟨u,hu,(Nz.keep (Nat.le_refl _) fun z z1 z2=>by rw[zae,if_neg (by omega),AE z (by omega)]).tree 997⟩
  simp -dsimp only[go_sem,seval,BB,Bn,Bd,g1,Bu,Ai,t0,AB,zw2]
  by_cases hk:s.kind=6
  ·obtain⟨hr,_⟩:=Bc.tgt (.inl hk);simp only[inR,decide_eq_true_eq]at hr;have q1:s.target<(c.at_.length:Int):=by omega
   have q2:=hr.1;have Gd:=zaE (l:=c.at_.set t s.to) (i:=s.target.toNat) (by simp;omega);have Ek:=zaD (c.at_.set t s.to) s.target.toNat 0;have f2:(zw5 ((c.at_.set t s.to).set s.target.toNat 0)).length=c.at_.length:=by rw[zw2];simp
   have f3:List.take c.at_.length (zw5 ((c.at_.set t s.to).set s.target.toNat 0))=zw5 ((c.at_.set t s.to).set s.target.toNat 0):=zaC f2.symm;have hE:zyO p c t s=⟨zxh c.mem (zxd c t) s.set,(c.at_.set t s.to).set s.target.toNat 0,c.buf⟩:=by simp only[zyO,if_neg BB,if_pos hk]
   rw[hE];simp -dsimp only[go_sem,seval,hk,Bn,Bd,q1,q2,Gd,Ek,zw2,List.length_set,Gv,g2,zdy,fM,f3,f5,f6,f7,zaL,Nat.le_refl]
  ·have f2:(zw5 (c.at_.set t s.to)).length=c.at_.length:=by rw[zw2];simp
   have f3:List.take c.at_.length (zw5 (c.at_.set t s.to))=zw5 (c.at_.set t s.to):=zaC f2.symm;have hE:zyO p c t s=⟨zxh c.mem (zxd c t) s.set,c.at_.set t s.to,c.buf⟩:=by simp only[zyO,if_neg BB,if_neg hk]
   rw[hE];simp -dsimp only[go_sem,seval,hk,Bn,Bd,zw2,List.length_set,Gv,g2,fM,f3,f5,f6,f7,zaL,Nat.le_refl]
def ztu (h:Nat->Option O) (lo z:Nat) (vc vv:V) (cs ws:List Int):Prop:=
 (vc= .t .nils/\vv= .t .nils/\cs=[]/\ws=[])\/ ∃kc kv,vc= .ms kc 0 (zw5 cs).length/\vv= .ms kv 0 (zw5 ws).length/\lo<=kc/\kc<z/\lo<=kv/\kv<z/\kc≠kv/\h kc=some (.rows 1 (zw5 cs) false)/\h kv=some (.rows 1 (zw5 ws) false)
theorem zlC (p:Prog) (hf:zw6 p=true) (k:Int) (c:Config) (hc:IsB p c) (t:Nat) (x:Thread) (hx:p.threads[t]? =some x) (i:Nat) (s:Step) (hs:x.steps[i]? =some s) (y:Choice) (hy:y=⟨t,i,0⟩) (BB:s.kind=3):
 Den Γ G 192 [stV p k c,(.agg [.t (ti (y).thread),.t (ti (y).step),.t (ti (y).cell)]),.t (ints (zxd c t))]=some (.agg [.t (ints (zyO p c t s).mem),.t (ints (zyO p c t s).at_),.t (.sl ((zyO p c t s).buf.map (fun b=>[.sl (b.map Entry.enc)])))]):=by
 subst hy;obtain⟨⟨m1,m2,m3,m4⟩,_⟩:=zw8 (zw9 hf).1;have l1:=hc.lm;have l2:=hc.la;have l3:=hc.lb;have Bc:=za4 hf hx hs;have ht:t<p.threads.length:=(zH.1 hx).1;have En:=zeK Bc.set
 have B9: ∀a∈s.set,0<=a.cell/\a.cell<c.mem.length:=fun a ha=>by
  have:=(Bc.rng.2 a ha).1;simp only[inR,decide_eq_true_eq]at this;omega
 unfold stV
 (refine zw3 Γ192 rfl ?_;dsimp only[f192])
 simp -dsimp only[go_sem,seval];refine zas (zzQ p hf c hc _) ?_;rintro r h' n' ⟨vM,vA,kB,rfl,x1,x2,bd,vs,hM,hA,CK,Ba,AX,hB,Ax,Hb⟩;obtain⟨Bn,Bd⟩:=hM.val;rcases hA with⟨_,h0⟩ | ⟨kA,rfl,a1,a2,a3⟩
 ·exfalso;have h1:=congrArg List.length h0;rw[zw2]at h1;simp at h1;rw[h1]at l2;simp at l2;omega
 unfold V.cells at Bd;have Nm:=Ax.le (q:=0) (r:=c.buf.length) (by omega) (Nat.le_refl _);simp -dsimp only[go_sem,seval,Bn,Bd,hx,hs]
 refine zap 18889465931476433377792 s.set.length (fun j f h z=>(f 31).v=vi j/\(f 9).v= .lb/\ ∃vc vv,(f 9).box=some [vc,vv]/\ztu h n' z vc vv (((s.set.take j).filter (zw7 p)).map Assign.cell) (((s.set.take j).filter (zw7 p)).map fun a=>a.to.eval (zxd c t) (zxd c t))/\
  ziH h 0 x1 vM (zw5 (zxh c.mem (zxd c t) ((s.set.take j).filter fun a=> !zw7 p a)))/\(∀q,x1<=q->q<n'->h q=h' q)/\n'<=z) rfl
  ⟨by simp -dsimp only[go_sem,seval],by simp -dsimp only[go_sem,seval],.t .nils,.t .nils,by simp -dsimp only[go_sem,seval],.inl ⟨rfl,rfl,rfl,rfl⟩,hM,fun _ _ _=>rfl,by simp -dsimp only[go_sem,seval];omega⟩ ?_
 rintro j f u H z bs hj ⟨Eg,h9,vc,vv,Fq,Dt,EZ,AE,hz⟩;have hw:=zag j (by omega);simp -dsimp only[go_sem,seval,Eg];refine zw1 (fun h=> ?_) (fun h=> ?_)<;>(try rw[h])<;>(try simp only[zab]at h)<;>(try simp -dsimp only[go_sem,seval,Eg])
 ·obtain⟨a,ha,Cj⟩:=zad ‹j<s.set.length›;obtain⟨c0,c1⟩:=B9 a Cj;obtain⟨y,hy,_⟩:=Bc.wid a Cj;have Aj:=zbT a.to (zxd c t) (zxd c t);have Bj:zw7 p a=decide (y.thread= -1):=by rw[zw7,zau hy]
  by_cases F5:y.thread= -1
  ·have EA:zw7 p a=true:=by rw[Bj];simpa using F5
   have Fs:Rg.valOf vc=some vc:=by rcases Dt with⟨rfl,_⟩ | ⟨_,_,rfl,_⟩<;>rfl
   have B3:Rg.valOf vv=some vv:=by rcases Dt with⟨_,rfl,_⟩ | ⟨_,_,_,rfl,_⟩<;>rfl
   generalize AU:((s.set.take j).filter (zw7 p)).map Assign.cell=cs at *
   generalize EP:(((s.set.take j).filter (zw7 p)).map fun a=>a.to.eval (zxd c t) (zxd c t))=ws at *
   have Cp:cs.length<=32:=by
    rw[<- AU,List.length_map];have:=List.length_filter_le (zw7 p) (s.set.take j);rw[List.length_take]at this;omega
   have GH:ws.length<=32:=by
    rw[<- EP,List.length_map];have:=List.length_filter_le (zw7 p) (s.set.take j);rw[List.length_take]at this;omega
   have FN: ∀q,(q<n'\/z<=q)->zdc vc q:=fun q hq=>by
    rcases Dt with⟨rfl,_⟩ | ⟨kc,kv,rfl,_,e1,e2,_⟩
    ·intro i n h0;cases h0
    ·exact zyp (by omega) _ _
   have B0: ∀q,(q<n'\/z<=q)->zdc vv q:=fun q hq=>by
    rcases Dt with⟨_,rfl,_⟩ | ⟨kc,kv,_,rfl,_,_,e1,e2,_⟩
    ·intro i n h0;cases h0
    ·exact zyp (by omega) _ _
   have Kd:za0 (updC H (z+1+4+6+14+4) (some (O.rows 1 [[V.t (ti a.cell)]] false))) (z+1+4+6+14+5) vc 1 (zw5 cs):=by
    rcases Dt with⟨rfl,_,rfl,_⟩ | ⟨kc,kv,rfl,_,e1,e2,e3,e4,e5,e6,e7⟩
    ·exact .inl ⟨rfl,rfl⟩
    ·exact .inr ⟨kc,rfl,by omega,by rw[zae,if_neg (by omega)];exact e6⟩
   have Hr:=Kd.rowsS;simp -dsimp only[go_sem,seval,Eg,h9,Fq,ha,Aj,BB,c0,hy,F5,Fs,Hr];refine zaM Kd (Nat.le_refl _) (by rw[zw2];omega) (by decide) rfl (zxw _) ?_;intro v1 EW Nx Im I2;rcases Nx with⟨_,CG⟩ | ⟨k1,rfl,MH,I9⟩
   ·simp at CG
   have MG:z+1+4+6+14+5<=k1:=by
    rcases Nat.lt_or_ge k1 (z+1+4+6+14+5)with h1 | h1
    ·exact absurd rfl (Im k1 h1 0 _)
    ·exact h1
   have FK: ∀q,q<z->zdc vc q->Av (updC H (z+1+4+6+14+4) (some (O.rows 1 [[V.t (ti a.cell)]] false))) EW q=H q:=fun q q1 q2=>by
    rw[I2 q (by omega) q2,zae,if_neg (by omega)]
   have FP:za0 (updC (Av (updC H (z+1+4+6+14+4) (some (O.rows 1 [[V.t (ti a.cell)]] false))) EW) (z+1+4+6+14+8+3) (some (O.rows 1 [[V.t (T.int IntKind.i64 (a.to.eval (zxd c t) (zxd c t)))]] false))) (z+1+4+6+14+8+4) vv 1 (zw5 ws):=by
    rcases Dt with⟨_,rfl,_,rfl⟩ | ⟨kc,kv,rfl,rfl,e1,e2,e3,e4,e5,e6,e7⟩
    ·exact .inl ⟨rfl,rfl⟩
    ·exact .inr ⟨kv,rfl,by omega,by rw[zae,if_neg (by omega),FK kv e4 (zyp (by omega) _ _)];exact e7⟩
   have DY:=FP.rowsS;simp -dsimp only[go_sem,seval,Eg,h9,Fq,B3,DY];refine zaM FP (Nat.le_refl _) (by rw[zw2];omega) (by decide) rfl (zxw _) ?_;intro v2 Es Jb Il FX;rcases Jb with⟨_,CG⟩ | ⟨k2,rfl,I8,CC⟩
   ·simp at CG
   have Gb:z+1+4+6+14+8+4<=k2:=by
    rcases Nat.lt_or_ge k2 (z+1+4+6+14+8+4)with h1 | h1
    ·exact absurd rfl (Il k2 h1 0 _)
    ·exact h1
   have FJ: ∀q,q<n'->Av (updC (Av (updC H (z+1+4+6+14+4) (some (O.rows 1 [[V.t (ti a.cell)]] false))) EW) (z+1+4+6+14+8+3) (some (O.rows 1 [[V.t (T.int IntKind.i64 (a.to.eval (zxd c t) (zxd c t)))]] false))) Es q=H q:=fun q hq=>by
    rw[FX q (by omega) (B0 q (.inl hq)),zae,if_neg (by omega),FK q (by omega) (FN q (.inl hq))]
   have IA:Av (updC (Av (updC H (z+1+4+6+14+4) (some (O.rows 1 [[V.t (ti a.cell)]] false))) EW) (z+1+4+6+14+8+3) (some (O.rows 1 [[V.t (T.int IntKind.i64 (a.to.eval (zxd c t) (zxd c t)))]] false))) Es k1=some (.rows 1 (zw5 cs++[[V.t (ti a.cell)]]) false):=by
    rw[FX k1 (by omega) (B0 k1 (.inr (by omega))),zae,if_neg (by omega)];exact I9
   have CE:(s.set.take (j+1)).filter (zw7 p)=(s.set.take j).filter (zw7 p)++[a]:=by
    rw[zac ha,List.filter_append];simp[EA]
   have Au:((s.set.take (j+1)).filter fun a=> !zw7 p a)=(s.set.take j).filter fun a=> !zw7 p a:=by
    rw[zac ha,List.filter_append];simp[EA]
   simp -dsimp only[go_sem,seval,Eg,h9];refine⟨by omega,by simp -dsimp only[go_sem,seval,hw],by simp -dsimp only[go_sem,seval,h9],.ms k1 0 (zw5 cs++[[V.t (ti a.cell)]]).length,.ms k2 0 (zw5 ws++[[V.t (T.int IntKind.i64 (a.to.eval (zxd c t) (zxd c t)))]]).length,by simp -dsimp only[go_sem,seval,Fq],?_,?_,?_,by simp -dsimp only[go_sem,seval];omega⟩
   ·rw[CE,List.map_append,List.map_append,AU,EP];refine .inr ⟨k1,k2,by rw[<- zaV];rfl,by rw[<- zaV];rfl,by omega,by simp -dsimp only[go_sem,seval];omega,by omega,by simp -dsimp only[go_sem,seval];omega,by omega,?_,?_⟩
    ·simp -dsimp only[go_sem,seval];rw[IA,<- zaV]
    ·simp -dsimp only[go_sem,seval];rw[CC,<- zaV]
   ·rw[Au];exact EZ.keep fun q q1 q2=>by simp -dsimp only[go_sem,seval];exact FJ q (by omega)
   ·intro q q1 q2;simp -dsimp only[go_sem,seval];rw[FJ q q2];exact AE q q1 q2
  ·have EA:zw7 p a=false:=by rw[Bj];simpa using F5
   have Ac:(zxh c.mem (zxd c t) ((s.set.take j).filter fun a=> !zw7 p a)).length=c.mem.length:=zaS (zxd c t) _ c.mem
   have CE:(s.set.take (j+1)).filter (zw7 p)=(s.set.take j).filter (zw7 p):=by
    rw[zac ha,List.filter_append];simp[EA]
   have Au:((s.set.take (j+1)).filter fun a=> !zw7 p a)=((s.set.take j).filter fun a=> !zw7 p a)++[a]:=by
    rw[zac ha,List.filter_append];simp[EA]
   rcases EZ with⟨_,h0⟩ | ⟨kM,rfl,m5,m6,m7⟩
   ·exfalso;have h1:=congrArg List.length h0;rw[zw2,Ac]at h1;simp at h1;rw[h1]at c1;simp at c1;omega
   have Bu:=zaE (l:=zxh c.mem (zxd c t) ((s.set.take j).filter fun a=> !zw7 p a)) (i:=a.cell.toNat) (by omega);have AB:=zaD (zxh c.mem (zxd c t) ((s.set.take j).filter fun a=> !zw7 p a)) a.cell.toNat (a.to.eval (zxd c t) (zxd c t))
   have EP:zxh c.mem (zxd c t) (((s.set.take j).filter fun a=> !zw7 p a)++[a])=(zxh c.mem (zxd c t) ((s.set.take j).filter fun a=> !zw7 p a)).set a.cell.toNat (a.to.eval (zxd c t) (zxd c t)):=by
    unfold zxh;rw[List.foldl_append];rfl
   rw[<- EP]at AB;have Cz:(zw5 (zxh c.mem (zxd c t) ((s.set.take j).filter fun a=> !zw7 p a))).length=c.mem.length:=by rw[zw2,Ac]
   have Ea:(zw5 (zxh c.mem (zxd c t) (((s.set.take j).filter fun a=> !zw7 p a)++[a]))).length=c.mem.length:=by rw[zw2,zaS]
   simp -dsimp only[go_sem,seval,Eg,h9,ha,Aj,BB,hy,F5,Cz,c0,c1,m7,Bu,AB];refine⟨by omega,by simp -dsimp only[go_sem,seval,hw],by simp -dsimp only[go_sem,seval,h9],vc,vv,by simp -dsimp only[go_sem,seval,Fq],?_,?_,?_,by simp -dsimp only[go_sem,seval];omega⟩
   ·rw[CE];rcases Dt with h1 | ⟨kc,kv,e0,e0',e1,e2,e3,e4,e5,e6,e7⟩
    ·exact .inl h1
    ·have u1:kc≠kM:=by omega
     have u2:kv≠kM:=by omega
     exact .inr ⟨kc,kv,e0,e0',e1,by simp -dsimp only[go_sem,seval];omega,e3,by simp -dsimp only[go_sem,seval];omega,e5,by simp -dsimp only[go_sem,seval,u1,e6],by simp -dsimp only[go_sem,seval,u2,e7]⟩
   ·rw[Au];exact .inr ⟨kM,by rw[Ea,Cz],m5,m6,by simp -dsimp only[go_sem,seval]⟩
   ·intro q q1 q2;have u1:q≠kM:=by omega
    simp -dsimp only[go_sem,seval,u1];exact AE q q1 q2
 ·have K1:j=s.set.length:=by omega
  subst K1;rw[List.take_length]at EZ Dt;have FG:=zcP Bc BB (zxd c t);rcases Dt with⟨_,_,h1,_⟩ | ⟨kc,kv,rfl,rfl,e1,e2,e3,e4,e5,e6,e7⟩
  ·exact absurd h1 FG.ne
  have g1:H kA=some (.rows 1 (zw5 c.at_) false):=by rw[AE kA a1 (by omega)];exact a3
  have g2:H kB=some (.rows 1 vs false):=by rw[AE kB (by omega) (by omega)];exact hB
  have Ae:=zx4 (c:=c) (t:=t) (by omega);obtain⟨v,hv,E4⟩:=Ax.at_ t _ Ae;have N6:=Ax.le (q:=0) (r:=t) (by omega) (by omega);have N5:=Ax.le (q:=t+1) (r:=c.buf.length) (by omega) (Nat.le_refl _);have P7:=Ax.mono t (by omega);obtain⟨B3,_⟩:=E4.val;obtain⟨rows,By,AW,BX,Bk⟩:=E4;have t0:(0:Int)<=(t:Int):=by omega
  have t1:(t:Int)<(c.buf.length:Int):=by omega
  generalize CT:(zw5 (List.map Assign.cell (List.filter (zw7 p) s.set))).length=nc at *
  generalize Kg:(zw5 (List.map (fun a=>a.to.eval (zxd c t) (zxd c t)) (List.filter (zw7 p) s.set))).length=nv at *
  have B1: ∀q,(q<bd t\/bd (t+1)<=q\/ ∀rs fz,h' q≠some (O.rows 2 rs fz))->zdc v q:=fun q hq=>by
   rcases By with⟨rfl,_⟩ | ⟨kb,rfl,d1,d2,d3⟩
   ·intro i n h0;cases h0
   ·refine zyp ?_ _ _;rintro rfl;rcases hq with h | h | h
    ·omega
    ·omega
    ·exact h _ _ d3
  have FP:za0 (updC H (z+1+3+11) (some (O.rows 2 [[V.ms kc 0 nc,V.ms kv 0 nv]] false))) (z+1+3+12) v 2 rows:=by
   rcases By with⟨rfl,h1⟩ | ⟨kb,rfl,d1,d2,d3⟩
   ·exact .inl ⟨rfl,h1⟩
   ·exact .inr ⟨kb,rfl,by omega,by rw[zae,if_neg (by omega),AE kb (by omega) (by omega)];exact d3⟩
  have DY:=FP.rowsS;simp -dsimp only[go_sem,seval,BB,h9,Fq,g2,hv,B3,t0,t1,DY];have Aa:(rows.all fun r=>decide (r.length=2))=true:=by simpa using BX
  obtain⟨b1,b2,_⟩:=hc.buf t _ Ae;refine zaM FP (Nat.le_refl _) (by rw[AW];omega) (by decide) rfl Aa ?_;intro v2 hp hO M1 DH;rcases hO with⟨_,CG⟩ | ⟨k2,rfl,I8,CC⟩
  ·simp at CG
  have Gb:z+1+3+12<=k2:=by
   rcases Nat.lt_or_ge k2 (z+1+3+12)with h1 | h1
   ·exact absurd rfl (M1 k2 h1 0 _)
   ·exact h1
  have Ep: ∀q,q<z->zdc v q->Av (updC H (z+1+3+11) (some (O.rows 2 [[V.ms kc 0 nc,V.ms kv 0 nv]] false))) hp q=H q:=fun q q1 q2=>by
   rw[DH q (by omega) q2,zae,if_neg (by omega)]
  have gB:=Ep kB (by omega) (B1 kB (.inl (by omega)));rw[g2]at gB;have gA:=Ep kA (by omega) (B1 kA (.inl (by omega)));rw[g1]at gA;have L9:kA≠kB:=by omega
  have Gv:kB≠kA:=by omega
  have Bu:=zaE (l:=c.at_) (i:=t) (by omega);have AB:=zaD c.at_ t s.to;have Ai:(t:Int)<(c.at_.length:Int):=by omega
  have k6: ¬s.kind=6:=by omega
  simp -dsimp only[go_sem,seval,BB,h9,Fq,gB,hv,t0,t1,L9,gA,Bu,Ai,AB,zw2];have hC:zyO p c t s=⟨zxh c.mem (zxd c t) (s.set.filter fun a=> !zw7 p a),c.at_.set t s.to,c.buf.set t (zxq c t++[zzb p (zxd c t) s.set])⟩:=by simp only[zyO,if_pos BB,if_neg k6]
  have CW: ∀(o o':Option O) q,q≠kA->q≠kB->updC (updC (Av (updC H (z+1+3+11) (some (O.rows 2 [[V.ms kc 0 nc,V.ms kv 0 nv]] false))) hp) kB o) kA o' q=Av (updC H (z+1+3+11) (some (O.rows 2 [[V.ms kc 0 nc,V.ms kv 0 nv]] false))) hp q:=fun o o' q q1 q2=>by
   rw[zae,if_neg q1,zae,if_neg q2]
  have AJ: ∀(o o':Option O) q,x1<=q->q<n'->q≠kA->q≠kB->zdc v q->updC (updC (Av (updC H (z+1+3+11) (some (O.rows 2 [[V.ms kc 0 nc,V.ms kv 0 nv]] false))) hp) kB o) kA o' q=h' q:=fun o o' q q0 q1 q2 q3 q4=>by
   rw[CW o o' q q2 q3,Ep q (by omega) q4,AE q q0 q1]
  have fM: ∀o o',toT (updC (updC (Av (updC H (z+1+3+11) (some (O.rows 2 [[V.ms kc 0 nc,V.ms kv 0 nv]] false))) hp) kB o) kA o') 1000 vM=some (ints (zxh c.mem (zxd c t) (s.set.filter fun a=> !zw7 p a))):=fun o o'=>
   (EZ.keep fun q q1 q2=>by rw[CW o o' q (by omega) (by omega),Ep q (by omega) (B1 q (.inl (by omega)))]).tree 999
  have f3:List.take c.at_.length (zw5 (c.at_.set t s.to))=zw5 (c.at_.set t s.to):=zaC (by rw[zw2,List.length_set]);have f5: ∀v,(vs.set t [v]).length=c.buf.length:=fun v=>by rw[List.length_set];exact Ax.len
  have f6: ∀v,List.take c.buf.length (vs.set t [v])=vs.set t [v]:=fun v=>zaC (f5 v).symm
  have f7: ∀o o':Option O,(vs.set t [V.ms k2 0 (rows++[[V.ms kc 0 nc,V.ms kv 0 nv]]).length]).mapM (fun row=>row.mapM (toT (updC (updC (Av (updC H (z+1+3+11) (some (O.rows 2 [[V.ms kc 0 nc,V.ms kv 0 nv]] false))) hp) kB o) kA o') 999))=some ((c.buf.set t (zxq c t++[zzb p (zxd c t) s.set])).map fun b=>[.sl (b.map Entry.enc)]):=by
   intro o o';refine zbt _ _ (by rw[f5,List.length_set]) fun j b hb=> ?_
   rw[List.getElem?_set]at hb
   by_cases hj:t=j
   ·subst hj;rw[if_pos rfl,if_pos (by omega)]at hb;simp only[zA]at hb;subst hb;refine⟨_,by rw[List.getElem?_set,if_pos rfl,if_pos (by have:=Ax.len;omega)],?_⟩;refine zhU.tree (lo:=bd t) (hi:=k2+1) ⟨rows++[[V.ms kc 0 nc,V.ms kv 0 nv]],.inr ⟨k2,rfl,by omega,by omega,by rw[CW o o' k2 (by omega) (by omega)];exact CC⟩,by rw[zM,zM,AW];rfl,?_,fun q e0 hq=> ?_⟩ 997
    ·intro r hr;rcases List.mem_append.1 hr with hr | hr
     ·exact BX r hr
     ·rw[List.mem_singleton]at hr;rw[hr];rfl
    ·rcases Nat.lt_or_ge q (zxq c t).length with h1 | h1
     ·rw[List.getElem?_append_left h1]at hq;obtain⟨r,hr,hE⟩:=Bk q e0 hq;refine⟨r,by rw[List.getElem?_append_left (by omega)];exact hr,hE.keep (Nat.le_refl _) (by omega) fun w w1 w2 w3=> ?_⟩;exact AJ o o' w (by omega) (by omega) (by omega) (by omega) (B1 w (.inr (.inr w3)))
     ·have If:q=(zxq c t).length:=by
       have:=(zH.1 hq).1;rw[zM,List.length_singleton]at this;omega
      subst If;rw[List.getElem?_append_right (Nat.le_refl _),Nat.sub_self]at hq;simp only[List.getElem?_cons_zero,zA]at hq;subst hq;refine⟨[V.ms kc 0 nc,V.ms kv 0 nv],by rw[List.getElem?_append_right (by omega),AW,Nat.sub_self];rfl,?_⟩
      have u1: ∀q,n'<=q->q<z->updC (updC (Av (updC H (z+1+3+11) (some (O.rows 2 [[V.ms kc 0 nc,V.ms kv 0 nv]] false))) hp) kB o) kA o' q=H q:=fun q q1 q2=>by
       rw[CW o o' q (by omega) (by omega),Ep q q2 (B1 q (.inr (.inl (by omega))))]
      rw[zw2]at CT Kg;refine⟨kc,kv,by rw[<- CT,<- Kg];rfl,by omega,by omega,by omega,by omega,by rw[u1 kc e1 e2];exact e6,by rw[u1 kv e3 e4];exact e7⟩
   ·rw[if_neg hj]at hb;obtain⟨u,hu,Jd⟩:=Ax.at_ j b hb;have Bt:=(zH.1 hb).1;refine⟨u,by rw[List.getElem?_set,if_neg hj];exact hu,?_⟩;refine(Jd.keep (Nat.le_refl _) fun q q1 q2=> ?_).tree 997;have u1:=Ax.le (q:=0) (r:=j) (by omega) (by omega);have u2:=Ax.le (q:=j+1) (r:=c.buf.length) (by omega) (Nat.le_refl _);refine AJ o o' q (by omega) (by omega) (by omega) (by omega) (B1 q ?_);rcases Nat.lt_or_ge j t with h1 | h1
    ·have:=Ax.le (q:=j+1) (r:=t) (by omega) (by omega);exact .inl (by omega)
    ·have:=Ax.le (q:=t+1) (r:=j) (by omega) (by omega);exact .inr (.inl (by omega))
  rw[hC];simp -dsimp only[go_sem,seval,Gv,fM,f3,f5,f6,f7,zw2,List.length_set,zaL,Nat.le_refl]
theorem zlE (p:Prog) (hf:zw6 p=true) (k:Int) (c:Config) (hc:IsB p c) (t:Nat) (x:Thread) (hx:p.threads[t]? =some x) (i:Nat) (s:Step) (hs:x.steps[i]? =some s) (y:Choice) (hy:y=⟨t,i,0⟩):
 Den Γ G 192 [stV p k c,(.agg [.t (ti (y).thread),.t (ti (y).step),.t (ti (y).cell)]),.t (ints (zxd c t))]=some (.agg [.t (ints (zyO p c t s).mem),.t (ints (zyO p c t s).at_),.t (.sl ((zyO p c t s).buf.map (fun b=>[.sl (b.map Entry.enc)])))]):=by
 by_cases hk:s.kind=3
 ·exact zlC p hf k c hc t x hx i s hs y hy hk
 ·exact zlD p hf k c hc t x hx i s hs y hy hk
def stT (p:Prog) (k:Int) (c:Config):List T:=[ints c.mem,ints c.at_,.sl (c.buf.map fun b=>[.sl (b.map Entry.enc)]),.sl (p.cells.map Cell.enc),.sl (p.modules.map Contract.enc),.sl (p.locks.map Lock.enc),.sl (p.threads.map Thread.enc),ti k]
theorem zmN (p:Prog) (k:Int) (c:Config) (t:Nat):Den Γ G 190 [stV p k c,vi t]=some (.t (.fn 200 [] [.ip (stT p k c),.ip [ti t]])):=by
 unfold stV stT
 (refine zw3 Γ190 rfl ?_;dsimp only[f190])
 simp -dsimp only[go_sem,seval]
 done
theorem zCb (p:Prog) (hf:zw6 p=true) (k:Int) (c:Config) (hc:IsB p c) (t:Nat) (ht:t<p.threads.length) (ky:Nat) (Inv:Nat->(Nat->Option O)->Nat->Prop) (Stop:(Nat->Option O)->Nat->Prop)
 (Cf: ∀i H n m,Inv i H n->n<=m->Inv i H m) (Al: ∀H n m,Stop H n->n<=m->Stop H m)
 (E9: ∀i e H n,(zxq c t)[i]? =some e->Inv i H n->if zyy k (zxq c t) i e then ∃cont h' n',DenY Γ G ky [vi i,.agg [.t (ints e.cells),.t (ints e.values)]] H n=some (vb cont,h',n')/\(if cont then Inv (i+1) h' n' else Stop h' n')else Inv (i+1) H n)
 (H:Nat->Option O) (n:Nat) (h0:Inv 0 H n):
 ∃r h' n',DenR Γ G 200 [.yl ky,.t (.ip (stT p k c)),.t (.ip [ti t])] H n=some (r,h',n')/\(Inv (zxq c t).length h' n'\/Stop h' n'):=by
 obtain⟨⟨m1,m2,m3,m4⟩,_⟩:=zw8 (zw9 hf).1;have l3:=hc.lb;have Ae:=zx4 (c:=c) (t:=t) (by omega);obtain⟨b1,b2,_⟩:=hc.buf t _ Ae;unfold stT
 (refine zxC Γ200 rfl ?_;dsimp only[f200])
 simp -dsimp only[go_sem,seval,Ae];refine zap 1099511595104 (zxq c t).length (fun i f h z=>(f 15).v=vi i/\Inv i h z) rfl ⟨by simp -dsimp only[go_sem,seval],Cf _ _ _ _ h0 (by simp -dsimp only[go_sem,seval];omega)⟩ ?_;rintro i f u H2 z bs hi ⟨BS,hI⟩;have hw:=zag i (by omega);simp -dsimp only[go_sem,seval,BS];refine zw1 (fun h=> ?_) (fun h=> ?_)<;>(try rw[h])<;>(try simp only[zab]at h)<;>(try simp -dsimp only[go_sem,seval,BS])
 ·obtain⟨e,he,CX⟩:=zad ‹i<(zxq c t).length›;have Cr:=b2 e CX;have Cm:=zaW Cr;have GK:=E9 i e H2 z he hI
  have Jh:zyy k (zxq c t) i e=true-> ∀m,z<=m-> ∃r h' n',DenY Γ G ky [vi i,.agg [.t (ints e.cells),.t (ints e.values)]] H2 m=some (r,h',n')/\ ∃cont:Bool,r=vb cont/\(if cont then Inv (i+1) h' n' else Stop h' n'):=fun ho m hm=>by
   have:=E9 i e H2 m he (Cf _ _ _ _ hI hm);rw[if_pos ho]at this;obtain⟨cont,h',n',h1,h2⟩:=this;exact⟨_,h',n',h1,cont,rfl,h2⟩
  have Aa:((((zxq c t).map Entry.enc)).all fun x=>decide (x.length=2))=true:=by simp[Entry.enc]
  have DP:=ziz ((zxq c t).take i) e (by rw[List.length_take];omega) (by omega) (fun o ho=>by
   have:=zaW (b2 o (List.mem_of_mem_take ho));omega)
  rw[List.map_take]at DP;have i1:(0:Int)<=(i:Int):=by omega
  have i2:(i:Int)<=((zxq c t).length:Int):=by omega
  have i3:((i:Int)-0).toNat=i:=by omega
  by_cases DM:i=0
  ·subst DM;simp -dsimp only[go_sem,seval,BS,he,Entry.enc];refine zas (Jh (by simp[zyy]) _ (by omega)) ?_;rintro r h' n' ⟨cont,rfl,DO⟩;cases cont
   ·simp -dsimp only[go_sem,seval,BS];exact .inr (Al _ _ _ DO (by omega))
   ·simp -dsimp only[go_sem,seval,BS];exact⟨by omega,by simp -dsimp only[go_sem,seval,hw],Cf _ _ _ _ DO (by simp -dsimp only[go_sem,seval];omega)⟩
  ·have Bu:(i:Int)>0:=by omega
   by_cases AX:k=2
   ·cases hb:zyb ((zxq c t).take i) e
    ·simp -dsimp only[go_sem,seval,BS,he,Entry.enc,Bu,AX,DP,hb,i1,i2,i3,Aa];refine zas (Jh (by simp[zyy,AX,hb]) _ (by omega)) ?_;rintro r h' n' ⟨cont,rfl,DO⟩;cases cont
     ·simp -dsimp only[go_sem,seval,BS];exact .inr (Al _ _ _ DO (by omega))
     ·simp -dsimp only[go_sem,seval,BS];exact⟨by omega,by simp -dsimp only[go_sem,seval,hw],Cf _ _ _ _ DO (by simp -dsimp only[go_sem,seval];omega)⟩
    ·simp -dsimp only[go_sem,seval,BS,he,Entry.enc,Bu,AX,DP,hb,i1,i2,i3,Aa];rw[if_neg (by simp[zyy,AX,hb,DM])]at GK;exact⟨by omega,by simp -dsimp only[go_sem,seval,hw],Cf _ _ _ _ GK (by simp -dsimp only[go_sem,seval];omega)⟩
   ·simp -dsimp only[go_sem,seval,BS,he,Entry.enc,Bu,AX];rw[if_neg (by simp[zyy,AX,DM])]at GK;exact⟨by omega,by simp -dsimp only[go_sem,seval,hw],Cf _ _ _ _ GK (by simp -dsimp only[go_sem,seval];omega)⟩
 ·have C0:i=(zxq c t).length:=by omega
  subst C0;exact .inl (Cf _ _ _ _ hI (by simp -dsimp only[go_sem,seval];omega))
theorem zfK (p:Prog) (hf:zw6 p=true) (e:Entry) (he:Proper p e):Den Γ G 205 [(zP p),.agg [.t (ints e.cells),.t (ints e.values)]]=some (vb true):=by
 obtain⟨⟨m1,m2,m3,m4⟩,_⟩:=zw8 (zw9 hf).1;have hl:=zaW he;have hv:=he.len
 have n0: ¬(e.cells.length:Int)=0:=by
  have:e.cells.length≠0:=fun h=>he.ne (List.eq_nil_of_length_eq_zero h)
  omega
 have n1: ¬(e.cells.length:Int)>(p.cells.length:Int):=by omega
 have n2:(e.values.length:Int)=(e.cells.length:Int):=by omega
 (refine zw3 Γ205 rfl ?_;dsimp only[zq1])
 simp -dsimp only[go_sem,seval,n0,n1,n2];refine zaq 1237940039285380266309189872 e.cells.length (fun i f=>(f 33).v=vi i) rfl rfl (by simp -dsimp only[go_sem,seval]) ?_;rintro i f u kk bb hi N4;have hw:=zag i (by omega);simp -dsimp only[go_sem,seval,N4];refine zw1 (fun h=> ?_) (fun h=> ?_)<;>(try rw[h])<;>(try simp only[zab]at h)<;>(try simp -dsimp only[go_sem,seval,N4])
 ·obtain⟨n,hn,Jp⟩:=zad ‹i<e.cells.length›;obtain⟨v,B3,_⟩:=zad (show i<e.values.length by omega);obtain⟨c0,y,hy,ht,hg,v0,v1⟩:=he.cell i n v hn B3;have Jh:=(zH.1 hy).1;obtain⟨w1,w2,_⟩:=zyB hf (zL hy);have Bj:=zeJ (w:=y.w) (by omega);have FA: ¬y.w<0:=by omega
  have a1: ¬n<0:=by omega
  have a2: ¬n>=(p.cells.length:Int):=by omega
  have a3: ¬v<0:=by omega
  have a4: ¬v>=2^y.w.toNat:=by omega
  have i1:(0:Int)<=(i:Int):=by omega
  have i2:(i:Int)<=(e.cells.length:Int):=by omega
  have i3:((i:Int)-0).toNat=i:=by omega
  have Ed:=zcx (e.cells.take i) n (by rw[List.length_take];omega)
  have Pq:(e.cells.take i).contains n=false:=by
   rw[Bool.eq_false_iff];intro hc;have hm:n∈e.cells.take i:=by simpa using hc
   obtain⟨j,hj⟩:=List.getElem?_of_mem hm;rw[zO]at hj;split at hj
   ·rename_i Fg;have h1:=(zH.1 hj)
    have h2:=(zH.1 hn)
    exact List.pairwise_iff_getElem.1 (List.nodup_iff_pairwise_ne.1 he.nd) j i h1.1 h2.1 Fg (by rw[h1.2,h2.2])
   ·simp at hj
  rw[Pq]at Ed;have Aa:((e.cells.map fun n=>[ti n]).all fun x=>decide (x.length=1))=true:=by simp
  have HS:(e.cells.map fun n=>[ti n]).take i=(e.cells.take i).map fun n=>[ti n]:=by rw[List.map_take]
  have MP:((y.ghost==decide ((i:Int)>0)) != true)=false:=by
   rw[hg]
   by_cases h0:0<i
   ·have:(i:Int)>0:=by omega
    simp[h0]
   ·have : ¬(i:Int)>0:=by omega
    simp[h0]
  simp -dsimp only[go_sem,seval,N4,hn,a1,a2,i1,i2,i3,Aa,HS,Ed,c0,hy,ht,MP,B3,a3,Bj,FA,a4];exact⟨by omega,by simp -dsimp only[go_sem,seval,hw]⟩
theorem zlx (p:Prog) (hf:zw6 p=true) (c:Config) (hc:IsB p c):Den Γ G 196 [(.agg [.t (.sl ((p).cells.map (Cell.enc))),.t (.sl ((p).modules.map (Contract.enc))),.t (.sl ((p).locks.map (Lock.enc))),.t (.sl ((p).threads.map (Thread.enc)))]),(.agg [.t (ints (c).mem),.t (ints (c).at_),.t (.sl ((c).buf.map (fun b=>[.sl (b.map Entry.enc)])))])]=some (vb true):=by
 obtain⟨⟨m1,m2,m3,m4⟩,_⟩:=zw8 (zw9 hf).1;have l1:=hc.lm;have l2:=hc.la;have l3:=hc.lb;have e1:(c.mem.length:Int)=(p.cells.length:Int):=by omega
 have e2:(c.at_.length:Int)=(p.threads.length:Int):=by omega
 have e3:(c.buf.length:Int)=(p.threads.length:Int):=by omega
 (refine zw3 Γ196 rfl ?_;dsimp only[f196])
 simp -dsimp only[go_sem,seval,e1,e2,e3];refine zaq 576459652791795824 c.mem.length (fun i f=>(f 40).v=vi i) rfl rfl (by simp -dsimp only[go_sem,seval]) ?_;rintro i f u kk bb hi LH;have hw:=zag i (by omega);simp -dsimp only[go_sem,seval,LH];refine zw1 (fun h=> ?_) (fun h=> ?_)<;>(try rw[h])<;>(try simp only[zab]at h)<;>(try simp -dsimp only[go_sem,seval,LH])
 ·obtain⟨v,hv,_⟩:=zad (show i<c.mem.length by omega);obtain⟨x,hx,Ct⟩:=zad (show i<p.cells.length by omega);obtain⟨w1,w2,_⟩:=zyB hf Ct;have Bj:=zeJ (w:=x.w) (by omega);have FA: ¬x.w<0:=by omega
  obtain⟨v0,v1⟩:=hc.mem i v x hv hx;have a3: ¬v<0:=by omega
  have a4: ¬v>=2^x.w.toNat:=by omega
  simp -dsimp only[go_sem,seval,LH,hv,hx,Bj,FA,a3,a4];exact⟨by omega,by simp -dsimp only[go_sem,seval,hw]⟩
 ·refine zaq 2658455991569831741195928102133304208 c.at_.length (fun i f=>(f 62).v=vi i) rfl rfl (by simp -dsimp only[go_sem,seval]) ?_;clear LH hw;rintro t f u kk bb hi G9;have hw:=zag t (by omega);simp -dsimp only[go_sem,seval,G9];refine zw1 (fun h=> ?_) (fun h=> ?_)<;>(try rw[h])<;>(try simp only[zab]at h)<;>(try simp -dsimp only[go_sem,seval,G9])
  ·obtain⟨a,ha,_⟩:=zad (show t<c.at_.length by omega);obtain⟨x,hx,Ct⟩:=zad (show t<p.threads.length by omega);obtain⟨a1,a2,a3⟩:=hc.at_ t a x ha hx;have Ae:=zx4 (c:=c) (t:=t) (by omega);obtain⟨b1,b2,b3⟩:=hc.buf t _ Ae;have q1: ¬a< -1:=by omega
   have q2: ¬a>=x.points:=by omega
   have q3: ¬((zxq c t).length:Int)>3:=by omega
   by_cases G7:a= -1
   ·have Cc:zxq c t=[]:=b3 (by rw[ha,G7]);have BU:=a3 G7;have n0: ¬((zxq c t).length:Int)>0:=by rw[Cc];simp
    subst G7;simp -dsimp only[go_sem,seval,G9,ha,hx,Ae,q1,q2,q3,BU,n0];refine zaq 1326631847355648459089541812115736592 (zxq c t).length (fun j f'=>(f' 111).v=vi j) rfl rfl (by simp -dsimp only[go_sem,seval]) ?_;rintro j f' u' kk' bb' hj E8;have Ay:=zag j (by omega);simp -dsimp only[go_sem,seval,E8];refine zw1 (fun h=> ?_) (fun h=> ?_)<;>(try rw[h])<;>(try simp only[zab]at h)<;>(try simp -dsimp only[go_sem,seval,E8,G9])
    ·obtain⟨e,he,CX⟩:=zad ‹j<(zxq c t).length›;have JS:=zfK p hf e (b2 e CX);simp -dsimp only[go_sem,seval,E8,G9,he,Entry.enc,JS];exact⟨by omega,by simp -dsimp only[go_sem,seval,Ay]⟩
    ·exact⟨by omega,by simp -dsimp only[go_sem,seval,hw,G9]⟩
   ·simp -dsimp only[go_sem,seval,G9,ha,hx,Ae,q1,q2,q3,G7];refine zaq 1326631847355648459089541812115736592 (zxq c t).length (fun j f'=>(f' 111).v=vi j) rfl rfl (by simp -dsimp only[go_sem,seval]) ?_;rintro j f' u' kk' bb' hj E8;have Ay:=zag j (by omega);simp -dsimp only[go_sem,seval,E8];refine zw1 (fun h=> ?_) (fun h=> ?_)<;>(try rw[h])<;>(try simp only[zab]at h)<;>(try simp -dsimp only[go_sem,seval,E8,G9])
    ·obtain⟨e,he,CX⟩:=zad ‹j<(zxq c t).length›;have JS:=zfK p hf e (b2 e CX);simp -dsimp only[go_sem,seval,E8,G9,he,Entry.enc,JS];exact⟨by omega,by simp -dsimp only[go_sem,seval,Ay]⟩
    ·exact⟨by omega,by simp -dsimp only[go_sem,seval,hw,G9]⟩
theorem zjx (p:Prog) (hs:p.sane):Den Γ G 195 [(zP p)]=some (vb (zw6 p)):=by
 (refine zw3 Γ195 rfl ?_;dsimp only[f195])
 have h1:=zbM p hs;simp -dsimp only[go_sem,seval,h1];rfl
theorem zmU (p:Prog) (hs:p.sane) (hf:zw6 p=true) (c:Config) (hc:IsB p c) (k:Int) (hk:k=1\/k=2):Den Γ G 187 [(zP p),vi k,(.agg [.t (ints (c).mem),.t (ints (c).at_),.t (.sl ((c).buf.map (fun b=>[.sl (b.map Entry.enc)])))])]=some (.tup [stV p k c,vb true]):=by
 unfold stV
 (refine zw3 Γ187 rfl ?_;dsimp only[zq5])
 have h1:=zjx p hs;rw[hf]at h1;have h2:=zlx p hf c hc;rcases hk with rfl | rfl
 ·simp -dsimp only[go_sem,seval,h1,h2]
 ·simp -dsimp only[go_sem,seval,h1,h2]
def zBx (c:Config):Bool:=c.buf.all fun b=>b.isEmpty
end Rg
end
section
namespace Rg
open Go
noncomputable def envC:(Nat->Slot)->Nat->V:=(Classical.choice (⟨⟨fun sl t=>(sl t).v,rfl⟩⟩:Nonempty {g:(Nat->Slot)->Nat->V// g=fun sl t=>(sl t).v})).1
theorem zlJ:envC=fun sl t=>(sl t).v:=(Classical.choice (⟨⟨fun sl t=>(sl t).v,rfl⟩⟩:Nonempty {g:(Nat->Slot)->Nat->V// g=fun sl t=>(sl t).v})).2
@[go_sem ↓]theorem zsw (sl:Nat->Slot) (t:Nat):envC sl t=(sl t).v:=by rw[zlJ]
@[go_sem ↓]theorem zqA (f:Nat->V) (i j:Nat) (v:V):updC f i v j=pk (j==i) v (f j) ⟨0⟩:=by rw[zal,zjH];rfl
def zkH (env:Nat->V) (ps:List Nat) (vs:List V):Nat->Slot:=fun t=>⟨zzj env ps vs t,none,none⟩
noncomputable def rndS:(Nat->V)->List Nat->List V->Nat->Slot:=(Classical.choice (⟨⟨zkH,rfl⟩⟩:Nonempty {g:(Nat->V)->List Nat->List V->Nat->Slot// g=zkH})).1
theorem zh7:rndS=zkH:=(Classical.choice (⟨⟨zkH,rfl⟩⟩:Nonempty {g:(Nat->V)->List Nat->List V->Nat->Slot// g=zkH})).2
@[go_sem ↓]theorem zqE (env:Nat->V) (t:Nat):(rndS env [] [] t).v=env t:=by rw[zh7];rfl
@[go_sem ↓]theorem zpp (env:Nat->V) (p:Nat) (ps:List Nat) (v:V) (vs:List V) (t:Nat):(rndS env (p::ps) (v::vs) t).v=(rndS (updC env p v) ps vs t).v:=by rw[zh7,zal];rfl
section
variable {Γ:Nat->Option F} {G:Nat->List T}
def zrJ (o:Option (V×(Nat->Option O)×Nat)) (k:Nat) (K:Ex->(Nat->Option O)->Nat->Prop) (_:WK K):Prop:=
 ∃r h' n',o=some (r,h',n')/\ ∃env ps bd st e,h' k=some (.loop env ps bd st)/\st.ends=some e/\K e (updC h' k (some .dead)) n'
@[go_sem ↓]theorem zro (x:Opd) (ps:List Nat) (bd:C) (Q:Ex->M->Prop) (sl:Nat->Slot) (u:Nat->Bool) (h:Nat->Option O) (n b:Nat) (w:W3 (.rangeF x ps bd) Q ⟨sl,u,h,n,b⟩):
 wC Γ G (.rangeF x ps bd) Q ⟨sl,u,h,n,b⟩ w=fnK (zxo G sl x) (fun g a c=>zrJ (DenR Γ G g (a++[V.yl n]++c) (updC h n (some (.loop (envC sl) ps bd .ready))) (n+1)) n (fun e h' n'=>Q e ⟨sl,u,h',n',b⟩) ⟨0⟩) ⟨0⟩:=by
 unfold wC;rw[zaU,zal,zlJ];simp only[wpC,zaB]
 cases zxo G sl x with
 | none=>rfl
 | some v=>
   simp only[zD,fnK]
   cases zze v with
   | none=>rfl
   | some q=>
     obtain⟨g,a,c⟩:=q;simp only[zrJ,zal];apply propext;constructor
     ·rintro⟨r,h',n',hc,_,env',ps',bd',st,e,hl,he,hQ⟩;exact⟨r,h',n',zym.2 hc,env',ps',bd',st,e,hl,he,hQ⟩
     ·rintro⟨r,h',n',hc,env',ps',bd',st,e,hl,he,hQ⟩;exact⟨r,h',n',zym.1 hc,zoU (zym.1 hc),env',ps',bd',st,e,hl,he,hQ⟩
theorem zn9 {o:Option (V×(Nat->Option O)×Nat)} {k:Nat} {K:Ex->(Nat->Option O)->Nat->Prop} {w:WK K} {P:Ex->(Nat->Option O)->Nat->Prop}
 (h: ∃r h' n',o=some (r,h',n')/\ ∃env ps bd st e,h' k=some (.loop env ps bd st)/\st.ends=some e/\P e h' n') (hk: ∀e h' n',P e h' n'->K e (updC h' k (some .dead)) n'):zrJ o k K w:=by
 obtain⟨r,h',n',e1,env,ps,bd,st,e,e2,e3,hp⟩:=h;exact⟨r,h',n',e1,env,ps,bd,st,e,e2,e3,hk e h' n' hp⟩
def FiY (P:Ex->(Nat->Option O)->Nat->Prop) (e:Ex) (m:M):Prop:=P e m.heap m.nxt
@[go_sem ↓]theorem ztz (P:Ex->(Nat->Option O)->Nat->Prop) (e:Ex) (sl:Nat->Slot) (u:Nat->Bool) (h:Nat->Option O) (n b:Nat):FiY P e ⟨sl,u,h,n,b⟩=SpN (P e h n) ⟨0⟩:=rfl
def zp2 (o:Option O) (K:(Nat->V)->List Nat->C->Prop) (_:WK K):Prop:=match o with
 | some (.loop env ps bd .enter)=>K env ps bd
 | _=>False
@[go_sem]theorem zp1 (env:Nat->V) (ps:List Nat) (bd:C) (K:(Nat->V)->List Nat->C->Prop) (w:WK K):zp2 (some (.loop env ps bd .enter)) K w=K env ps bd:=rfl
variable (Γ G) in
def FiA (k:Nat) (cb:C) (Q:Ex->M->Prop):Ex->M->Prop
 | .normal,m=>zp2 (m.heap k) (fun env ps bd=>wC Γ G cb Q ⟨m.sl,m.used,updC m.heap k (some (.loop env ps bd .busy)),m.nxt,m.bas⟩ ⟨0⟩) ⟨0⟩
 | _,_=>False
@[go_sem ↓]theorem ztA (k:Nat) (cb:C) (Q:Ex->M->Prop) (sl:Nat->Slot) (u:Nat->Bool) (h:Nat->Option O) (n b:Nat):
 FiA Γ G k cb Q .normal ⟨sl,u,h,n,b⟩=zp2 (h k) (fun env ps bd=>wC Γ G cb Q ⟨sl,u,updC h k (some (.loop env ps bd .busy)),n,b⟩ ⟨0⟩) ⟨0⟩:=rfl
theorem zlO {k:Nat} {vs:List V} {h:Nat->Option O} {n:Nat} {env:Nat->V} {ps:List Nat} {ca cb:C} {P:Ex->(Nat->Option O)->Nat->Prop} (hk:h k=some (.loop env ps (.round ca cb) .ready)) (hl:vs.length=ps.length)
 (hb: ∀e h' n',P e h' n'-> ∃env' ps' bd',h' k=some (.loop env' ps' bd' .busy))
 (hw:wC Γ G ca (qOf Γ G [] (FiA Γ G k cb (qOf Γ G [] (FiY P)))) ⟨rndS env ps vs,fun _=>false,updC h k (some (.loop env ps (.round ca cb) .enter)),n,n⟩ ⟨0⟩):
 ∃e h' n',P e h' n'/\ ∃env' ps' bd',h' k=some (.loop env' ps' bd' .busy)/\DenY Γ G k vs h n=some (.t (.bool (decide (e=Ex.normal))),updC h' k (some (.loop env' ps' bd' e.toL)),n'):=by
 unfold wC at hw;rw[zaU,zbb,zh7,zal]at hw;obtain⟨e0,m1,hA,hF⟩:=zB0 hw
 cases e0 with
 | exit id=>exact hF.elim
 | ret=>exact hF.elim
 | normal=>
   have J1:zp2 (m1.heap k) (fun env ps bd=>wC Γ G cb (zBL Γ G [] (FiY P)) ⟨m1.sl,m1.used,updC m1.heap k (some (.loop env ps bd .busy)),m1.nxt,m1.bas⟩ ⟨0⟩) ⟨0⟩:=by
    exact hF
   unfold zp2 at J1;split at J1
   ·rename_i env1 ps1 bd1 Ba;unfold wC at J1;rw[zaU,zal]at J1;obtain⟨e,m',hB,hP⟩:=zB0 J1;obtain⟨env',ps',bd',Ag⟩:=hb _ _ _ hP;refine⟨e,m'.heap,m'.nxt,hP,env',ps',bd',Ag,zgB.2 ⟨env,ps,ca,cb,m1.st,env1,ps1,bd1,env',ps',bd',e,m'.st,hk,hl,hA,Ba,hB,Ag,rfl,by rw[zal];rfl,rfl⟩⟩
   ·exact J1.elim
end
end Rg
end
section
namespace Rg
open Go
end Rg
end
section
namespace Rg
open Go
theorem zmC {o:Option (V×(Nat->Option O)×Nat)} {k:Nat} {P:Ex->(Nat->Option O)->Nat->Prop} {Q:(Nat->Option O)->Nat->Prop} (h: ∃r h' n',o=some (r,h',n')/\Q h' n')
 (hQ: ∀h' n',Q h' n'-> ∃env ps bd st e,h' k=some (.loop env ps bd st)/\st.ends=some e/\P e h' n'): ∃r h' n',o=some (r,h',n')/\ ∃env ps bd st e,h' k=some (.loop env ps bd st)/\st.ends=some e/\P e h' n':=by
 obtain⟨r,h',n',h1,h2⟩:=h;exact⟨r,h',n',h1,hQ h' n' h2⟩
structure NxV (p:Prog) (k:Int) (c:Config) (t:Nat) (n:Int) (env:Nat->V) (ky k7 k8 k9 kS:Nat) (h:Nat->Option O) (x:Nat):Prop where
 e7:env 7= .mp k7 0 0
 e8:env 8= .mp k8 0 0
 e9:env 9= .mp k9 0 0
 e10:env 10= .mp kS 0 0
 hy:h ky=some (.loop env [57,58] zeq .ready)
 h7:h k7=some (.rows 3 [[vi t,vi (-1),vi n]] false)
 h8:h k8=some (.rows 3 [[.t .nils,.t .nils,.t .nils]] false)
 h9:h k9=some (.rows 1 [[vi 0]] false)
 hS:h kS=some (.rows 8 [[.t (ints c.mem),.t (ints c.at_),.t (.sl (c.buf.map fun b=>[.sl (b.map Entry.enc)])),.t (.sl (p.cells.map Cell.enc)),.t (.sl (p.modules.map Contract.enc)),.t (.sl (p.locks.map Lock.enc)),.t (.sl (p.threads.map Thread.enc)),vi k]] false)
 ly:ky<x
 l7:k7<ky
 l8:k8<ky
 l9:k9<ky
 lS:kS<ky
 d78:k7≠k8
 d79:k7≠k9
 d7S:k7≠kS
 d89:k8≠k9
 d8S:k8≠kS
 d9S:k9≠kS
theorem zkG {p:Prog} {k:Int} {c:Config} {t i:Nat} {n:Int} {env:Nat->V} {ky k7 k8 k9 kS:Nat} {h:Nat->Option O} {x:Nat} {e:Entry} (H:NxV p k c t n env ky k7 k8 k9 kS h x) (A8:e.cells≠[]) (hn:zyk e≠n):
 ∃h' n',DenY Γ G ky [vi i,.agg [.t (ints e.cells),.t (ints e.values)]] h x=some (vb true,h',n')/\NxV p k c t n env ky k7 k8 k9 kS h' n':=by
 have CM:e.cells[0]? =some (zyk e):=by
  cases hc:e.cells with
  | nil=>exact absurd hc A8
  | cons a r=>simp[zyk,hc]
 obtain⟨e7,e8,e9,e10,hy,h7,h8,h9,hS,ly,l7,l8,l9,lS,d78,d79,d7S,d89,d8S,d9S⟩:=H;have a1:k7≠x+1+0:=by omega
 have a2:k8≠x+1+0:=by omega
 have a3:k9≠x+1+0:=by omega
 have a4:kS≠x+1+0:=by omega
 have a5:ky≠x+1+0:=by omega
 have c1:x+1+0≠k7:=by omega
 have c2:x+1+0≠k8:=by omega
 have c3:x+1+0≠k9:=by omega
 have c4:x+1+0≠kS:=by omega
 have c5:x+1+0≠ky:=by omega
 have b1:k7≠ky:=by omega
 have b2:k8≠ky:=by omega
 have b3:k9≠ky:=by omega
 have b4:kS≠ky:=by omega
 have:=zlO (Γ:=Γ) (G:=G) (vs:=[vi i,.agg [.t (ints e.cells),.t (ints e.values)]]) (n:=x) (P:=fun ex h' n'=>ex= .normal/\h' ky=some (.loop env [57,58] zeq .busy)/\x<=n'/\(∀j,j<ky->h' j=h j)) hy rfl (fun ex h' n' hP=>⟨_,_,_,hP.2.1⟩) (by
  simp -dsimp only[go_sem,seval,e7,h7,a1,a2,a3,a4,a5,b1,b2,b3,b4,c1,c2,c3,c4,c5,CM,hn];refine⟨rfl,by simp -dsimp only[go_sem,seval];rfl,by simp -dsimp only[go_sem,seval];omega,fun j hj=> ?_⟩;have u1:j≠ky:=by omega
  have u2:j≠x+1+0:=by omega
  simp -dsimp only[go_sem,seval,u1,u2])
 obtain⟨ex,h',n',⟨rfl,q1,q2,q3⟩,env',ps',bd',q6,q7⟩:=this;rw[q1]at q6;simp only[zA,O.loop.injEq]at q6;obtain⟨rfl,rfl,rfl,_⟩:=q6;have hj: ∀j o,j<ky->updC h' ky o j=h j:=fun j o hj=>by rw[zae,if_neg (by omega)];exact q3 j hj
 exact⟨_,n',q7,e7,e8,e9,e10,by rw[zae,if_pos rfl];rfl,by rw[hj _ _ l7];exact h7,by rw[hj _ _ l8];exact h8,by rw[hj _ _ l9];exact h9,by rw[hj _ _ lS];exact hS,by omega,l7,l8,l9,lS,d78,d79,d7S,d89,d8S,d9S⟩
theorem zjF {p:Prog} (hf:zw6 p=true) {k:Int} {c:Config} (hc:IsB p c) {t i:Nat} (ht:t<p.threads.length) {n:Int} {env:Nat->V} {ky k7 k8 k9 kS:Nat} {h:Nat->Option O} {x:Nat} {e:Entry} (H:NxV p k c t n env ky k7 k8 k9 kS h x)
 (he:(zxq c t)[i]? =some e) (A8:e.cells≠[]) (hn:zyk e=n):
 ∃h' n',DenY Γ G ky [vi i,.agg [.t (ints e.cells),.t (ints e.values)]] h x=some (vb false,h',n')/\h' ky=some (.loop env [57,58] zeq (.done .ret))/\
  h' k8=some (.rows 3 [[.t (ints (zxr c t i).mem),.t (ints (zxr c t i).at_),.t (.sl ((zxr c t i).buf.map fun b=>[.sl (b.map Entry.enc)]))]] false)/\h' k9=some (.rows 1 [[vi 0]] false)/\ky<n':=by
 have CM:e.cells[0]? =some (zyk e):=by
  cases hc:e.cells with
  | nil=>exact absurd hc A8
  | cons a r=>simp[zyk,hc]
 have B9:=zj6 p hf k c hc t ht i e he;unfold stV at B9;obtain⟨e7,e8,e9,e10,hy,h7,h8,h9,hS,ly,l7,l8,l9,lS,d78,d79,d7S,d89,d8S,d9S⟩:=H;have a1:k7≠x+1+0:=by omega
 have a2:k8≠x+1+0:=by omega
 have a3:k9≠x+1+0:=by omega
 have a4:kS≠x+1+0:=by omega
 have a5:ky≠x+1+0:=by omega
 have c1:x+1+0≠k7:=by omega
 have c2:x+1+0≠k8:=by omega
 have c3:x+1+0≠k9:=by omega
 have c4:x+1+0≠kS:=by omega
 have c5:x+1+0≠ky:=by omega
 have b1:k7≠ky:=by omega
 have b2:k8≠ky:=by omega
 have b3:k9≠ky:=by omega
 have b4:kS≠ky:=by omega
 have b6:ky≠k8:=by omega
 have b7:ky≠k9:=by omega
 have b8:k9≠k8:=by omega
 have:=zlO (Γ:=Γ) (G:=G) (vs:=[vi i,.agg [.t (ints e.cells),.t (ints e.values)]]) (n:=x) (P:=fun ex h' n'=>ex= .ret/\h' ky=some (.loop env [57,58] zeq .busy)/\x<=n'/\
  h' k8=some (.rows 3 [[.t (ints (zxr c t i).mem),.t (ints (zxr c t i).at_),.t (.sl ((zxr c t i).buf.map fun b=>[.sl (b.map Entry.enc)]))]] false)/\h' k9=some (.rows 1 [[vi 0]] false)) hy rfl (fun ex h' n' hP=>⟨_,_,_,hP.2.1⟩) (by
  simp -dsimp only[go_sem,seval,e7,h7,a1,a2,a3,a4,a5,b1,b2,b3,b4,c1,c2,c3,c4,c5,CM,hn,e8,e9,e10,hS,B9,h8,h9,b6,b7,b8,d89]
  refine⟨rfl,by simp -dsimp only[go_sem,seval,b6,b7];rfl,by simp -dsimp only[go_sem,seval];omega,by simp -dsimp only[go_sem,seval,d89],by simp -dsimp only[go_sem,seval]⟩)
 obtain⟨ex,h',n',⟨rfl,q1,q2,q3,q4⟩,env',ps',bd',q6,q7⟩:=this;rw[q1]at q6;simp only[zA,O.loop.injEq]at q6;obtain⟨rfl,rfl,rfl,_⟩:=q6;exact⟨_,n',q7,by rw[zae,if_pos rfl];rfl,by rw[zae,if_neg b2];exact q3,by rw[zae,if_neg b3];exact q4,by omega⟩
theorem zjJ (p:Prog) (hs:p.sane) (hf:zw6 p=true) (k:Int) (hk:k=1\/k=2) (c:Config) (hc:IsB p c) (x:Choice):
 Den Γ G 180 [(zP p),vi k,(.agg [.t (ints (c).mem),.t (ints (c).at_),.t (.sl ((c).buf.map (fun b=>[.sl (b.map Entry.enc)])))]),(.agg [.t (ti (x).thread),.t (ti (x).step),.t (ti (x).cell)])]=some (.tup [(.agg [.t (ints ((zyN p k c x).1).mem),.t (ints ((zyN p k c x).1).at_),.t (.sl (((zyN p k c x).1).buf.map (fun b=>[.sl (b.map Entry.enc)])))]),vi (zyN p k c x).2]):=by
 obtain⟨⟨m1,m2,m3,m4⟩,l5⟩:=zw8 (zw9 hf).1;have l1:=hc.lm;have l2:=hc.la;have l3:=hc.lb;have GT:=zmU p hs hf c hc k hk;have k0: ¬k=0:=by omega
 unfold stV at GT
 (refine zw3 Γ180 rfl ?_;dsimp only[f180])
 by_cases hr:x.thread<0\/(p.threads.length:Int)<=x.thread\/x.step< -1
 ·have hN:zyN p k c x=(zyT,110):=by rw[zyN,if_pos hr]
  rw[hN];simp only[zyT,List.map_nil]
  by_cases r1:x.thread<0
  ·simp -dsimp only[go_sem,seval,k0,GT,r1];rfl
  ·by_cases r2:x.thread>=(p.threads.length:Int)
   ·simp -dsimp only[go_sem,seval,k0,GT,r1,r2];rfl
   ·have r3:x.step< -1:=by omega
    simp -dsimp only[go_sem,seval,k0,GT,r1,r2,r3];rfl
 ·have r1: ¬x.thread<0:=by omega
  have r2: ¬x.thread>=(p.threads.length:Int):=by omega
  have r3: ¬x.step< -1:=by omega
  by_cases hm:x.step= -1
  ·have et:((x.thread.toNat:Nat):Int)=x.thread:=by omega
   have Ao:=zmN p k c x.thread.toNat;rw[et]at Ao;unfold stV at Ao;simp -dsimp only[go_sem,seval,k0,GT,r1,r2,r3,hm,Ao]
   generalize hE:envC _=env
   have e7:=congrFun hE 7;have e8:=congrFun hE 8;have e9:=congrFun hE 9;have e10:=congrFun hE 10;clear hE;simp -dsimp only[go_sem,seval]at e7 e8 e9 e10;have ht:x.thread.toNat<p.threads.length:=by omega
   have E5:=(hc.buf x.thread.toNat _ (zx4 (c:=c) (t:=x.thread.toNat) (by omega))).2.1
   refine zn9 (P:=fun e h' n'=>(e= .normal/\zAR k (zxq c x.thread.toNat) x.cell=none/\h' 3=some (.rows 3 [[.t .nils,.t .nils,.t .nils]] false)/\h' 4=some (.rows 1 [[vi 0]] false))\/
    (e= .ret/\ ∃i,zAR k (zxq c x.thread.toNat) x.cell=some i/\
      h' 3=some (.rows 3 [[.t (ints (zxr c x.thread.toNat i).mem),.t (ints (zxr c x.thread.toNat i).at_),.t (.sl ((zxr c x.thread.toNat i).buf.map fun b=>[.sl (b.map Entry.enc)]))]] false)/\h' 4=some (.rows 1 [[vi 0]] false))) ?_ ?_
   ·rw[<- et]
    refine zmC (zCb p hf k c hc x.thread.toNat ht 42
     (fun q h n=>NxV p k c x.thread.toNat x.cell env 42 2 3 4 14 h n/\ ∀j e,j<q->(zxq c x.thread.toNat)[j]? =some e-> ¬(zyy k (zxq c x.thread.toNat) j e=true/\zyk e=x.cell))
     (fun h n=> ∃i,zAR k (zxq c x.thread.toNat) x.cell=some i/\h 42=some (.loop env [57,58] zeq (.done .ret))/\
       h 3=some (.rows 3 [[.t (ints (zxr c x.thread.toNat i).mem),.t (ints (zxr c x.thread.toNat i).at_),.t (.sl ((zxr c x.thread.toNat i).buf.map fun b=>[.sl (b.map Entry.enc)]))]] false)/\h 4=some (.rows 1 [[vi 0]] false)) ?_ (fun _ _ _ h _=>h) ?_ _ _ ?_) ?_
    ·rintro q h n m ⟨a1,a2⟩ Jp;exact⟨{ a1 with ly:=by have:=a1.ly;omega },a2⟩
    ·rintro q e h n he ⟨a1,a2⟩;have Cr:=E5 e (zL he);cases ho:zyy k (zxq c x.thread.toNat) q e
     ·rw[if_neg (by simp)];refine⟨a1,fun j e' hj IB=> ?_⟩;rcases Nat.lt_or_ge j q with h1 | h1
      ·exact a2 j e' h1 IB
      ·have:j=q:=by omega
       subst this;rw[he]at IB;cases IB;rw[ho];simp
     ·rw[if_pos rfl]
      by_cases hh:zyk e=x.cell
      ·obtain⟨h',n',b1,b2,b3,b4,b5⟩:=zjF hf hc ht a1 he Cr.ne hh;refine⟨false,h',n',b1,?_⟩;rw[if_neg (by simp)];exact⟨q,by rw[<- hh];exact zjf E5 he ho,b2,b3,b4⟩
      ·obtain⟨h',n',b1,b2⟩:=zkG (i:=q) a1 Cr.ne hh;refine⟨true,h',n',b1,?_⟩;rw[if_pos rfl];refine⟨b2,fun j e' hj IB=> ?_⟩;rcases Nat.lt_or_ge j q with h1 | h1
       ·exact a2 j e' h1 IB
       ·have:j=q:=by omega
        subst this;rw[he]at IB;cases IB;exact fun h=>hh h.2
    ·refine⟨⟨e7.symm,e8.symm,e9.symm,e10.symm,by simp -dsimp only[go_sem,seval],by simp -dsimp only[go_sem,seval,et,hm],by simp -dsimp only[go_sem,seval],by simp -dsimp only[go_sem,seval],by simp -dsimp only[go_sem,seval],by omega,by omega,by omega,by omega,by omega,by omega,by omega,by omega,by omega,by omega,by omega⟩,fun j _ hj=>by omega⟩
    ·rintro h' n' (⟨a1,a2⟩ | ⟨i,b1,b2,b3,b4⟩)
     ·refine⟨env,[57,58],zeq,.ready,.normal,a1.hy,rfl,.inl ⟨rfl,?_,a1.h8,a1.h9⟩⟩;unfold zAR;rw[List.find?_eq_none];intro j hj;rw[List.mem_range]at hj;rw[zI hj];intro h;simp only[zF,decide_eq_true_eq]at h;exact a2 j _ hj (zI hj) h
     ·exact⟨env,[57,58],zeq,.done .ret,.ret,b2,rfl,.inr ⟨rfl,i,b1,b3,b4⟩⟩
   ·rintro e h' n' (⟨rfl,g1,g2,g3⟩ | ⟨rfl,i,g1,g2,g3⟩)
    ·have hN:zyN p k c x=(zyT,110):=by rw[zyN,if_neg hr,if_pos hm,g1]
     rw[hN];simp only[zyT,List.map_nil];simp -dsimp only[go_sem,seval,g2,g3];rfl
    ·have hN:zyN p k c x=(zxr c x.thread.toNat i,0):=by rw[zyN,if_neg hr,if_pos hm,g1]
     rw[hN];simp -dsimp only[go_sem,seval,g2,g3]
  ·have et:((x.thread.toNat:Nat):Int)=x.thread:=by omega
   have es:((x.step.toNat:Nat):Int)=x.step:=by omega
   have t0:0<=x.thread:=by omega
   have s0:0<=x.step:=by omega
   obtain⟨th,BT,O7⟩:=zad (show x.thread.toNat<p.threads.length by omega);have hv:=zml p hf c hc x.thread.toNat (by omega);rw[et]at hv
   by_cases c0:x.cell=0
   ·by_cases c1:x.step>=(th.steps.length:Int)
    ·have hN:zyN p k c x=(zyT,110):=by
      rw[zyN,if_neg hr,if_neg hm];have:zdb p x=none:=by simp[zdb,BT];omega
      rw[this]
     rw[hN];simp only[zyT,List.map_nil];simp -dsimp only[go_sem,seval,k0,GT,r1,r2,r3,hm,hv,BT,t0,c0,c1];rfl
    ·obtain⟨s,Hm,HW⟩:=zad (show x.step.toNat<th.steps.length by omega);have EA:zdb p x=some s:=by simp[zdb,BT,Hm]
     have Dp:=zhD p hf k c hc x.thread.toNat th BT x.step.toNat s Hm;rw[et,es]at Dp;unfold stV at Dp;cases he:zxi p c x.thread.toNat s
     ·have hN:zyN p k c x=(zyT,110):=by
       rw[zyN,if_neg hr,if_neg hm,EA];simp[he]
      rw[hN];rw[he]at Dp;simp only[zyT,List.map_nil];simp -dsimp only[go_sem,seval,k0,GT,r1,r2,r3,hm,hv,BT,t0,c0,c1,Dp];rfl
     ·have hN:zyN p k c x=(zyO p c x.thread.toNat s,0):=by
       rw[zyN,if_neg hr,if_neg hm,EA];simp[he,c0]
      rw[hN];rw[he]at Dp;have AT:=zlE p hf k c hc x.thread.toNat th BT x.step.toNat s Hm x (by cases x;simp_all);unfold stV at AT;simp -dsimp only[go_sem,seval,k0,GT,r1,r2,r3,hm,hv,BT,t0,c0,c1,Dp];rw[c0]at AT;simp -dsimp only[go_sem,seval,AT]
   ·have hN:zyN p k c x=(zyT,110):=by
     rw[zyN,if_neg hr,if_neg hm];split
     ·simp[c0]
     ·rfl
    rw[hN];simp only[zyT,List.map_nil];simp -dsimp only[go_sem,seval,k0,GT,r1,r2,r3,hm,hv,BT,t0,c0];rfl
theorem zmX {p:Prog} {c:Config} (hc:IsB p c):zzP p c.mem c.at_=true:=by
 have h:IsC p ⟨c.mem,c.at_,p.threads.map fun _=>[]⟩:=⟨hc.lm,hc.la,by simp,hc.mem,hc.at_,by simp⟩
 have h2:=zzU.2 h;simp only[isM,zF]at h2;exact h2.1.1
theorem zj1 (p:Prog) (hf:zw6 p=true) (e:Entry) (he:Proper p e):Den Γ G 204 [(zP p),.agg [.t (ints e.cells),.t (ints e.values)]]=some (vb true):=by
 obtain⟨⟨m1,m2,m3,m4⟩,_⟩:=zw8 (zw9 hf).1;have hl:=zaW he;have hv:=he.len
 have n0: ¬(e.cells.length:Int)=0:=by
  have:e.cells.length≠0:=fun h=>he.ne (List.eq_nil_of_length_eq_zero h)
  omega
 have n2:(e.values.length:Int)=(e.cells.length:Int):=by omega
 (refine zw3 Γ204 rfl ?_;dsimp only[zq2])
 simp -dsimp only[go_sem,seval,n0,n2];refine zaq 154742504910672534360293616 e.cells.length (fun i f=>(f 5).v=vi i) rfl rfl (by simp -dsimp only[go_sem,seval]) ?_;rintro i f u kk bb hi h5;have hw:=zag i (by omega);simp -dsimp only[go_sem,seval,h5];refine zw1 (fun h=> ?_) (fun h=> ?_)<;>(try rw[h])<;>(try simp only[zab]at h)<;>(try simp -dsimp only[go_sem,seval,h5])
 ·obtain⟨n,hn,Jp⟩:=zad ‹i<e.cells.length›;obtain⟨v,B3,_⟩:=zad (show i<e.values.length by omega);obtain⟨c0,y,hy,ht,hg,v0,v1⟩:=he.cell i n v hn B3;have Jh:=(zH.1 hy).1;obtain⟨w1,w2,_⟩:=zyB hf (zL hy);have OG:=zbR y.w (by omega);have K7:=zb1 n p.cells.length;have Fj:=zb1 v (2^y.w.toNat);have r1:inR n p.cells.length=true:=by simp only[inR,decide_eq_true_eq];omega
  have r2:inR v (2^y.w.toNat)=true:=by simp only[inR,decide_eq_true_eq];omega
  rw[r1]at K7;rw[r2]at Fj
  have MP:((y.ghost==decide ((i:Int)>0)) != true)=false:=by
   rw[hg]
   by_cases h0:0<i
   ·have:(i:Int)>0:=by omega
    simp[h0]
   ·have : ¬(i:Int)>0:=by omega
    simp[h0]
  simp -dsimp only[go_sem,seval,h5,hn,K7,c0,hy,ht,MP,B3,OG,Fj];refine zaq 154704725978809577200681104 i (fun j f'=>(f' 7).v=vi j) rfl rfl (by simp -dsimp only[go_sem,seval]) ?_;rintro j f' u' kk' bb' hj h7;have Ay:=zag j (by omega);simp -dsimp only[go_sem,seval,h7,h5];refine zw1 (fun h=> ?_) (fun h=> ?_)<;>(try rw[h])<;>(try simp only[zab]at h)<;>(try simp -dsimp only[go_sem,seval,h7,h5])
  ·obtain⟨q,hq,_⟩:=zad (show j<e.cells.length by omega)
   have Mu: ¬q=n:=by
    rintro rfl;have h1:=zH.1 hq;have h2:=zH.1 hn;exact List.pairwise_iff_getElem.1 (List.nodup_iff_pairwise_ne.1 he.nd) j i h1.1 h2.1 (by omega) (by rw[h1.2,h2.2])
   simp -dsimp only[go_sem,seval,h7,h5,hq,Mu];exact⟨by omega,by simp -dsimp only[go_sem,seval,Ay]⟩
  ·exact⟨by omega,by simp -dsimp only[go_sem,seval,hw,h5]⟩
theorem zmY (p:Prog) (hf:zw6 p=true) (c:Config) (hc:IsB p c):Den Γ G 193 [(zP p),(.agg [.t (ints (c).mem),.t (ints (c).at_),.t (.sl ((c).buf.map (fun b=>[.sl (b.map Entry.enc)])))])]=some (vb true):=by
 obtain⟨⟨m1,m2,m3,m4⟩,_⟩:=zw8 (zw9 hf).1;have l1:=hc.lm;have l2:=hc.la;have l3:=hc.lb;have e3:(c.buf.length:Int)=(p.threads.length:Int):=by omega
 have h1:=zlv p hf c.mem c.at_ (by omega) (by omega);rw[zmX hc]at h1
 (refine zw3 Γ193 rfl ?_;dsimp only[f193])
 simp -dsimp only[go_sem,seval,h1,e3];refine zaq 37778931862957153321072 c.buf.length (fun i f=>(f 5).v=vi i) rfl rfl (by simp -dsimp only[go_sem,seval]) ?_;rintro t f u kk bb hi h5;have hw:=zag t (by omega);simp -dsimp only[go_sem,seval,h5];refine zw1 (fun h=> ?_) (fun h=> ?_)<;>(try rw[h])<;>(try simp only[zab]at h)<;>(try simp -dsimp only[go_sem,seval,h5])
 ·obtain⟨a,ha,_⟩:=zad (show t<c.at_.length by omega);have Ae:=zx4 (c:=c) (t:=t) (by omega);obtain⟨b1,b2,b3⟩:=hc.buf t _ Ae;have q3: ¬((zxq c t).length:Int)>3:=by omega
  by_cases n0:((zxq c t).length:Int)>0
  ·have G7: ¬a= -1:=by
    rintro rfl;have:=b3 ha;rw[this]at n0;simp at n0
   simp -dsimp only[go_sem,seval,h5,ha,Ae,q3,n0,G7];refine zaq 37778913848558652227664 (zxq c t).length (fun j f'=>(f' 6).v=vi j) rfl rfl (by simp -dsimp only[go_sem,seval]) ?_;rintro j f' u' kk' bb' hj h6;have Ay:=zag j (by omega);simp -dsimp only[go_sem,seval,h6,h5,Ae];refine zw1 (fun h=> ?_) (fun h=> ?_)<;>(try rw[h])<;>(try simp only[zab]at h)<;>(try simp -dsimp only[go_sem,seval,h6,h5,Ae])
   ·obtain⟨e,he,CX⟩:=zad ‹j<(zxq c t).length›;have JS:=zj1 p hf e (b2 e CX);simp -dsimp only[go_sem,seval,h6,h5,Ae,he,Entry.enc,JS];exact⟨by omega,by simp -dsimp only[go_sem,seval,Ay]⟩
   ·exact⟨by omega,by simp -dsimp only[go_sem,seval,hw,h5]⟩
  ·have Cc:(zxq c t).length=0:=by omega
   simp -dsimp only[go_sem,seval,h5,ha,Ae,q3,n0];refine zaq 37778913848558652227664 0 (fun j f'=>(f' 6).v=vi j) rfl rfl (by simp -dsimp only[go_sem,seval]) ?_;rintro j f' u' kk' bb' hj h6;have K4:j=0:=by omega
   subst K4;simp -dsimp only[go_sem,seval,h6,h5,Ae,Cc];exact⟨by omega,by simp -dsimp only[go_sem,seval,hw,h5]⟩
theorem zjG (c:Config) (hl:c.buf.length<2^48):Den Γ G 194 [(.agg [.t (ints (c).mem),.t (ints (c).at_),.t (.sl ((c).buf.map (fun b=>[.sl (b.map Entry.enc)])))])]=some (vb (zBx c)):=by
 (refine zw3 Γ194 rfl ?_;dsimp only[f194])
 simp -dsimp only[go_sem,seval];refine zaq 262140 c.buf.length (fun i f=>(f 3).v=vi i/\zBx c=(c.buf.drop i).all fun b=>b.isEmpty) rfl rfl ⟨by simp -dsimp only[go_sem,seval],rfl⟩ ?_;rintro i f u kk bb hi ⟨h3,hq⟩;have hw:=zag i (by omega);simp -dsimp only[go_sem,seval,h3];refine zw1 (fun h=> ?_) (fun h=> ?_)<;>(try rw[h])<;>(try simp only[zab]at h)<;>(try simp -dsimp only[go_sem,seval,h3])
 ·obtain⟨b,hb,_⟩:=zad ‹i<c.buf.length›
  by_cases HB:b=[]
  ·have n0: ¬(b.length:Int)>0:=by rw[HB];simp
   simp -dsimp only[go_sem,seval,h3,hb,n0];exact⟨by omega,by simp -dsimp only[go_sem,seval,hw],by rw[hq,zaA hb (by rw[HB];rfl)]⟩
  ·have n0:(b.length:Int)>0:=by
    have:b.length≠0:=fun h=>HB (List.eq_nil_of_length_eq_zero h)
    omega
   simp -dsimp only[go_sem,seval,h3,hb,n0];rw[hq,zaz hb (by cases b with | nil=>exact absurd rfl HB | cons _ _=>rfl)]
 ·have:i=c.buf.length:=by omega
  subst this;rw[hq,zaQ]
theorem zos (p:Prog) (hs:p.sane):Den Γ G 176 [(zP p)]=some (vb (zw6 p)):=by
 (refine zw3 Γ176 rfl ?_;dsimp only[f176])
 have h1:=zft p hs;simp -dsimp only[go_sem,seval,h1];rfl
theorem zht (p:Prog) (hs:p.sane) (hf:zw6 p=true) (k:Int) (hk:0<=k/\k<=2) (c:Config) (hc:IsK p k c):Den Γ G 182 [(.agg [.t (.sl ((p).cells.map (Cell.enc))),.t (.sl ((p).modules.map (Contract.enc))),.t (.sl ((p).locks.map (Lock.enc))),.t (.sl ((p).threads.map (Thread.enc)))]),vi k,(.agg [.t (ints (c).mem),.t (ints (c).at_),.t (.sl ((c).buf.map (fun b=>[.sl (b.map Entry.enc)])))])]=some (vb true):=by
 obtain⟨⟨m1,m2,m3,m4⟩,_⟩:=zw8 (zw9 hf).1;have l3:=hc.b.lb;have h1:=zos p hs;rw[hf]at h1;have h2:=zmY p hf c hc.b;have h3:=zjG c (by omega);have k1: ¬k<0:=by omega
 have k2: ¬k>2:=by omega
 (refine zw3 Γ182 rfl ?_;dsimp only[zq6])
 by_cases k0:k=0
 ·have hq:zBx c=true:=by
   rw[zBx,zN];intro b hb;rw[hc.q k0 b hb];rfl
  rw[hq]at h3;simp -dsimp only[go_sem,seval,k1,k2,h1,h2,k0,h3]
 ·simp -dsimp only[go_sem,seval,k1,k2,h1,h2,k0]
end Rg
end

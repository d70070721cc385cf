/- Part of the proof of laws of relyguardtop. No condition. -/
import Derived.Test.YtbkhffpideppnaaGreatDoorIartAO
import Derived.Test.YtbkhffpideppnaaGreatDoorIartAN
import Derived.Lib.ItoaLen
import Derived.Test.YtbkhffpideppnaaGreatDoorIartAL
import Derived.Test.YtbkhffpideppnaaGreatDoorIartAK
set_option linter.unusedSimpArgs false
set_option linter.unusedVariables false
section
namespace Rg
open Go
theorem zpZ (m:List Int) (e:Entry) (hl:e.values.length=e.cells.length) (hs:e.cells.length<2^40) (hc: ∀n∈e.cells,0<=n/\n.toNat<m.length) (H:Nat->Option O) (nx k kc kv:Nat) (hk:H k=some (.rows 1 (zae m) false))
 (DO:H kc=some (.rows 1 (zae e.cells) false)) (Eh:H kv=some (.rows 1 (zae e.values) false)) (h1:kc≠k) (h2:kv≠k):
 ∃r h' n',DenR Γ G 199 [.ms k 0 m.length,.agg [.ms kc 0 e.cells.length,.ms kv 0 e.values.length]] H nx=some (r,h',n')/\(r= .tup []/\h' k=some (.rows 1 (zae (ziq m e)) false)/\(∀j,j≠k->h' j=H j)/\nx<=n'):=by
 (refine zay Γ199 rfl ?_;dsimp only[zIt])
 simp -dsimp only[go_sem,seval,DO];refine zaq 8388144 e.cells.length (fun i f h x=>(f 9).v=vi i/\h k=some (.rows 1 (zae (zig m e i)) false)/\(∀j,j≠k->h j=H j)/\nx<=x) rfl ⟨by simp -dsimp only[go_sem,seval],by simp -dsimp only[go_sem,seval,hk,zig,List.take_zero,List.foldl_nil],fun j _=>rfl,by simp -dsimp only[go_sem,seval];omega⟩ ?_;rintro i f u H2 x bs hi ⟨h9,hh,hj,hx⟩;have hw:=zan i (by omega);have Lr:=hj kc h1;have Lp:=hj kv h2;rw[DO]at Lr;rw[Eh]at Lp;simp -dsimp only[go_sem,seval,h9];refine zac (fun h=> ?_) (fun h=> ?_)<;>(try rw[h])<;>(try simp only[zah]at h)<;>(try simp -dsimp only[go_sem,seval,h9])
 ·obtain⟨c,Fs,BI⟩:=zai ‹i<e.cells.length›;obtain⟨v,hv,_⟩:=zai (show i<e.values.length by omega);obtain⟨c0,c1⟩:=hc c BI;have A7:=zmC (m:=m) Fs hv;have Ac:=zo8 m e i;have B5:=zbn (l:=zig m e i) (i:=c.toNat) (by omega);have AE:=zaI (zig m e i) c.toNat v;have c2:c<(m.length:Int):=by omega
  have i0:(0:Int)<=(i:Int):=by omega
  have j1:i<e.cells.length:=by omega
  have j2:i<e.values.length:=by omega
  have i1:(i:Int)<(e.cells.length:Int):=by omega
  have i2:(i:Int)<(e.values.length:Int):=by omega
  have B3:(zae e.cells)[i]? =some [vi c]:=by simp[zae,Fs]
  have BC:(zae e.values)[i]? =some [vi v]:=by simp[zae,hv]
  simp -dsimp only[go_sem,seval,h9,Lr,Lp,i0,i1,i2,j1,j2,B3,BC,hh,c0,c2,B5];refine⟨by omega,by simp -dsimp only[go_sem,seval,hw],?_,?_,by simp -dsimp only[go_sem,seval];omega⟩
  ·rw[A7];simp -dsimp only[go_sem,seval,AE]
  ·intro j Lv;simp -dsimp only[go_sem,seval,Lv,hj]
 ·have:i=e.cells.length:=by omega
  subst this;rw[zo9 hl]at hh;refine⟨rfl,hh,hj,by simp -dsimp only[go_sem,seval];omega⟩
theorem zqM (A:List (List V)) (hA: ∀r∈A,r.length=2) (hn:A.length<2^20) (i:Nat) (hi:i<A.length) (H:Nat->Option O) (nx k:Nat) (hk:H k=some (.rows 2 A false)) (EK:k<nx):
 ∃r h' n',DenR Γ G 203 [.ms k 0 A.length,vi i,vi ((i+1:Nat):Int)] H nx=some (r,h',n')/\ ∃k',r= .ms k' 0 (A.length-1)/\h' k'=some (.rows 2 (A.eraseIdx i++[[.t .nils,.t .nils]]) false)/\(∀j,j<nx->j≠k->h' j=H j)/\(k'=k\/nx<=k'):=by
 have g1:(0:Int)<=(i:Int):=by omega
 have g2:(i:Int)<=((i+1:Nat):Int):=by omega
 have g3:((i+1:Nat):Int)<=(A.length:Int):=by omega
 have g4:(0:Int)<=((i+1:Nat):Int):=by omega
 have g5:(i:Int)<=(A.length:Int):=by omega
 have g6: ¬(i:Int)=((i+1:Nat):Int):=by omega
 have g7:(A.length:Int)<=(A.length:Int):=Int.le_refl _;have g8: ¬((i+1:Nat):Int)=0:=by omega
 have s0:((i:Int)-0).toNat=i:=by omega
 have s1:((A.length:Int)-((i+1:Nat):Int)).toNat=A.length-(i+1):=by omega
 have s2:i<=A.length:=by omega
 have s3:rowsS H (.ms k (i+1) (A.length-(i+1)))=some (A.drop (i+1)):=by
  simp only[rowsS,hk,rd];rw[if_pos (by omega),List.take_of_length_le (by simp)]
 have s4:(A.take i).length=i:=by rw[List.length_take];omega
 have Aa: ∀l:List (List V),(∀r∈l,r∈A)->(l.all fun r=>decide (r.length=2))=true:=fun l hl=>zN.2 fun r hr=>by simpa using hA r (hl r hr)
 (refine zay Γ203 rfl ?_;dsimp only[f203])
 simp -dsimp only[go_sem,seval,hk,g1,g2,g3,g4,g5,g6,g7,g8,false_and,and_false,if_false,s0,s1,s2,s3];unfold zck;rw[if_pos ⟨⟨by rw[s4,List.length_drop];omega,by decide⟩,Aa _ fun r hr=>List.mem_of_mem_drop hr,Aa _ fun r hr=>List.mem_of_mem_take hr⟩];have Az:(A.length:Int)-1=((A.length-1:Nat):Int):=by omega
 by_cases GJ:i+1=A.length
 ·have hd:A.drop (i+1)=[]:=List.drop_of_length_le (by omega);rw[hd];simp only[List.isEmpty_nil,if_true,zcb,zaA];have q2:((A.length:Int)-(i:Int)).toNat=1:=by omega
  have q3: ¬(A.length:Int)<=(i:Int):=by omega
  have q4:zkk H 2 (i:Int) (A.length:Int) (.ms k 0 i)=some (.ms k i 1):=by
   simp only[zkk,hk];rw[if_pos ⟨trivial,by omega,by omega,by omega⟩];simp only[Int.toNat_natCast,Nat.zero_add,q2]
  have q5:A.take i++[[V.t T.nils,V.t T.nils]]++A.drop (i+1)=A.eraseIdx i++[[.t .nils,.t .nils]]:=by
   rw[List.eraseIdx_eq_take_drop_succ,hd];simp
  have q6:i+1<=A.length:=hi;simp -dsimp only[go_sem,seval,hk,g1,q2,q3,q4,false_and,and_false,if_false,List.replicate_one,q5,q6];refine⟨k,by rw[show A.length-1=i by omega];rfl,by simp[zaC,zaA,zaa],fun j _ hj=>by simp[zaC,zaA,zaa,hj],.inl rfl⟩
 ·have hd:(A.drop (i+1)).isEmpty=false:=by
   cases IB:A.drop (i+1)with
   | nil=>have:=congrArg List.length IB;rw[List.length_drop]at this;simp at this;omega
   | cons _ _=>rfl
  rw[hd];simp only[zG,if_false,hk,and_self,if_true,zcb];have hm:(A.take i).length+(A.drop (i+1)).length=A.length-1:=by rw[s4,List.length_drop];omega
  have q3: ¬(A.length:Int)<=((A.length-1:Nat):Int):=by omega
  have hR:zbU (A.take i) (A.drop (i+1)) A=A.eraseIdx i++A.drop (A.length-1):=by
   unfold zbU;rw[hm,if_neg (by omega),List.eraseIdx_eq_take_drop_succ]
  have Ou:(A.eraseIdx i++A.drop (A.length-1)).length=A.length:=by
   rw[zM,List.length_eraseIdx_of_lt hi,List.length_drop];omega
  rw[hm,hR]
  have q4: ∀(h:Nat->Option O) q,zkk (updC h q (some (O.rows 2 (A.eraseIdx i++A.drop (A.length-1)) false))) 2 ((A.length-1:Nat):Int) (A.length:Int) (.ms q 0 (A.length-1))=some (.ms q (A.length-1) 1):=by
   intro h q;simp only[zkk,zaa,if_true];rw[if_pos ⟨trivial,by omega,by omega,by rw[Ou];omega⟩];simp only[Int.toNat_natCast,Nat.zero_add]
   congr 1;congr 1;omega
  have e1:(A.eraseIdx i).length=A.length-1:=List.length_eraseIdx_of_lt hi
  have q5:(A.eraseIdx i++A.drop (A.length-1)).take (A.length-1)++[[V.t T.nils,V.t T.nils]]++(A.eraseIdx i++A.drop (A.length-1)).drop (A.length-1+1)=A.eraseIdx i++[[.t .nils,.t .nils]]:=by
   rw[List.take_append_of_le_length (by omega),List.take_of_length_le (by omega),List.drop_of_length_le (by rw[Ou];omega),List.append_nil]
  have q6:A.length-1+1<=(A.eraseIdx i++A.drop (A.length-1)).length:=by rw[Ou];omega
  simp -dsimp only[go_sem,seval,q3,q4,false_and,and_false,if_false,List.replicate_one,q5,q6];refine⟨_,rfl,by simp[zaC,zaA,zaa],fun j hj Az=> ?_,.inr (by omega)⟩;have Kq:j≠nx+1+6+3+3+6:=by omega
  rw[zaC,zaA,zaC,zaC,zaA,zaa,if_neg Kq,zaa,if_neg Kq,zaa,if_neg Az]
end Rg
end
section
namespace Rg
open Go
theorem zdp {h:Nat->Option O} {d:Nat}: ∀(vs:List (List V)) (bs:List (List Entry)),vs.length=bs.length->(∀(j:Nat) (b:List Entry),bs[j]? =some b-> ∃v,vs[j]? =some [v]/\toT h d v=some (.sl (b.map Entry.enc)))->
 vs.mapM (fun row=>row.mapM (toT h d))=some (bs.map fun b=>[.sl (b.map Entry.enc)])
 | [],[],_,_=>rfl
 | [],_::_,hl,_=>by simp at hl
 | _::_,[],hl,_=>by simp at hl
 | r::vs,b::bs,hl,hj=>by
   have ih:=zdp vs bs (by simpa using hl) fun j e he=>hj (j+1) e he
   obtain⟨v,hr,ht⟩:=hj 0 b rfl;simp only[List.getElem?_cons_zero,zA]at hr;subst hr;rw[List.mapM_cons,List.mapM_cons,ht,List.mapM_nil,ih];rfl
theorem zqR (p:Prog) (hf:zak p=true) (k:Int) (c:Config) (hc:IsB p c) (t:Nat) (ht:t<p.threads.length) (i:Nat) (e:Entry) (he:(za1 c t)[i]? =some e):
 Den Γ G 191 [stV p k c,vi t,vi i]=some (.agg [.t (ints (za8 c t i).mem),.t (ints (za8 c t i).at_),.t (.sl ((za8 c t i).buf.map (fun b=>[.sl (b.map Entry.enc)])))]):=by
 obtain⟨⟨m1,m2,m3,m4⟩,_⟩:=zal (zam hf).1;have l1:=hc.lm;have l2:=hc.la;have l3:=hc.lb;have Ag:=zb0 (c:=c) (t:=t) (by omega);obtain⟨b1,b2,_⟩:=hc.buf t _ Ag;have AV:=(zH.1 he).1;have BH:=b2 e (zL he);have BL:=zbd BH;unfold stV
 (refine zag Γ191 rfl ?_;dsimp only[zIW])
 simp -dsimp only[go_sem,seval];refine zas (zhD p hf c hc _) ?_;rintro r h' n' ⟨vM,vA,kB,rfl,x1,x2,bd,vs,hM,hA,CK,AT,AF,hB,Ay,H8⟩;obtain⟨Bu,Bi⟩:=hA.val;have RQ:=hA;obtain⟨v,hv,rows,B1,Bb,BC,Bh⟩:=Ay.at_ t _ Ag;have OM:=Ay.le (q:=0) (r:=t) (by omega) (by omega);have OL:=Ay.le (q:=t+1) (r:=c.buf.length) (by omega) (Nat.le_refl _);obtain⟨r,hr,kc,kv,rfl,a1,a2,a3,a4,a5,a6⟩:=Bh i e he;rcases B1 with⟨_,h0⟩ | ⟨kb,rfl,b3,b4,b5⟩
 ·exfalso;rw[h0]at hr;simp at hr
 rcases hM with⟨_,h0⟩ | ⟨kM,rfl,m5,m6,m7⟩
 ·exfalso;have h1:=congrArg List.length h0;rw[zab]at h1;have:=zcG BH (ziv BH);simp at h1;rw[h1]at l1;simp at l1;omega
 unfold V.cells at Bi;have i0:(0:Int)<=(i:Int):=by omega
 have i1:(i:Int)<(rows.length:Int):=by omega
 have t0:(0:Int)<=(t:Int):=by omega
 have t1:(t:Int)<(c.buf.length:Int):=by omega
 have hw:=zan i (by omega);simp -dsimp only[go_sem,seval,Bu,Bi,hB,hv,t0,t1,i0,i1,b5,hr];rw[zab];refine zas (zpZ c.mem e BH.len (by omega) (fun n hn=>by have:=zcG BH hn;omega) _ _ kM kc kv (by simp -dsimp only[go_sem,seval,m7]) (by simp -dsimp only[go_sem,seval,a5]) (by simp -dsimp only[go_sem,seval,a6]) (by omega) (by omega)) ?_;rintro r2 h2 n2 ⟨rfl,g1,g2,g3⟩;have Ij:=g2 kB (by omega);rw[hB]at Ij;have b52:=g2 kb (by omega);rw[b5]at b52;simp -dsimp only[go_sem,seval,Bu,Bi,Ij,hv,t0,t1,i0,i1,b52,hw];refine zas (zqM rows BC (by omega) i (by omega) h2 _ kb b52 (by omega)) ?_;rintro r3 h3 n3 ⟨kd,rfl,d1,d2,d3⟩;have Mb:=d2 kB (by omega) (by omega);rw[Ij]at Mb;have EL:kd≠kB:=by omega
 have Ke:vs[t]? =some [.ms kb 0 rows.length]:=hv;simp -dsimp only[go_sem,seval,Bu,Bi,Mb,hv,t0,t1];have hC:za8 c t i=⟨ziq c.mem e,c.at_,c.buf.set t ((za1 c t).eraseIdx i)⟩:=by simp only[za8,he]
 have AQ: ∀(o:Option O) q,q<n'->q≠kB->q≠kM->q≠kb->updC h3 kB o q=h' q:=fun o q q1 q2 q3 q4=>by
  rw[zaa,if_neg q2,d2 q (by omega) q4,g2 q q3]
 have f0: ¬kM=kB:=by omega
 have f1:h3 kM=some (.rows 1 (zae (ziq c.mem e)) false):=by rw[d2 kM (by omega) (by omega)];exact g1
 have f2:(zae (ziq c.mem e)).length=c.mem.length:=by rw[zab,zlm]
 have f3:List.take c.mem.length (zae (ziq c.mem e))=zae (ziq c.mem e):=za5 f2.symm
 have f4: ∀o:Option O,toT (updC h3 kB o) 1000 vA=some (ints c.at_):=fun o=>
  (hA.keep fun q q1 q2=>AQ o q (by omega) (by omega) (by omega) (by omega)).tree 999
 have f5: ∀v,(vs.set t [v]).length=c.buf.length:=fun v=>by rw[List.length_set];exact Ay.len
 have f6: ∀v,List.take c.buf.length (vs.set t [v])=vs.set t [v]:=fun v=>za5 (f5 v).symm
 have f7: ∀o:Option O,(vs.set t [V.ms kd 0 (rows.length-1)]).mapM (fun row=>row.mapM (toT (updC h3 kB o) 999))=some ((c.buf.set t ((za1 c t).eraseIdx i)).map fun b=>[.sl (b.map Entry.enc)]):=by
  intro o;refine zdp _ _ (by rw[f5,List.length_set]) fun j b hb=> ?_
  rw[List.getElem?_set]at hb
  by_cases hj:t=j
  ·subst hj;rw[if_pos rfl,if_pos (by omega)]at hb;simp only[zA]at hb;subst hb;refine⟨_,by rw[List.getElem?_set,if_pos rfl,if_pos (by have:=Ay.len;omega)],?_⟩;have hd:updC h3 kB o kd=some (.rows 2 (rows.eraseIdx i++[[.t .nils,.t .nils]]) false):=by rw[zaa,if_neg EL];exact d1
   have e1:(rows.eraseIdx i).length=rows.length-1:=List.length_eraseIdx_of_lt (by omega);have e2:rows.length-1<=(rows.eraseIdx i++[[V.t T.nils,V.t T.nils]]).length:=by rw[zM,e1];omega
   have e3:List.take (rows.length-1) (rows.eraseIdx i++[[V.t T.nils,V.t T.nils]])=rows.eraseIdx i:=by
    rw[List.take_append_of_le_length (by omega),List.take_of_length_le (by omega)]
   have e4:=zhr (h:=updC h3 kB o) (d:=998) (rows.eraseIdx i) ((za1 c t).eraseIdx i) (by rw[e1,List.length_eraseIdx_of_lt AV,Bb]) fun q e0 hq=>by
    rw[List.getElem?_eraseIdx]at hq⊢
    have key: ∀q',(za1 c t)[q']? =some e0-> ∃r:List V,rows[q']? =some r/\r.mapM (toT (updC h3 kB o) 998)=some (Entry.enc e0):=fun q' Eu=>by
     obtain⟨r,hr,hE⟩:=Bh q' e0 Eu;exact⟨r,hr,(hE.keep (Nat.le_refl _) (Nat.le_refl _) fun z z1 z2 z3=>AQ o z (by omega) (by omega) (by omega) (by rintro rfl;exact z3 _ _ b5)).tree 997⟩
    split at hq
    ·rename_i h1;rw[if_pos h1];exact key _ hq
    ·rename_i h1;rw[if_neg h1];exact key _ hq
   simp only[toT,hd,rd,Nat.zero_add,e2,if_true,List.drop_zero,e3,zC,zD,e4]
  ·rw[if_neg hj]at hb;obtain⟨u,hu,Hn⟩:=Ay.at_ j b hb;have AN:=(zH.1 hb).1;refine⟨u,by rw[List.getElem?_set,if_neg hj];exact hu,?_⟩;refine(Hn.keep (Nat.le_refl _) fun q q1 q2=> ?_).tree 997;have u1:=Ay.le (q:=0) (r:=j) (by omega) (by omega);have u2:=Ay.le (q:=j+1) (r:=c.buf.length) (by omega) (Nat.le_refl _);refine AQ o q (by omega) (by omega) (by omega) ?_;rintro rfl;rcases Nat.lt_or_ge j t with h1 | h1
   ·have:=Ay.le (q:=j+1) (r:=t) (by omega) (by omega);omega
   ·have:=Ay.le (q:=t+1) (r:=j) (by omega) (by omega);omega
 rw[hC];simp -dsimp only[go_sem,seval,f0,f1,f2,f3,f4,f5,f6,f7,zbw,Nat.le_refl]
theorem ziI {p:Prog} {set:List Assign} (h:SetOk p set):set.length<=p.cells.length:=by
 have h1:=zgX p.cells.length (set.map Assign.cell) (by
  rw[List.nodup_iff_pairwise_ne,List.pairwise_iff_getElem];intro i j hi hj Av he;simp only[List.length_map]at hi hj;simp only[List.getElem_map]at he;have:=h.dif i j _ _ (zI hi) (zI hj) he
  omega) (fun x hx=>by
  obtain⟨a,ha,rfl⟩:=List.mem_map.1 hx;have:=(h.rng a ha).1;simp only[inR,decide_eq_true_eq]at this
  exact this)
 simpa using h1
theorem zsR (p:Prog) (hf:zak p=true) (k:Int) (c:Config) (hc:IsB p c) (t:Nat) (x:Thread) (hx:p.threads[t]? =some x) (i:Nat) (s:Step) (hs:x.steps[i]? =some s) (y:Choice) (hy:y=⟨t,i,0⟩) (B4:s.kind≠3):
 Den Γ G 192 [stV p k c,(.agg [.t (ti (y).thread),.t (ti (y).step),.t (ti (y).cell)]),.t (ints (zaw c t))]=some (.agg [.t (ints (zdN p c t s).mem),.t (ints (zdN p c t s).at_),.t (.sl ((zdN p c t s).buf.map (fun b=>[.sl (b.map Entry.enc)])))]):=by
 subst hy;obtain⟨⟨m1,m2,m3,m4⟩,_⟩:=zal (zam hf).1;have l1:=hc.lm;have l2:=hc.la;have l3:=hc.lb;have Bm:=zb7 hf hx hs;have ht:t<p.threads.length:=(zH.1 hx).1;have E8:=ziI Bm.set
 have BI: ∀a∈s.set,0<=a.cell/\a.cell<c.mem.length:=fun a ha=>by
  have:=(Bm.rng.2 a ha).1;simp only[inR,decide_eq_true_eq]at this;omega
 unfold stV
 (refine zag Γ192 rfl ?_;dsimp only[zIu])
 simp -dsimp only[go_sem,seval];refine zas (zhD p hf c hc _) ?_;rintro r h' n' ⟨vM,vA,kB,rfl,x1,x2,bd,vs,hM,hA,CK,AT,AF,hB,Ay,H8⟩;obtain⟨Bu,Bi⟩:=hM.val;rcases hA with⟨_,h0⟩ | ⟨kA,rfl,a1,a2,a3⟩
 ·exfalso;have h1:=congrArg List.length h0;rw[zab]at h1;simp at h1;rw[h1]at l2;simp at l2;omega
 unfold V.cells at Bi;simp -dsimp only[go_sem,seval,Bu,Bi,hx,hs]
 refine zaq 18889465931476433377792 s.set.length (fun j f h z=>(f 31).v=vi j/\zoD h 0 x1 vM (zae (zaG c.mem (zaw c t) (s.set.take j)))/\(∀q,x1<=q->h q=h' q)/\n'<=z) rfl
  ⟨by simp -dsimp only[go_sem,seval],hM,fun _ _=>rfl,by simp -dsimp only[go_sem,seval];omega⟩ ?_
 rintro j f u H z bs hj ⟨E2,F7,AG,hz⟩;have hw:=zan j (by omega);simp -dsimp only[go_sem,seval,E2];refine zac (fun h=> ?_) (fun h=> ?_)<;>(try rw[h])<;>(try simp only[zah]at h)<;>(try simp -dsimp only[go_sem,seval,E2])
 ·obtain⟨a,ha,Cp⟩:=zai ‹j<s.set.length›;obtain⟨c0,c1⟩:=BI a Cp;have Ak:=zd4 a.to (zaw c t) (zaw c t);have Ac:(zaG c.mem (zaw c t) (s.set.take j)).length=c.mem.length:=zbL (zaw c t) _ c.mem;rcases F7 with⟨_,h0⟩ | ⟨kM,rfl,m5,m6,m7⟩
  ·exfalso;have h1:=congrArg List.length h0;rw[zab,Ac]at h1;simp at h1;rw[h1]at c1;simp at c1;omega
  have B5:=zbn (l:=zaG c.mem (zaw c t) (s.set.take j)) (i:=a.cell.toNat) (by omega);have AE:=zaI (zaG c.mem (zaw c t) (s.set.take j)) a.cell.toNat (a.to.eval (zaw c t) (zaw c t));rw[<- zhi ha]at AE;have C7:(zae (zaG c.mem (zaw c t) (s.set.take j))).length=c.mem.length:=by rw[zab,Ac]
  have D9:(zae (zaG c.mem (zaw c t) (s.set.take (j+1)))).length=c.mem.length:=by rw[zab,zbL]
  simp -dsimp only[go_sem,seval,E2,ha,Ak,B4,C7,c0,c1,m7,B5,AE];refine⟨by omega,by simp -dsimp only[go_sem,seval,hw],.inr ⟨kM,by rw[D9,C7],m5,m6,by simp -dsimp only[go_sem,seval]⟩,?_,by simp -dsimp only[go_sem,seval];omega⟩;intro q hq;have PZ:q≠kM:=by omega
  simp -dsimp only[go_sem,seval,PZ];exact AG q hq
 ·have:j=s.set.length:=by omega
  subst this;rw[List.take_length]at F7;have g1:H kA=some (.rows 1 (zae c.at_) false):=by rw[AG kA a1];exact a3
  have g2:H kB=some (.rows 1 vs false):=by rw[AG kB (by omega)];exact hB
  have B5:=zbn (l:=c.at_) (i:=t) (by omega);have AE:=zaI c.at_ t s.to;have Ad:(t:Int)<(c.at_.length:Int):=by omega
  have t0:(0:Int)<=(t:Int):=by omega
  have M9:kA≠kB:=by omega
  have Hm:kB≠kA:=by omega
  have fM: ∀o,toT (updC H kA o) 1000 vM=some (ints (zaG c.mem (zaw c t) s.set)):=fun o=>
   (F7.keep fun q q1 q2=>by rw[zaa,if_neg (by omega)]).tree 999
  have f5:vs.length=c.buf.length:=Ay.len;have f6:List.take c.buf.length vs=vs:=za5 f5.symm
  have f7: ∀o:Option O,vs.mapM (fun row=>row.mapM (toT (updC H kA o) 999))=some (c.buf.map fun b=>[.sl (b.map Entry.enc)]):=fun o=>
   zdp _ _ f5 fun q b hq=>by
    obtain⟨u,hu,OD⟩:=Ay.at_ q b hq;have Ed:=(zH.1 hq).1;have u1:=Ay.le (q:=0) (r:=q) (by omega) (by omega);exact⟨u,hu,(OD.keep (Nat.le_refl _) fun z z1 z2=>by rw[zaa,if_neg (by omega),AG z (by omega)]).tree 997⟩
  simp -dsimp only[go_sem,seval,B4,Bu,Bi,g1,B5,Ad,t0,AE,zab]
  by_cases hk:s.kind=6
  ·obtain⟨hr,_⟩:=Bm.tgt (.inl hk);simp only[inR,decide_eq_true_eq]at hr;have q1:s.target<(c.at_.length:Int):=by omega
   have q2:=hr.1;have GQ:=zbn (l:=c.at_.set t s.to) (i:=s.target.toNat) (by simp;omega);have Gs:=zaI (c.at_.set t s.to) s.target.toNat 0;have f2:(zae ((c.at_.set t s.to).set s.target.toNat 0)).length=c.at_.length:=by rw[zab];simp
   have f3:List.take c.at_.length (zae ((c.at_.set t s.to).set s.target.toNat 0))=zae ((c.at_.set t s.to).set s.target.toNat 0):=za5 f2.symm;have hE:zdN p c t s=⟨zaG c.mem (zaw c t) s.set,(c.at_.set t s.to).set s.target.toNat 0,c.buf⟩:=by simp only[zdN,if_neg B4,if_pos hk]
   rw[hE];simp -dsimp only[go_sem,seval,hk,Bu,Bi,q1,q2,GQ,Gs,zab,List.length_set,Hm,g2,zgK,fM,f3,f5,f6,f7,zbw,Nat.le_refl]
  ·have f2:(zae (c.at_.set t s.to)).length=c.at_.length:=by rw[zab];simp
   have f3:List.take c.at_.length (zae (c.at_.set t s.to))=zae (c.at_.set t s.to):=za5 f2.symm;have hE:zdN p c t s=⟨zaG c.mem (zaw c t) s.set,c.at_.set t s.to,c.buf⟩:=by simp only[zdN,if_neg B4,if_neg hk]
   rw[hE];simp -dsimp only[go_sem,seval,hk,Bu,Bi,zab,List.length_set,Hm,g2,fM,f3,f5,f6,f7,zbw,Nat.le_refl]
def zCQ (h:Nat->Option O) (lo z:Nat) (vc vv:V) (cs ws:List Int):Prop:=
 (vc= .t .nils/\vv= .t .nils/\cs=[]/\ws=[])\/ ∃kc kv,vc= .ms kc 0 (zae cs).length/\vv= .ms kv 0 (zae ws).length/\lo<=kc/\kc<z/\lo<=kv/\kv<z/\kc≠kv/\h kc=some (.rows 1 (zae cs) false)/\h kv=some (.rows 1 (zae ws) false)
theorem zsQ (p:Prog) (hf:zak p=true) (k:Int) (c:Config) (hc:IsB p c) (t:Nat) (x:Thread) (hx:p.threads[t]? =some x) (i:Nat) (s:Step) (hs:x.steps[i]? =some s) (y:Choice) (hy:y=⟨t,i,0⟩) (B4:s.kind=3):
 Den Γ G 192 [stV p k c,(.agg [.t (ti (y).thread),.t (ti (y).step),.t (ti (y).cell)]),.t (ints (zaw c t))]=some (.agg [.t (ints (zdN p c t s).mem),.t (ints (zdN p c t s).at_),.t (.sl ((zdN p c t s).buf.map (fun b=>[.sl (b.map Entry.enc)])))]):=by
 subst hy;obtain⟨⟨m1,m2,m3,m4⟩,_⟩:=zal (zam hf).1;have l1:=hc.lm;have l2:=hc.la;have l3:=hc.lb;have Bm:=zb7 hf hx hs;have ht:t<p.threads.length:=(zH.1 hx).1;have E8:=ziI Bm.set
 have BI: ∀a∈s.set,0<=a.cell/\a.cell<c.mem.length:=fun a ha=>by
  have:=(Bm.rng.2 a ha).1;simp only[inR,decide_eq_true_eq]at this;omega
 unfold stV
 (refine zag Γ192 rfl ?_;dsimp only[zIu])
 simp -dsimp only[go_sem,seval];refine zas (zhD p hf c hc _) ?_;rintro r h' n' ⟨vM,vA,kB,rfl,x1,x2,bd,vs,hM,hA,CK,AT,AF,hB,Ay,H8⟩;obtain⟨Bu,Bi⟩:=hM.val;rcases hA with⟨_,h0⟩ | ⟨kA,rfl,a1,a2,a3⟩
 ·exfalso;have h1:=congrArg List.length h0;rw[zab]at h1;simp at h1;rw[h1]at l2;simp at l2;omega
 unfold V.cells at Bi;have Om:=Ay.le (q:=0) (r:=c.buf.length) (by omega) (Nat.le_refl _);simp -dsimp only[go_sem,seval,Bu,Bi,hx,hs]
 refine zaq 18889465931476433377792 s.set.length (fun j f h z=>(f 31).v=vi j/\(f 9).v= .lb/\ ∃vc vv,(f 9).box=some [vc,vv]/\zCQ h n' z vc vv (((s.set.take j).filter (zao p)).map Assign.cell) (((s.set.take j).filter (zao p)).map fun a=>a.to.eval (zaw c t) (zaw c t))/\
  zoD h 0 x1 vM (zae (zaG c.mem (zaw c t) ((s.set.take j).filter fun a=> !zao p a)))/\(∀q,x1<=q->q<n'->h q=h' q)/\n'<=z) rfl
  ⟨by simp -dsimp only[go_sem,seval],by simp -dsimp only[go_sem,seval],.t .nils,.t .nils,by simp -dsimp only[go_sem,seval],.inl ⟨rfl,rfl,rfl,rfl⟩,hM,fun _ _ _=>rfl,by simp -dsimp only[go_sem,seval];omega⟩ ?_
 rintro j f u H z bs hj ⟨E2,h9,vc,vv,FK,DJ,F7,AG,hz⟩;have hw:=zan j (by omega);simp -dsimp only[go_sem,seval,E2];refine zac (fun h=> ?_) (fun h=> ?_)<;>(try rw[h])<;>(try simp only[zah]at h)<;>(try simp -dsimp only[go_sem,seval,E2])
 ·obtain⟨a,ha,Cp⟩:=zai ‹j<s.set.length›;obtain⟨c0,c1⟩:=BI a Cp;obtain⟨y,hy,_⟩:=Bm.wid a Cp;have Ak:=zd4 a.to (zaw c t) (zaw c t);have Bo:zao p a=decide (y.thread= -1):=by rw[zao,zaZ hy]
  by_cases Gj:y.thread= -1
  ·have Ff:zao p a=true:=by rw[Bo];simpa using Gj
   have Fc:Rg.valOf vc=some vc:=by rcases DJ with⟨rfl,_⟩ | ⟨_,_,rfl,_⟩<;>rfl
   have Bs:Rg.valOf vv=some vv:=by rcases DJ with⟨_,rfl,_⟩ | ⟨_,_,_,rfl,_⟩<;>rfl
   generalize AL:((s.set.take j).filter (zao p)).map Assign.cell=cs at *
   generalize Fy:(((s.set.take j).filter (zao p)).map fun a=>a.to.eval (zaw c t) (zaw c t))=ws at *
   have By:cs.length<=32:=by
    rw[<- AL,List.length_map];have:=List.length_filter_le (zao p) (s.set.take j);rw[List.length_take]at this;omega
   have Er:ws.length<=32:=by
    rw[<- Fy,List.length_map];have:=List.length_filter_le (zao p) (s.set.take j);rw[List.length_take]at this;omega
   have G9: ∀q,(q<n'\/z<=q)->zbg vc q:=fun q hq=>by
    rcases DJ with⟨rfl,_⟩ | ⟨kc,kv,rfl,_,e1,e2,_⟩
    ·intro i n h0;cases h0
    ·exact za3 (by omega) _ _
   have AM: ∀q,(q<n'\/z<=q)->zbg vv q:=fun q hq=>by
    rcases DJ with⟨_,rfl,_⟩ | ⟨kc,kv,_,rfl,_,_,e1,e2,_⟩
    ·intro i n h0;cases h0
    ·exact za3 (by omega) _ _
   have KX:zaF (updC H (z+1+4+6+14+4) (some (O.rows 1 [[V.t (ti a.cell)]] false))) (z+1+4+6+14+5) vc 1 (zae cs):=by
    rcases DJ with⟨rfl,_,rfl,_⟩ | ⟨kc,kv,rfl,_,e1,e2,e3,e4,e5,e6,e7⟩
    ·exact .inl ⟨rfl,rfl⟩
    ·exact .inr ⟨kc,rfl,by omega,by rw[zaa,if_neg (by omega)];exact e6⟩
   have Iy:=KX.rowsS;simp -dsimp only[go_sem,seval,E2,h9,FK,ha,Ak,B4,c0,hy,Gj,Fc,Iy];refine zav KX (Nat.le_refl _) (by rw[zab];omega) (by decide) rfl (zaQ _) ?_;intro v1 DN O0 Jq J3;rcases O0 with⟨_,CY⟩ | ⟨k1,rfl,NK,J9⟩
   ·simp at CY
   have NJ:z+1+4+6+14+5<=k1:=by
    rcases Nat.lt_or_ge k1 (z+1+4+6+14+5)with h1 | h1
    ·exact absurd rfl (Jq k1 h1 0 _)
    ·exact h1
   have G5: ∀q,q<z->zbg vc q->At (updC H (z+1+4+6+14+4) (some (O.rows 1 [[V.t (ti a.cell)]] false))) DN q=H q:=fun q q1 q2=>by
    rw[J3 q (by omega) q2,zaa,if_neg (by omega)]
   have GB:zaF (updC (At (updC H (z+1+4+6+14+4) (some (O.rows 1 [[V.t (ti a.cell)]] false))) DN) (z+1+4+6+14+8+3) (some (O.rows 1 [[V.t (T.int IntKind.i64 (a.to.eval (zaw c t) (zaw c t)))]] false))) (z+1+4+6+14+8+4) vv 1 (zae ws):=by
    rcases DJ with⟨_,rfl,_,rfl⟩ | ⟨kc,kv,rfl,rfl,e1,e2,e3,e4,e5,e6,e7⟩
    ·exact .inl ⟨rfl,rfl⟩
    ·exact .inr ⟨kv,rfl,by omega,by rw[zaa,if_neg (by omega),G5 kv e4 (za3 (by omega) _ _)];exact e7⟩
   have DY:=GB.rowsS;simp -dsimp only[go_sem,seval,E2,h9,FK,Bs,DY];refine zav GB (Nat.le_refl _) (by rw[zab];omega) (by decide) rfl (zaQ _) ?_;intro v2 D0 Cz Jp GK;rcases Cz with⟨_,CY⟩ | ⟨k2,rfl,HW,C4⟩
   ·simp at CY
   have FA:z+1+4+6+14+8+4<=k2:=by
    rcases Nat.lt_or_ge k2 (z+1+4+6+14+8+4)with h1 | h1
    ·exact absurd rfl (Jp k2 h1 0 _)
    ·exact h1
   have G4: ∀q,q<n'->At (updC (At (updC H (z+1+4+6+14+4) (some (O.rows 1 [[V.t (ti a.cell)]] false))) DN) (z+1+4+6+14+8+3) (some (O.rows 1 [[V.t (T.int IntKind.i64 (a.to.eval (zaw c t) (zaw c t)))]] false))) D0 q=H q:=fun q hq=>by
    rw[GK q (by omega) (AM q (.inl hq)),zaa,if_neg (by omega),G5 q (by omega) (G9 q (.inl hq))]
   have JA:At (updC (At (updC H (z+1+4+6+14+4) (some (O.rows 1 [[V.t (ti a.cell)]] false))) DN) (z+1+4+6+14+8+3) (some (O.rows 1 [[V.t (T.int IntKind.i64 (a.to.eval (zaw c t) (zaw c t)))]] false))) D0 k1=some (.rows 1 (zae cs++[[V.t (ti a.cell)]]) false):=by
    rw[GK k1 (by omega) (AM k1 (.inr (by omega))),zaa,if_neg (by omega)];exact J9
   have CW:(s.set.take (j+1)).filter (zao p)=(s.set.take j).filter (zao p)++[a]:=by
    rw[zaf ha,List.filter_append];simp[Ff]
   have Ax:((s.set.take (j+1)).filter fun a=> !zao p a)=(s.set.take j).filter fun a=> !zao p a:=by
    rw[zaf ha,List.filter_append];simp[Ff]
   simp -dsimp only[go_sem,seval,E2,h9];refine⟨by omega,by simp -dsimp only[go_sem,seval,hw],by simp -dsimp only[go_sem,seval,h9],.ms k1 0 (zae cs++[[V.t (ti a.cell)]]).length,.ms k2 0 (zae ws++[[V.t (T.int IntKind.i64 (a.to.eval (zaw c t) (zaw c t)))]]).length,by simp -dsimp only[go_sem,seval,FK],?_,?_,?_,by simp -dsimp only[go_sem,seval];omega⟩
   ·rw[CW,List.map_append,List.map_append,AL,Fy];refine .inr ⟨k1,k2,by rw[<- za4];rfl,by rw[<- za4];rfl,by omega,by simp -dsimp only[go_sem,seval];omega,by omega,by simp -dsimp only[go_sem,seval];omega,by omega,?_,?_⟩
    ·simp -dsimp only[go_sem,seval];rw[JA,<- za4]
    ·simp -dsimp only[go_sem,seval];rw[C4,<- za4]
   ·rw[Ax];exact F7.keep fun q q1 q2=>by simp -dsimp only[go_sem,seval];exact G4 q (by omega)
   ·intro q q1 q2;simp -dsimp only[go_sem,seval];rw[G4 q q2];exact AG q q1 q2
  ·have Ff:zao p a=false:=by rw[Bo];simpa using Gj
   have Ac:(zaG c.mem (zaw c t) ((s.set.take j).filter fun a=> !zao p a)).length=c.mem.length:=zbL (zaw c t) _ c.mem
   have CW:(s.set.take (j+1)).filter (zao p)=(s.set.take j).filter (zao p):=by
    rw[zaf ha,List.filter_append];simp[Ff]
   have Ax:((s.set.take (j+1)).filter fun a=> !zao p a)=((s.set.take j).filter fun a=> !zao p a)++[a]:=by
    rw[zaf ha,List.filter_append];simp[Ff]
   rcases F7 with⟨_,h0⟩ | ⟨kM,rfl,m5,m6,m7⟩
   ·exfalso;have h1:=congrArg List.length h0;rw[zab,Ac]at h1;simp at h1;rw[h1]at c1;simp at c1;omega
   have B5:=zbn (l:=zaG c.mem (zaw c t) ((s.set.take j).filter fun a=> !zao p a)) (i:=a.cell.toNat) (by omega);have AE:=zaI (zaG c.mem (zaw c t) ((s.set.take j).filter fun a=> !zao p a)) a.cell.toNat (a.to.eval (zaw c t) (zaw c t))
   have Fy:zaG c.mem (zaw c t) (((s.set.take j).filter fun a=> !zao p a)++[a])=(zaG c.mem (zaw c t) ((s.set.take j).filter fun a=> !zao p a)).set a.cell.toNat (a.to.eval (zaw c t) (zaw c t)):=by
    unfold zaG;rw[List.foldl_append];rfl
   rw[<- Fy]at AE;have C7:(zae (zaG c.mem (zaw c t) ((s.set.take j).filter fun a=> !zao p a))).length=c.mem.length:=by rw[zab,Ac]
   have D9:(zae (zaG c.mem (zaw c t) (((s.set.take j).filter fun a=> !zao p a)++[a]))).length=c.mem.length:=by rw[zab,zbL]
   simp -dsimp only[go_sem,seval,E2,h9,ha,Ak,B4,hy,Gj,C7,c0,c1,m7,B5,AE];refine⟨by omega,by simp -dsimp only[go_sem,seval,hw],by simp -dsimp only[go_sem,seval,h9],vc,vv,by simp -dsimp only[go_sem,seval,FK],?_,?_,?_,by simp -dsimp only[go_sem,seval];omega⟩
   ·rw[CW];rcases DJ with h1 | ⟨kc,kv,e0,e0',e1,e2,e3,e4,e5,e6,e7⟩
    ·exact .inl h1
    ·have u1:kc≠kM:=by omega
     have u2:kv≠kM:=by omega
     exact .inr ⟨kc,kv,e0,e0',e1,by simp -dsimp only[go_sem,seval];omega,e3,by simp -dsimp only[go_sem,seval];omega,e5,by simp -dsimp only[go_sem,seval,u1,e6],by simp -dsimp only[go_sem,seval,u2,e7]⟩
   ·rw[Ax];exact .inr ⟨kM,by rw[D9,C7],m5,m6,by simp -dsimp only[go_sem,seval]⟩
   ·intro q q1 q2;have u1:q≠kM:=by omega
    simp -dsimp only[go_sem,seval,u1];exact AG q q1 q2
 ·have Lu:j=s.set.length:=by omega
  subst Lu;rw[List.take_length]at F7 DJ;have Gz:=zfH Bm B4 (zaw c t);rcases DJ with⟨_,_,h1,_⟩ | ⟨kc,kv,rfl,rfl,e1,e2,e3,e4,e5,e6,e7⟩
  ·exact absurd h1 Gz.ne
  have g1:H kA=some (.rows 1 (zae c.at_) false):=by rw[AG kA a1 (by omega)];exact a3
  have g2:H kB=some (.rows 1 vs false):=by rw[AG kB (by omega) (by omega)];exact hB
  have Ag:=zb0 (c:=c) (t:=t) (by omega);obtain⟨v,hv,EU⟩:=Ay.at_ t _ Ag;have OM:=Ay.le (q:=0) (r:=t) (by omega) (by omega);have OL:=Ay.le (q:=t+1) (r:=c.buf.length) (by omega) (Nat.le_refl _);have Rt:=Ay.mono t (by omega);obtain⟨Bs,_⟩:=EU.val;obtain⟨rows,B1,Bb,BC,Bh⟩:=EU;have t0:(0:Int)<=(t:Int):=by omega
  have t1:(t:Int)<(c.buf.length:Int):=by omega
  generalize Dm:(zae (List.map Assign.cell (List.filter (zao p) s.set))).length=nc at *
  generalize La:(zae (List.map (fun a=>a.to.eval (zaw c t) (zaw c t)) (List.filter (zao p) s.set))).length=nv at *
  have B7: ∀q,(q<bd t\/bd (t+1)<=q\/ ∀rs fz,h' q≠some (O.rows 2 rs fz))->zbg v q:=fun q hq=>by
   rcases B1 with⟨rfl,_⟩ | ⟨kb,rfl,d1,d2,d3⟩
   ·intro i n h0;cases h0
   ·refine za3 ?_ _ _;rintro rfl;rcases hq with h | h | h
    ·omega
    ·omega
    ·exact h _ _ d3
  have GB:zaF (updC H (z+1+3+11) (some (O.rows 2 [[V.ms kc 0 nc,V.ms kv 0 nv]] false))) (z+1+3+12) v 2 rows:=by
   rcases B1 with⟨rfl,h1⟩ | ⟨kb,rfl,d1,d2,d3⟩
   ·exact .inl ⟨rfl,h1⟩
   ·exact .inr ⟨kb,rfl,by omega,by rw[zaa,if_neg (by omega),AG kb (by omega) (by omega)];exact d3⟩
  have DY:=GB.rowsS;simp -dsimp only[go_sem,seval,B4,h9,FK,g2,hv,Bs,t0,t1,DY];have Aa:(rows.all fun r=>decide (r.length=2))=true:=by simpa using BC
  obtain⟨b1,b2,_⟩:=hc.buf t _ Ag;refine zav GB (Nat.le_refl _) (by rw[Bb];omega) (by decide) rfl Aa ?_;intro v2 hp hO Bn A8;rcases hO with⟨_,CY⟩ | ⟨k2,rfl,HW,C4⟩
  ·simp at CY
  have FA:z+1+3+12<=k2:=by
   rcases Nat.lt_or_ge k2 (z+1+3+12)with h1 | h1
   ·exact absurd rfl (Bn k2 h1 0 _)
   ·exact h1
  have Ev: ∀q,q<z->zbg v q->At (updC H (z+1+3+11) (some (O.rows 2 [[V.ms kc 0 nc,V.ms kv 0 nv]] false))) hp q=H q:=fun q q1 q2=>by
   rw[A8 q (by omega) q2,zaa,if_neg (by omega)]
  have gB:=Ev kB (by omega) (B7 kB (.inl (by omega)));rw[g2]at gB;have gA:=Ev kA (by omega) (B7 kA (.inl (by omega)));rw[g1]at gA;have M9:kA≠kB:=by omega
  have Hm:kB≠kA:=by omega
  have B5:=zbn (l:=c.at_) (i:=t) (by omega);have AE:=zaI c.at_ t s.to;have Ad:(t:Int)<(c.at_.length:Int):=by omega
  have k6: ¬s.kind=6:=by omega
  simp -dsimp only[go_sem,seval,B4,h9,FK,gB,hv,t0,t1,M9,gA,B5,Ad,AE,zab];have hC:zdN p c t s=⟨zaG c.mem (zaw c t) (s.set.filter fun a=> !zao p a),c.at_.set t s.to,c.buf.set t (za1 c t++[zfb p (zaw c t) s.set])⟩:=by simp only[zdN,if_pos B4,if_neg k6]
  have CJ: ∀(o o':Option O) q,q≠kA->q≠kB->updC (updC (At (updC H (z+1+3+11) (some (O.rows 2 [[V.ms kc 0 nc,V.ms kv 0 nv]] false))) hp) kB o) kA o' q=At (updC H (z+1+3+11) (some (O.rows 2 [[V.ms kc 0 nc,V.ms kv 0 nv]] false))) hp q:=fun o o' q q1 q2=>by
   rw[zaa,if_neg q1,zaa,if_neg q2]
  have AQ: ∀(o o':Option O) q,x1<=q->q<n'->q≠kA->q≠kB->zbg v q->updC (updC (At (updC H (z+1+3+11) (some (O.rows 2 [[V.ms kc 0 nc,V.ms kv 0 nv]] false))) hp) kB o) kA o' q=h' q:=fun o o' q q0 q1 q2 q3 q4=>by
   rw[CJ o o' q q2 q3,Ev q (by omega) q4,AG q q0 q1]
  have fM: ∀o o',toT (updC (updC (At (updC H (z+1+3+11) (some (O.rows 2 [[V.ms kc 0 nc,V.ms kv 0 nv]] false))) hp) kB o) kA o') 1000 vM=some (ints (zaG c.mem (zaw c t) (s.set.filter fun a=> !zao p a))):=fun o o'=>
   (F7.keep fun q q1 q2=>by rw[CJ o o' q (by omega) (by omega),Ev q (by omega) (B7 q (.inl (by omega)))]).tree 999
  have f3:List.take c.at_.length (zae (c.at_.set t s.to))=zae (c.at_.set t s.to):=za5 (by rw[zab,List.length_set]);have f5: ∀v,(vs.set t [v]).length=c.buf.length:=fun v=>by rw[List.length_set];exact Ay.len
  have f6: ∀v,List.take c.buf.length (vs.set t [v])=vs.set t [v]:=fun v=>za5 (f5 v).symm
  have f7: ∀o o':Option O,(vs.set t [V.ms k2 0 (rows++[[V.ms kc 0 nc,V.ms kv 0 nv]]).length]).mapM (fun row=>row.mapM (toT (updC (updC (At (updC H (z+1+3+11) (some (O.rows 2 [[V.ms kc 0 nc,V.ms kv 0 nv]] false))) hp) kB o) kA o') 999))=some ((c.buf.set t (za1 c t++[zfb p (zaw c t) s.set])).map fun b=>[.sl (b.map Entry.enc)]):=by
   intro o o';refine zdp _ _ (by rw[f5,List.length_set]) fun j b hb=> ?_
   rw[List.getElem?_set]at hb
   by_cases hj:t=j
   ·subst hj;rw[if_pos rfl,if_pos (by omega)]at hb;simp only[zA]at hb;subst hb;refine⟨_,by rw[List.getElem?_set,if_pos rfl,if_pos (by have:=Ay.len;omega)],?_⟩;refine znv.tree (lo:=bd t) (hi:=k2+1) ⟨rows++[[V.ms kc 0 nc,V.ms kv 0 nv]],.inr ⟨k2,rfl,by omega,by omega,by rw[CJ o o' k2 (by omega) (by omega)];exact C4⟩,by rw[zM,zM,Bb];rfl,?_,fun q e0 hq=> ?_⟩ 997
    ·intro r hr;rcases List.mem_append.1 hr with hr | hr
     ·exact BC r hr
     ·rw[List.mem_singleton]at hr;rw[hr];rfl
    ·rcases Nat.lt_or_ge q (za1 c t).length with h1 | h1
     ·rw[List.getElem?_append_left h1]at hq;obtain⟨r,hr,hE⟩:=Bh q e0 hq;refine⟨r,by rw[List.getElem?_append_left (by omega)];exact hr,hE.keep (Nat.le_refl _) (by omega) fun w w1 w2 w3=> ?_⟩;exact AQ o o' w (by omega) (by omega) (by omega) (by omega) (B7 w (.inr (.inr w3)))
     ·have Cc:q=(za1 c t).length:=by
       have:=(zH.1 hq).1;rw[zM,List.length_singleton]at this;omega
      subst Cc;rw[List.getElem?_append_right (Nat.le_refl _),Nat.sub_self]at hq;simp only[List.getElem?_cons_zero,zA]at hq;subst hq;refine⟨[V.ms kc 0 nc,V.ms kv 0 nv],by rw[List.getElem?_append_right (by omega),Bb,Nat.sub_self];rfl,?_⟩
      have u1: ∀q,n'<=q->q<z->updC (updC (At (updC H (z+1+3+11) (some (O.rows 2 [[V.ms kc 0 nc,V.ms kv 0 nv]] false))) hp) kB o) kA o' q=H q:=fun q q1 q2=>by
       rw[CJ o o' q (by omega) (by omega),Ev q q2 (B7 q (.inr (.inl (by omega))))]
      rw[zab]at Dm La;refine⟨kc,kv,by rw[<- Dm,<- La];rfl,by omega,by omega,by omega,by omega,by rw[u1 kc e1 e2];exact e6,by rw[u1 kv e3 e4];exact e7⟩
   ·rw[if_neg hj]at hb;obtain⟨u,hu,Hn⟩:=Ay.at_ j b hb;have AN:=(zH.1 hb).1;refine⟨u,by rw[List.getElem?_set,if_neg hj];exact hu,?_⟩;refine(Hn.keep (Nat.le_refl _) fun q q1 q2=> ?_).tree 997;have u1:=Ay.le (q:=0) (r:=j) (by omega) (by omega);have u2:=Ay.le (q:=j+1) (r:=c.buf.length) (by omega) (Nat.le_refl _);refine AQ o o' q (by omega) (by omega) (by omega) (by omega) (B7 q ?_);rcases Nat.lt_or_ge j t with h1 | h1
    ·have:=Ay.le (q:=j+1) (r:=t) (by omega) (by omega);exact .inl (by omega)
    ·have:=Ay.le (q:=t+1) (r:=j) (by omega) (by omega);exact .inr (.inl (by omega))
  rw[hC];simp -dsimp only[go_sem,seval,Hm,fM,f3,f5,f6,f7,zab,List.length_set,zbw,Nat.le_refl]
theorem zsT (p:Prog) (hf:zak p=true) (k:Int) (c:Config) (hc:IsB p c) (t:Nat) (x:Thread) (hx:p.threads[t]? =some x) (i:Nat) (s:Step) (hs:x.steps[i]? =some s) (y:Choice) (hy:y=⟨t,i,0⟩):
 Den Γ G 192 [stV p k c,(.agg [.t (ti (y).thread),.t (ti (y).step),.t (ti (y).cell)]),.t (ints (zaw c t))]=some (.agg [.t (ints (zdN p c t s).mem),.t (ints (zdN p c t s).at_),.t (.sl ((zdN p c t s).buf.map (fun b=>[.sl (b.map Entry.enc)])))]):=by
 by_cases hk:s.kind=3
 ·exact zsQ p hf k c hc t x hx i s hs y hy hk
 ·exact zsR p hf k c hc t x hx i s hs y hy hk
def stT (p:Prog) (k:Int) (c:Config):List T:=[ints c.mem,ints c.at_,.sl (c.buf.map fun b=>[.sl (b.map Entry.enc)]),.sl (p.cells.map Cell.enc),.sl (p.modules.map Contract.enc),.sl (p.locks.map Lock.enc),.sl (p.threads.map Thread.enc),ti k]
theorem zph (p:Prog) (k:Int) (c:Config) (t:Nat):Den Γ G 190 [stV p k c,vi t]=some (.t (.fn 200 [] [.ip (stT p k c),.ip [ti t]])):=by
 unfold stV stT
 (refine zag Γ190 rfl ?_;dsimp only[zIX])
 simp -dsimp only[go_sem,seval]
 done
theorem zmN (p:Prog) (hf:zak p=true) (k:Int) (c:Config) (hc:IsB p c) (t:Nat) (ht:t<p.threads.length) (ky:Nat) (Inv:Nat->(Nat->Option O)->Nat->Prop) (Stop:(Nat->Option O)->Nat->Prop)
 (Bc: ∀i H n m,Inv i H n->n<=m->Inv i H m) (Ai: ∀H n m,Stop H n->n<=m->Stop H m)
 (Fe: ∀i e H n,(za1 c t)[i]? =some e->Inv i H n->if zc2 k (za1 c t) i e then ∃cont h' n',DenY Γ G ky [vi i,.agg [.t (ints e.cells),.t (ints e.values)]] H n=some (vb cont,h',n')/\(if cont then Inv (i+1) h' n' else Stop h' n')else Inv (i+1) H n)
 (H:Nat->Option O) (n:Nat) (h0:Inv 0 H n):
 ∃r h' n',DenR Γ G 200 [.yl ky,.t (.ip (stT p k c)),.t (.ip [ti t])] H n=some (r,h',n')/\(Inv (za1 c t).length h' n'\/Stop h' n'):=by
 obtain⟨⟨m1,m2,m3,m4⟩,_⟩:=zal (zam hf).1;have l3:=hc.lb;have Ag:=zb0 (c:=c) (t:=t) (by omega);obtain⟨b1,b2,_⟩:=hc.buf t _ Ag;unfold stT
 (refine zay Γ200 rfl ?_;dsimp only[zIT])
 simp -dsimp only[go_sem,seval,Ag];refine zaq 1099511595104 (za1 c t).length (fun i f h z=>(f 15).v=vi i/\Inv i h z) rfl ⟨by simp -dsimp only[go_sem,seval],Bc _ _ _ _ h0 (by simp -dsimp only[go_sem,seval];omega)⟩ ?_;rintro i f u H2 z bs hi ⟨Cy,hI⟩;have hw:=zan i (by omega);simp -dsimp only[go_sem,seval,Cy];refine zac (fun h=> ?_) (fun h=> ?_)<;>(try rw[h])<;>(try simp only[zah]at h)<;>(try simp -dsimp only[go_sem,seval,Cy])
 ·obtain⟨e,he,Cn⟩:=zai ‹i<(za1 c t).length›;have BH:=b2 e Cn;have BL:=zbd BH;have HJ:=Fe i e H2 z he hI
  have HG:zc2 k (za1 c t) i e=true-> ∀m,z<=m-> ∃r h' n',DenY Γ G ky [vi i,.agg [.t (ints e.cells),.t (ints e.values)]] H2 m=some (r,h',n')/\ ∃cont:Bool,r=vb cont/\(if cont then Inv (i+1) h' n' else Stop h' n'):=fun ho m hm=>by
   have:=Fe i e H2 m he (Bc _ _ _ _ hI hm);rw[if_pos ho]at this;obtain⟨cont,h',n',h1,h2⟩:=this;exact⟨_,h',n',h1,cont,rfl,h2⟩
  have Aa:((((za1 c t).map Entry.enc)).all fun x=>decide (x.length=2))=true:=by simp[Entry.enc]
  have D4:=zow ((za1 c t).take i) e (by rw[List.length_take];omega) (by omega) (fun o ho=>by
   have:=zbd (b2 o (List.mem_of_mem_take ho));omega)
  rw[List.map_take]at D4;have i1:(0:Int)<=(i:Int):=by omega
  have i2:(i:Int)<=((za1 c t).length:Int):=by omega
  have i3:((i:Int)-0).toNat=i:=by omega
  by_cases Dq:i=0
  ·subst Dq;simp -dsimp only[go_sem,seval,Cy,he,Entry.enc];refine zas (HG (by simp[zc2]) _ (by omega)) ?_;rintro r h' n' ⟨cont,rfl,El⟩;cases cont
   ·simp -dsimp only[go_sem,seval,Cy];exact .inr (Ai _ _ _ El (by omega))
   ·simp -dsimp only[go_sem,seval,Cy];exact⟨by omega,by simp -dsimp only[go_sem,seval,hw],Bc _ _ _ _ El (by simp -dsimp only[go_sem,seval];omega)⟩
  ·have B5:(i:Int)>0:=by omega
   by_cases AF:k=2
   ·cases hb:zcw ((za1 c t).take i) e
    ·simp -dsimp only[go_sem,seval,Cy,he,Entry.enc,B5,AF,D4,hb,i1,i2,i3,Aa];refine zas (HG (by simp[zc2,AF,hb]) _ (by omega)) ?_;rintro r h' n' ⟨cont,rfl,El⟩;cases cont
     ·simp -dsimp only[go_sem,seval,Cy];exact .inr (Ai _ _ _ El (by omega))
     ·simp -dsimp only[go_sem,seval,Cy];exact⟨by omega,by simp -dsimp only[go_sem,seval,hw],Bc _ _ _ _ El (by simp -dsimp only[go_sem,seval];omega)⟩
    ·simp -dsimp only[go_sem,seval,Cy,he,Entry.enc,B5,AF,D4,hb,i1,i2,i3,Aa];rw[if_neg (by simp[zc2,AF,hb,Dq])]at HJ;exact⟨by omega,by simp -dsimp only[go_sem,seval,hw],Bc _ _ _ _ HJ (by simp -dsimp only[go_sem,seval];omega)⟩
   ·simp -dsimp only[go_sem,seval,Cy,he,Entry.enc,B5,AF];rw[if_neg (by simp[zc2,AF,Dq])]at HJ;exact⟨by omega,by simp -dsimp only[go_sem,seval,hw],Bc _ _ _ _ HJ (by simp -dsimp only[go_sem,seval];omega)⟩
 ·have Cq:i=(za1 c t).length:=by omega
  subst Cq;exact .inl (Bc _ _ _ _ hI (by simp -dsimp only[go_sem,seval];omega))
theorem zkx (p:Prog) (hf:zak p=true) (e:Entry) (he:Proper p e):Den Γ G 205 [(zP p),.agg [.t (ints e.cells),.t (ints e.values)]]=some (vb true):=by
 obtain⟨⟨m1,m2,m3,m4⟩,_⟩:=zal (zam hf).1;have hl:=zbd he;have hv:=he.len
 have n0: ¬(e.cells.length:Int)=0:=by
  have:e.cells.length≠0:=fun h=>he.ne (List.eq_nil_of_length_eq_zero h)
  omega
 have n1: ¬(e.cells.length:Int)>(p.cells.length:Int):=by omega
 have n2:(e.values.length:Int)=(e.cells.length:Int):=by omega
 (refine zag Γ205 rfl ?_;dsimp only[zAA])
 simp -dsimp only[go_sem,seval,n0,n1,n2];refine zaT 1237940039285380266309189872 e.cells.length (fun i f=>(f 33).v=vi i) rfl rfl (by simp -dsimp only[go_sem,seval]) ?_;rintro i f u kk bb hi FL;have hw:=zan i (by omega);simp -dsimp only[go_sem,seval,FL];refine zac (fun h=> ?_) (fun h=> ?_)<;>(try rw[h])<;>(try simp only[zah]at h)<;>(try simp -dsimp only[go_sem,seval,FL])
 ·obtain⟨n,hn,GE⟩:=zai ‹i<e.cells.length›;obtain⟨v,Bs,_⟩:=zai (show i<e.values.length by omega);obtain⟨c0,y,hy,ht,hg,v0,v1⟩:=he.cell i n v hn Bs;have HG:=(zH.1 hy).1;obtain⟨w1,w2,_⟩:=zdm hf (zL hy);have Bo:=ziH (w:=y.w) (by omega);have FT: ¬y.w<0:=by omega
  have a1: ¬n<0:=by omega
  have a2: ¬n>=(p.cells.length:Int):=by omega
  have a3: ¬v<0:=by omega
  have a4: ¬v>=2^y.w.toNat:=by omega
  have i1:(0:Int)<=(i:Int):=by omega
  have i2:(i:Int)<=(e.cells.length:Int):=by omega
  have i3:((i:Int)-0).toNat=i:=by omega
  have Ez:=zff (e.cells.take i) n (by rw[List.length_take];omega)
  have QL:(e.cells.take i).contains n=false:=by
   rw[Bool.eq_false_iff];intro hc;have hm:n∈e.cells.take i:=by simpa using hc
   obtain⟨j,hj⟩:=List.getElem?_of_mem hm;rw[zO]at hj;split at hj
   ·rename_i DP;have h1:=(zH.1 hj)
    have h2:=(zH.1 hn)
    exact List.pairwise_iff_getElem.1 (List.nodup_iff_pairwise_ne.1 he.nd) j i h1.1 h2.1 DP (by rw[h1.2,h2.2])
   ·simp at hj
  rw[QL]at Ez;have Aa:((e.cells.map fun n=>[ti n]).all fun x=>decide (x.length=1))=true:=by simp
  have IW:(e.cells.map fun n=>[ti n]).take i=(e.cells.take i).map fun n=>[ti n]:=by rw[List.map_take]
  have I8:((y.ghost==decide ((i:Int)>0)) != true)=false:=by
   rw[hg]
   by_cases h0:0<i
   ·have:(i:Int)>0:=by omega
    simp[h0]
   ·have : ¬(i:Int)>0:=by omega
    simp[h0]
  simp -dsimp only[go_sem,seval,FL,hn,a1,a2,i1,i2,i3,Aa,IW,Ez,c0,hy,ht,I8,Bs,a3,Bo,FT,a4];exact⟨by omega,by simp -dsimp only[go_sem,seval,hw]⟩
theorem zsG (p:Prog) (hf:zak p=true) (c:Config) (hc:IsB p c):Den Γ G 196 [(.agg [.t (.sl ((p).cells.map (Cell.enc))),.t (.sl ((p).modules.map (Contract.enc))),.t (.sl ((p).locks.map (Lock.enc))),.t (.sl ((p).threads.map (Thread.enc)))]),(.agg [.t (ints (c).mem),.t (ints (c).at_),.t (.sl ((c).buf.map (fun b=>[.sl (b.map Entry.enc)])))])]=some (vb true):=by
 obtain⟨⟨m1,m2,m3,m4⟩,_⟩:=zal (zam hf).1;have l1:=hc.lm;have l2:=hc.la;have l3:=hc.lb;have e1:(c.mem.length:Int)=(p.cells.length:Int):=by omega
 have e2:(c.at_.length:Int)=(p.threads.length:Int):=by omega
 have e3:(c.buf.length:Int)=(p.threads.length:Int):=by omega
 (refine zag Γ196 rfl ?_;dsimp only[zIU])
 simp -dsimp only[go_sem,seval,e1,e2,e3];refine zaT 576459652791795824 c.mem.length (fun i f=>(f 40).v=vi i) rfl rfl (by simp -dsimp only[go_sem,seval]) ?_;rintro i f u kk bb hi MI;have hw:=zan i (by omega);simp -dsimp only[go_sem,seval,MI];refine zac (fun h=> ?_) (fun h=> ?_)<;>(try rw[h])<;>(try simp only[zah]at h)<;>(try simp -dsimp only[go_sem,seval,MI])
 ·obtain⟨v,hv,_⟩:=zai (show i<c.mem.length by omega);obtain⟨x,hx,C1⟩:=zai (show i<p.cells.length by omega);obtain⟨w1,w2,_⟩:=zdm hf C1;have Bo:=ziH (w:=x.w) (by omega);have FT: ¬x.w<0:=by omega
  obtain⟨v0,v1⟩:=hc.mem i v x hv hx;have a3: ¬v<0:=by omega
  have a4: ¬v>=2^x.w.toNat:=by omega
  simp -dsimp only[go_sem,seval,MI,hv,hx,Bo,FT,a3,a4];exact⟨by omega,by simp -dsimp only[go_sem,seval,hw]⟩
 ·refine zaT 2658455991569831741195928102133304208 c.at_.length (fun i f=>(f 62).v=vi i) rfl rfl (by simp -dsimp only[go_sem,seval]) ?_;clear MI hw;rintro t f u kk bb hi HD;have hw:=zan t (by omega);simp -dsimp only[go_sem,seval,HD];refine zac (fun h=> ?_) (fun h=> ?_)<;>(try rw[h])<;>(try simp only[zah]at h)<;>(try simp -dsimp only[go_sem,seval,HD])
  ·obtain⟨a,ha,_⟩:=zai (show t<c.at_.length by omega);obtain⟨x,hx,C1⟩:=zai (show t<p.threads.length by omega);obtain⟨a1,a2,a3⟩:=hc.at_ t a x ha hx;have Ag:=zb0 (c:=c) (t:=t) (by omega);obtain⟨b1,b2,b3⟩:=hc.buf t _ Ag;have q1: ¬a< -1:=by omega
   have q2: ¬a>=x.points:=by omega
   have q3: ¬((za1 c t).length:Int)>3:=by omega
   by_cases HA:a= -1
   ·have Co:za1 c t=[]:=b3 (by rw[ha,HA]);have BA:=a3 HA;have n0: ¬((za1 c t).length:Int)>0:=by rw[Co];simp
    subst HA;simp -dsimp only[go_sem,seval,HD,ha,hx,Ag,q1,q2,q3,BA,n0];refine zaT 1326631847355648459089541812115736592 (za1 c t).length (fun j f'=>(f' 111).v=vi j) rfl rfl (by simp -dsimp only[go_sem,seval]) ?_;rintro j f' u' kk' bb' hj Fa;have Aw:=zan j (by omega);simp -dsimp only[go_sem,seval,Fa];refine zac (fun h=> ?_) (fun h=> ?_)<;>(try rw[h])<;>(try simp only[zah]at h)<;>(try simp -dsimp only[go_sem,seval,Fa,HD])
    ·obtain⟨e,he,Cn⟩:=zai ‹j<(za1 c t).length›;have KP:=zkx p hf e (b2 e Cn);simp -dsimp only[go_sem,seval,Fa,HD,he,Entry.enc,KP];exact⟨by omega,by simp -dsimp only[go_sem,seval,Aw]⟩
    ·exact⟨by omega,by simp -dsimp only[go_sem,seval,hw,HD]⟩
   ·simp -dsimp only[go_sem,seval,HD,ha,hx,Ag,q1,q2,q3,HA];refine zaT 1326631847355648459089541812115736592 (za1 c t).length (fun j f'=>(f' 111).v=vi j) rfl rfl (by simp -dsimp only[go_sem,seval]) ?_;rintro j f' u' kk' bb' hj Fa;have Aw:=zan j (by omega);simp -dsimp only[go_sem,seval,Fa];refine zac (fun h=> ?_) (fun h=> ?_)<;>(try rw[h])<;>(try simp only[zah]at h)<;>(try simp -dsimp only[go_sem,seval,Fa,HD])
    ·obtain⟨e,he,Cn⟩:=zai ‹j<(za1 c t).length›;have KP:=zkx p hf e (b2 e Cn);simp -dsimp only[go_sem,seval,Fa,HD,he,Entry.enc,KP];exact⟨by omega,by simp -dsimp only[go_sem,seval,Aw]⟩
    ·exact⟨by omega,by simp -dsimp only[go_sem,seval,hw,HD]⟩
theorem zp3 (p:Prog) (hs:p.sane):Den Γ G 195 [(zP p)]=some (vb (zak p)):=by
 (refine zag Γ195 rfl ?_;dsimp only[zIV])
 have h1:=zeV p hs;simp -dsimp only[go_sem,seval,h1];rfl
theorem zpj (p:Prog) (hs:p.sane) (hf:zak p=true) (c:Config) (hc:IsB p c) (k:Int) (hk:k=1\/k=2):Den Γ G 187 [(zP p),vi k,(.agg [.t (ints (c).mem),.t (ints (c).at_),.t (.sl ((c).buf.map (fun b=>[.sl (b.map Entry.enc)])))])]=some (.tup [stV p k c,vb true]):=by
 unfold stV
 (refine zag Γ187 rfl ?_;dsimp only[zAE])
 have h1:=zp3 p hs;rw[hf]at h1;have h2:=zsG p hf c hc;rcases hk with rfl | rfl
 ·simp -dsimp only[go_sem,seval,h1,h2]
 ·simp -dsimp only[go_sem,seval,h1,h2]
def zo7 (c:Config):Bool:=c.buf.all fun b=>b.isEmpty
end Rg
end
section
namespace Rg
open Go
theorem zMf (e:Expr) (o m:List Int):0<=e.eval o m/\(e.formed=true->e.eval o m<2^e.w.toNat):=by
 unfold Expr.eval;split
 ·rename_i h;have:=zix o m 40 e (zcp h);exact⟨this.1,fun _=>this.2⟩
 ·rename_i h;exact⟨Int.le_refl 0,fun h'=>absurd h' h⟩
end Rg
end
section
namespace Rg
open Go
end Rg
end
section
namespace Rg
open Go
abbrev num (z:Int):List UInt8:=Go.Lib.itoa z
@[go_sem]theorem zJP (a b:List UInt8):bs a++bs b=bs (a++b):=by
 unfold bs;apply ByteArray.ext;simp
@[go_sem]theorem zxe (a:List UInt8):(bs a).size=a.length:=by simp[bs,ByteArray.size]
@[go_sem]theorem zxf (a:List UInt8):(bs a).data.toList=a:=by simp[bs]
theorem zwL (z:Int) (h: -9223372036854775808<=z/\z<=9223372036854775807):(num z).length<=21:=Go.Lib.itoa_length_le z h.1 h.2
theorem zuI (z:Int) (h: -9223372036854775808<=z/\z<=9223372036854775807):Den Γ G 240 [vi z]=some (.t (.str (bs (num z)))):=by
 refine zs3 Γ240 rfl rfl ?_;show(if _ then _ else _)=_;rw[if_pos h];rfl
def Bld (h:Nat->Option O) (k:Nat) (l:List UInt8):Prop:=
 (h k=some (.raw (.bld none))/\l=[])\/ ∃g,h k=some (.raw (.bld (some g)))/\h g=some (.raw (.buf l))/\l≠[]
def zGV (h h':Nat->Option O):Prop:= ∀k o,h k=some o->(∀x,o≠ .raw x)->h' k=some o
theorem zGV.refl (h:Nat->Option O):zGV h h:=fun _ _ h _=>h
theorem zGV.trans {a b c:Nat->Option O} (h1:zGV a b) (h2:zGV b c):zGV a c:=fun k o h ho=>h2 k o (h1 k o h ho) ho
theorem zHO {h:Nat->Option O} {n k:Nat} {l new:List UInt8} (hb:Bld h k l) (hn: ∀q,n<=q->h q=none) (hl:l.length+new.length<=140737488355328):
 ∃h' n',zia h n k new=some (h',n')/\Bld h' k (l++new)/\zGV h h'/\n<=n'/\(∀q,n'<=q->h' q=none):=by
 unfold zia;rcases hb with⟨hk,rfl⟩ | ⟨g,hk,hg,Az⟩
 ·rw[hk];have EK:k≠n:=by rintro rfl;have:=hn k (Nat.le_refl _);rw[hk]at this;cases this
  simp only[List.length_nil,Nat.zero_add]at hl;simp only[if_pos hl]
  by_cases h0:new=[]
  ·subst h0;exact⟨h,n,by simp,.inl ⟨hk,rfl⟩,.refl _,Nat.le_refl _,hn⟩
  ·refine⟨_,_,by rw[if_neg h0],.inr ⟨n,zaz _ _ _,?_,by simpa using h0⟩,?_,Nat.le_succ _,?_⟩
   ·rw[zad _ _ (Ne.symm EK),zaz];rfl
   ·intro q o hq ho;rw[zad _ _ (by rintro rfl;rw[hk]at hq;cases hq;exact ho _ rfl),zad _ _ (by rintro rfl;have:=hn q (Nat.le_refl _);rw[hq]at this;cases this)];exact hq
   ·intro q hq;rw[zad _ _ (by rintro rfl;have:=hn q (by omega);rw[hk]at this;cases this),zad _ _ (by omega)];exact hn q (by omega)
 ·rw[hk];simp only[hg,if_pos hl];have EK:k≠n:=by rintro rfl;have:=hn k (Nat.le_refl _);rw[hk]at this;cases this
  refine⟨_,_,rfl,.inr ⟨n,zaz _ _ _,?_,by simp[Az]⟩,?_,Nat.le_succ _,?_⟩
  ·rw[zad _ _ (Ne.symm EK),zaz]
  ·intro q o hq ho
   rw[zad _ _ (by rintro rfl;rw[hk]at hq;cases hq;exact ho _ rfl),zad _ _ (by rintro rfl;have:=hn q (Nat.le_refl _);rw[hq]at this;cases this),
    zad _ _ (by rintro rfl;rw[hg]at hq;cases hq;exact ho _ rfl)]
   exact hq
  ·intro q hq;rw[zad _ _ (by rintro rfl;have:=hn q (by omega);rw[hk]at this;cases this),zad _ _ (by omega),zad _ _ (by rintro rfl;have:=hn q (by omega);rw[hg]at this;cases this)];exact hn q (by omega)
def zGF (h:Nat->Option O) (n:Nat):Prop:= ∀q,n<=q->h q=none
theorem zGF.upd {h:Nat->Option O} {n k:Nat} {o:O} (hf:zGF h n) (hk:k<n):zGF (updC h k (some o)) n:=by
 intro q hq;rw[zaa,if_neg (by omega)];exact hf q hq
theorem zGF.mono {h:Nat->Option O} {n m:Nat} (hf:zGF h n) (hm:n<=m):zGF h m:=fun q hq=>hf q (by omega)
theorem zGJ {h:Nat->Option O} {n k:Nat} {l:List UInt8} {s:ByteArray} (hb:Bld h k l) (hn:zGF h n) (hl:l.length+s.size<=140737488355328):
 ∃r h' n',DenR Γ G 258 [.mp k 0 0,.t (.str s)] h n=some (r,h',n')/\(Bld h' k (l++s.data.toList)/\zGV h h'/\n<=n'/\zGF h' n'):=by
 have hs:s.data.toList.length=s.size:=by rw[Array.length_toList];rfl
 obtain⟨h',n',h1,h2⟩:=zHO (new:=s.data.toList) hb hn (by omega);refine⟨.tup [.t (.int .i64 s.size),.t .nili],h',n',zf6 (e:=.bldS) Γ258 rfl rfl ?_,h2⟩;show(zia h n k s.data.toList).map _=_;rw[h1];rfl
theorem zH6 {h:Nat->Option O} {n k:Nat} {l:List UInt8} (hb:Bld h k l): ∃r h' n',DenR Γ G 246 [.mp k 0 0] h n=some (r,h',n')/\r= .t (.str (bs l)):=by
 rcases hb with⟨hk,rfl⟩ | ⟨g,hk,hg,_⟩
 ·refine⟨.t (.str (bs [])),upd h k (some .dead),n,zf6 (e:=.bldG) Γ246 rfl rfl ?_,rfl⟩;unfold zd3;simp only[hk];rfl
 ·refine⟨.t (.str (bs l)),upd (upd h g (some .dead)) k (some .dead),n,zf6 (e:=.bldG) Γ246 rfl rfl ?_,rfl⟩;unfold zd3;simp only[hk,hg];rfl
def zyt (op:Int):List UInt8:=
 if op=4 then [110,111,116]else if op=5 then [97,110,100]else if op=6 then [111,114]else if op=7 then [120,111,114]else if op=8 then [97,100,100]
 else if op=9 then [115,117,98]else if op=10 then [109,117,108]else if op=11 then [101,113]else if op=12 then [108,116]else if op=13 then [108,101]else [105,116,101]
def zyD (op:Int):List UInt8:=if op=2 then [99]else if op=3 then [111]else []
def zv4:List (List UInt8)->List UInt8
 | []=>[]
 | [x]=>x
 | x::r=>x++44::zv4 r
namespace Expr
mutual
def txt:Expr->List UInt8
 | .mk op w n ks=>if op=1\/op=2\/op=3 then zyD op++num n++[58]++num w else zyt op++[40]++zv4 (zCs ks)++[41]
def zCs:List Expr->List (List UInt8)
 | []=>[]
 | e::r=>txt e::zCs r
end
end Expr
abbrev Prog.ok (p:Prog):Prop:=(zbM p).1=0
end Rg
end
section
set_option maxRecDepth 100000
namespace Rg
open Go
def Expr.text (e:Expr):List UInt8:=if e.formed then e.txt else []
end Rg
end
section
set_option maxRecDepth 100000
namespace Rg
open Go
end Rg
end
section
set_option maxRecDepth 100000
namespace Rg
open Go
def zBB (ws:List (List UInt8)):List UInt8:=Go.Lib.join ws [32]++[10]
end Rg
end
section
set_option maxRecDepth 100000
namespace Rg
open Go
def zBz (l:Loop):List (List UInt8):=[[108,111,111,112],num l.head,l.variant.text]
def loopX (l:Loop):List UInt8:=zBB (zBz l++l.body.map num)
end Rg
end
section
set_option maxRecDepth 100000
namespace Rg
open Go
theorem zGF.lt {h:Nat->Option O} {n k:Nat} {o:O} (hf:zGF h n) (hk:h k=some o):k<n:=by
 rcases Nat.lt_or_ge k n with h0 | h0
 ·exact h0
 ·have:=hf k h0;rw[hk]at this;cases this
theorem Bld.frame {h h':Nat->Option O} {k:Nat} {l:List UInt8} (hb:Bld h k l) (hf: ∀j x,h j=some (.raw x)->h' j=h j):Bld h' k l:=by
 rcases hb with⟨h1,h2⟩ | ⟨g,h1,h2,h3⟩
 ·exact .inl ⟨by rw[hf k _ h1];exact h1,h2⟩
 ·exact .inr ⟨g,by rw[hf k _ h1];exact h1,by rw[hf g _ h2];exact h2,h3⟩
end Rg
end
section
set_option maxRecDepth 100000
namespace Rg
open Go
end Rg
end
section
namespace Rg
open Go
end Rg
end
section
set_option maxRecDepth 100000
namespace Rg
open Go
end Rg
end
section
namespace Rg
open Go
end Rg
end
section
namespace Rg
open Go
end Rg
end
section
namespace Rg
open Go
structure Vis where
 c:Config
 fr:Int
 x:Choice
 deriving Inhabited
def v0 (p:Prog):Vis:=⟨zcm p,-1,⟨0,0,0⟩⟩
end Rg
end
section
namespace Rg
open Go
theorem zaF.cellsV {h:Nat->Option O} {x:Nat} {v:V} {sz:Nat} {rows:List (List V)} (o:zaF h x v sz rows):V.cells v=some [v]:=by
 rcases o with⟨rfl,_⟩ | ⟨k,rfl,_,_⟩<;>rfl
end Rg
end
section
namespace Rg
open Go
end Rg
end
section
namespace Rg
open Go
end Rg
end
section
namespace Rg
open Go
end Rg
end
section
namespace Rg
open Go
noncomputable def envC:(Nat->Slot)->Nat->V:=(Classical.choice (⟨⟨fun sl t=>(sl t).v,rfl⟩⟩:Nonempty {g:(Nat->Slot)->Nat->V// g=fun sl t=>(sl t).v})).1
theorem zsV:envC=fun sl t=>(sl t).v:=(Classical.choice (⟨⟨fun sl t=>(sl t).v,rfl⟩⟩:Nonempty {g:(Nat->Slot)->Nat->V// g=fun sl t=>(sl t).v})).2
@[go_sem ↓]theorem zBO (sl:Nat->Slot) (t:Nat):envC sl t=(sl t).v:=by rw[zsV]
@[go_sem ↓]theorem zzA (f:Nat->V) (i j:Nat) (v:V):updC f i v j=pk (j==i) v (f j) ⟨0⟩:=by rw[zaL,zql];rfl
def zrK (env:Nat->V) (ps:List Nat) (vs:List V):Nat->Slot:=fun t=>⟨zhB env ps vs t,none,none⟩
noncomputable def rndS:(Nat->V)->List Nat->List V->Nat->Slot:=(Classical.choice (⟨⟨zrK,rfl⟩⟩:Nonempty {g:(Nat->V)->List Nat->List V->Nat->Slot// g=zrK})).1
theorem znO:rndS=zrK:=(Classical.choice (⟨⟨zrK,rfl⟩⟩:Nonempty {g:(Nat->V)->List Nat->List V->Nat->Slot// g=zrK})).2
@[go_sem ↓]theorem zzE (env:Nat->V) (t:Nat):(rndS env [] [] t).v=env t:=by rw[znO];rfl
@[go_sem ↓]theorem zyg (env:Nat->V) (p:Nat) (ps:List Nat) (v:V) (vs:List V) (t:Nat):(rndS env (p::ps) (v::vs) t).v=(rndS (updC env p v) ps vs t).v:=by rw[znO,zaL];rfl
section
variable {Γ:Nat->Option F} {G:Nat->List T}
def zBm (o:Option (V×(Nat->Option O)×Nat)) (k:Nat) (K:Ex->(Nat->Option O)->Nat->Prop) (_:WK K):Prop:=
 ∃r h' n',o=some (r,h',n')/\ ∃env ps bd st e,h' k=some (.loop env ps bd st)/\st.ends=some e/\K e (updC h' k (some .dead)) n'
@[go_sem ↓]theorem zAZ (x:Opd) (ps:List Nat) (bd:C) (Q:Ex->M->Prop) (sl:Nat->Slot) (u:Nat->Bool) (h:Nat->Option O) (n b:Nat) (w:W3 (.rangeF x ps bd) Q ⟨sl,u,h,n,b⟩):
 wC Γ G (.rangeF x ps bd) Q ⟨sl,u,h,n,b⟩ w=fnK (zaW G sl x) (fun g a c=>zBm (DenR Γ G g (a++[V.yl n]++c) (updC h n (some (.loop (envC sl) ps bd .ready))) (n+1)) n (fun e h' n'=>Q e ⟨sl,u,h',n',b⟩) ⟨0⟩) ⟨0⟩:=by
 unfold wC;rw[zbS,zaL,zsV];simp only[wpC,za2]
 cases zaW G sl x with
 | none=>rfl
 | some v=>
   simp only[zD,fnK]
   cases zfC v with
   | none=>rfl
   | some q=>
     obtain⟨g,a,c⟩:=q;simp only[zBm,zaL];apply propext;constructor
     ·rintro⟨r,h',n',hc,_,env',ps',bd',st,e,hl,he,hQ⟩;exact⟨r,h',n',zcI.2 hc,env',ps',bd',st,e,hl,he,hQ⟩
     ·rintro⟨r,h',n',hc,env',ps',bd',st,e,hl,he,hQ⟩;exact⟨r,h',n',zcI.1 hc,zxp (zcI.1 hc),env',ps',bd',st,e,hl,he,hQ⟩
theorem znN {o:Option (V×(Nat->Option O)×Nat)} {k:Nat} {K:Ex->(Nat->Option O)->Nat->Prop} {w:WK K} {P:Ex->(Nat->Option O)->Nat->Prop}
 (h: ∃r h' n',o=some (r,h',n')/\ ∃env ps bd st e,h' k=some (.loop env ps bd st)/\st.ends=some e/\P e h' n') (hk: ∀e h' n',P e h' n'->K e (updC h' k (some .dead)) n'):zBm o k K w:=by
 obtain⟨r,h',n',e1,env,ps,bd,st,e,e2,e3,hp⟩:=h;exact⟨r,h',n',e1,env,ps,bd,st,e,e2,e3,hk e h' n' hp⟩
def FiY (P:Ex->(Nat->Option O)->Nat->Prop) (e:Ex) (m:M):Prop:=P e m.heap m.nxt
@[go_sem ↓]theorem zCV (P:Ex->(Nat->Option O)->Nat->Prop) (e:Ex) (sl:Nat->Slot) (u:Nat->Bool) (h:Nat->Option O) (n b:Nat):FiY P e ⟨sl,u,h,n,b⟩=SpN (P e h n) ⟨0⟩:=rfl
def zy2 (o:Option O) (K:(Nat->V)->List Nat->C->Prop) (_:WK K):Prop:=match o with
 | some (.loop env ps bd .enter)=>K env ps bd
 | _=>False
@[go_sem]theorem zy1 (env:Nat->V) (ps:List Nat) (bd:C) (K:(Nat->V)->List Nat->C->Prop) (w:WK K):zy2 (some (.loop env ps bd .enter)) K w=K env ps bd:=rfl
variable (Γ G) in
def FiA (k:Nat) (cb:C) (Q:Ex->M->Prop):Ex->M->Prop
 | .normal,m=>zy2 (m.heap k) (fun env ps bd=>wC Γ G cb Q ⟨m.sl,m.used,updC m.heap k (some (.loop env ps bd .busy)),m.nxt,m.bas⟩ ⟨0⟩) ⟨0⟩
 | _,_=>False
@[go_sem ↓]theorem zCW (k:Nat) (cb:C) (Q:Ex->M->Prop) (sl:Nat->Slot) (u:Nat->Bool) (h:Nat->Option O) (n b:Nat):
 FiA Γ G k cb Q .normal ⟨sl,u,h,n,b⟩=zy2 (h k) (fun env ps bd=>wC Γ G cb Q ⟨sl,u,updC h k (some (.loop env ps bd .busy)),n,b⟩ ⟨0⟩) ⟨0⟩:=rfl
theorem zjy {k:Nat} {vs:List V} {h:Nat->Option O} {n:Nat} {env:Nat->V} {ps:List Nat} {ca cb:C} {P:Ex->(Nat->Option O)->Nat->Prop} (hk:h k=some (.loop env ps (.round ca cb) .ready)) (hl:vs.length=ps.length)
 (hb: ∀e h' n',P e h' n'-> ∃env' ps' bd',h' k=some (.loop env' ps' bd' .busy))
 (hw:wC Γ G ca (qOf Γ G [] (FiA Γ G k cb (qOf Γ G [] (FiY P)))) ⟨rndS env ps vs,fun _=>false,updC h k (some (.loop env ps (.round ca cb) .enter)),n,n⟩ ⟨0⟩):
 ∃e h' n',P e h' n'/\ ∃env' ps' bd',h' k=some (.loop env' ps' bd' .busy)/\DenY Γ G k vs h n=some (.t (.bool (decide (e=Ex.normal))),updC h' k (some (.loop env' ps' bd' e.toL)),n'):=by
 unfold wC at hw;rw[zbS,zcz,znO,zaL]at hw;obtain⟨e0,m1,hA,hF⟩:=zq7 hw
 cases e0 with
 | exit id=>exact hF.elim
 | ret=>exact hF.elim
 | normal=>
   have K2:zy2 (m1.heap k) (fun env ps bd=>wC Γ G cb (zqi Γ G [] (FiY P)) ⟨m1.sl,m1.used,updC m1.heap k (some (.loop env ps bd .busy)),m1.nxt,m1.bas⟩ ⟨0⟩) ⟨0⟩:=by
    exact hF
   unfold zy2 at K2;split at K2
   ·rename_i env1 ps1 bd1 AT;unfold wC at K2;rw[zbS,zaL]at K2;obtain⟨e,m',hB,hP⟩:=zq7 K2;obtain⟨env',ps',bd',Ah⟩:=hb _ _ _ hP;refine⟨e,m'.heap,m'.nxt,hP,env',ps',bd',Ah,zlM.2 ⟨env,ps,ca,cb,m1.st,env1,ps1,bd1,env',ps',bd',e,m'.st,hk,hl,hA,AT,hB,Ah,rfl,by rw[zaL];rfl,rfl⟩⟩
   ·exact K2.elim
end
end Rg
end
section
namespace Rg
open Go
end Rg
end
section
namespace Rg
open Go
theorem zo1 {o:Option (V×(Nat->Option O)×Nat)} {k:Nat} {P:Ex->(Nat->Option O)->Nat->Prop} {Q:(Nat->Option O)->Nat->Prop} (h: ∃r h' n',o=some (r,h',n')/\Q h' n')
 (hQ: ∀h' n',Q h' n'-> ∃env ps bd st e,h' k=some (.loop env ps bd st)/\st.ends=some e/\P e h' n'): ∃r h' n',o=some (r,h',n')/\ ∃env ps bd st e,h' k=some (.loop env ps bd st)/\st.ends=some e/\P e h' n':=by
 obtain⟨r,h',n',h1,h2⟩:=h;exact⟨r,h',n',h1,hQ h' n' h2⟩
structure NxV (p:Prog) (k:Int) (c:Config) (t:Nat) (n:Int) (env:Nat->V) (ky k7 k8 k9 kS:Nat) (h:Nat->Option O) (x:Nat):Prop where
 e7:env 7= .mp k7 0 0
 e8:env 8= .mp k8 0 0
 e9:env 9= .mp k9 0 0
 e10:env 10= .mp kS 0 0
 hy:h ky=some (.loop env [57,58] zib .ready)
 h7:h k7=some (.rows 3 [[vi t,vi (-1),vi n]] false)
 h8:h k8=some (.rows 3 [[.t .nils,.t .nils,.t .nils]] false)
 h9:h k9=some (.rows 1 [[vi 0]] false)
 hS:h kS=some (.rows 8 [[.t (ints c.mem),.t (ints c.at_),.t (.sl (c.buf.map fun b=>[.sl (b.map Entry.enc)])),.t (.sl (p.cells.map Cell.enc)),.t (.sl (p.modules.map Contract.enc)),.t (.sl (p.locks.map Lock.enc)),.t (.sl (p.threads.map Thread.enc)),vi k]] false)
 ly:ky<x
 l7:k7<ky
 l8:k8<ky
 l9:k9<ky
 lS:kS<ky
 d78:k7≠k8
 d79:k7≠k9
 d7S:k7≠kS
 d89:k8≠k9
 d8S:k8≠kS
 d9S:k9≠kS
theorem zrJ {p:Prog} {k:Int} {c:Config} {t i:Nat} {n:Int} {env:Nat->V} {ky k7 k8 k9 kS:Nat} {h:Nat->Option O} {x:Nat} {e:Entry} (H:NxV p k c t n env ky k7 k8 k9 kS h x) (Az:e.cells≠[]) (hn:zcg e≠n):
 ∃h' n',DenY Γ G ky [vi i,.agg [.t (ints e.cells),.t (ints e.values)]] h x=some (vb true,h',n')/\NxV p k c t n env ky k7 k8 k9 kS h' n':=by
 have CM:e.cells[0]? =some (zcg e):=by
  cases hc:e.cells with
  | nil=>exact absurd hc Az
  | cons a r=>simp[zcg,hc]
 obtain⟨e7,e8,e9,e10,hy,h7,h8,h9,hS,ly,l7,l8,l9,lS,d78,d79,d7S,d89,d8S,d9S⟩:=H;have a1:k7≠x+1+0:=by omega
 have a2:k8≠x+1+0:=by omega
 have a3:k9≠x+1+0:=by omega
 have a4:kS≠x+1+0:=by omega
 have a5:ky≠x+1+0:=by omega
 have c1:x+1+0≠k7:=by omega
 have c2:x+1+0≠k8:=by omega
 have c3:x+1+0≠k9:=by omega
 have c4:x+1+0≠kS:=by omega
 have c5:x+1+0≠ky:=by omega
 have b1:k7≠ky:=by omega
 have b2:k8≠ky:=by omega
 have b3:k9≠ky:=by omega
 have b4:kS≠ky:=by omega
 have:=zjy (Γ:=Γ) (G:=G) (vs:=[vi i,.agg [.t (ints e.cells),.t (ints e.values)]]) (n:=x) (P:=fun ex h' n'=>ex= .normal/\h' ky=some (.loop env [57,58] zib .busy)/\x<=n'/\(∀j,j<ky->h' j=h j)) hy rfl (fun ex h' n' hP=>⟨_,_,_,hP.2.1⟩) (by
  simp -dsimp only[go_sem,seval,e7,h7,a1,a2,a3,a4,a5,b1,b2,b3,b4,c1,c2,c3,c4,c5,CM,hn];refine⟨rfl,by simp -dsimp only[go_sem,seval];rfl,by simp -dsimp only[go_sem,seval];omega,fun j hj=> ?_⟩;have u1:j≠ky:=by omega
  have u2:j≠x+1+0:=by omega
  simp -dsimp only[go_sem,seval,u1,u2])
 obtain⟨ex,h',n',⟨rfl,q1,q2,q3⟩,env',ps',bd',q6,q7⟩:=this;rw[q1]at q6;simp only[zA,O.loop.injEq]at q6;obtain⟨rfl,rfl,rfl,_⟩:=q6;have hj: ∀j o,j<ky->updC h' ky o j=h j:=fun j o hj=>by rw[zaa,if_neg (by omega)];exact q3 j hj
 exact⟨_,n',q7,e7,e8,e9,e10,by rw[zaa,if_pos rfl];rfl,by rw[hj _ _ l7];exact h7,by rw[hj _ _ l8];exact h8,by rw[hj _ _ l9];exact h9,by rw[hj _ _ lS];exact hS,by omega,l7,l8,l9,lS,d78,d79,d7S,d89,d8S,d9S⟩
theorem zqf {p:Prog} (hf:zak p=true) {k:Int} {c:Config} (hc:IsB p c) {t i:Nat} (ht:t<p.threads.length) {n:Int} {env:Nat->V} {ky k7 k8 k9 kS:Nat} {h:Nat->Option O} {x:Nat} {e:Entry} (H:NxV p k c t n env ky k7 k8 k9 kS h x)
 (he:(za1 c t)[i]? =some e) (Az:e.cells≠[]) (hn:zcg e=n):
 ∃h' n',DenY Γ G ky [vi i,.agg [.t (ints e.cells),.t (ints e.values)]] h x=some (vb false,h',n')/\h' ky=some (.loop env [57,58] zib (.done .ret))/\
  h' k8=some (.rows 3 [[.t (ints (za8 c t i).mem),.t (ints (za8 c t i).at_),.t (.sl ((za8 c t i).buf.map fun b=>[.sl (b.map Entry.enc)]))]] false)/\h' k9=some (.rows 1 [[vi 0]] false)/\ky<n':=by
 have CM:e.cells[0]? =some (zcg e):=by
  cases hc:e.cells with
  | nil=>exact absurd hc Az
  | cons a r=>simp[zcg,hc]
 have BI:=zqR p hf k c hc t ht i e he;unfold stV at BI;obtain⟨e7,e8,e9,e10,hy,h7,h8,h9,hS,ly,l7,l8,l9,lS,d78,d79,d7S,d89,d8S,d9S⟩:=H;have a1:k7≠x+1+0:=by omega
 have a2:k8≠x+1+0:=by omega
 have a3:k9≠x+1+0:=by omega
 have a4:kS≠x+1+0:=by omega
 have a5:ky≠x+1+0:=by omega
 have c1:x+1+0≠k7:=by omega
 have c2:x+1+0≠k8:=by omega
 have c3:x+1+0≠k9:=by omega
 have c4:x+1+0≠kS:=by omega
 have c5:x+1+0≠ky:=by omega
 have b1:k7≠ky:=by omega
 have b2:k8≠ky:=by omega
 have b3:k9≠ky:=by omega
 have b4:kS≠ky:=by omega
 have b6:ky≠k8:=by omega
 have b7:ky≠k9:=by omega
 have b8:k9≠k8:=by omega
 have:=zjy (Γ:=Γ) (G:=G) (vs:=[vi i,.agg [.t (ints e.cells),.t (ints e.values)]]) (n:=x) (P:=fun ex h' n'=>ex= .ret/\h' ky=some (.loop env [57,58] zib .busy)/\x<=n'/\
  h' k8=some (.rows 3 [[.t (ints (za8 c t i).mem),.t (ints (za8 c t i).at_),.t (.sl ((za8 c t i).buf.map fun b=>[.sl (b.map Entry.enc)]))]] false)/\h' k9=some (.rows 1 [[vi 0]] false)) hy rfl (fun ex h' n' hP=>⟨_,_,_,hP.2.1⟩) (by
  simp -dsimp only[go_sem,seval,e7,h7,a1,a2,a3,a4,a5,b1,b2,b3,b4,c1,c2,c3,c4,c5,CM,hn,e8,e9,e10,hS,BI,h8,h9,b6,b7,b8,d89]
  refine⟨rfl,by simp -dsimp only[go_sem,seval,b6,b7];rfl,by simp -dsimp only[go_sem,seval];omega,by simp -dsimp only[go_sem,seval,d89],by simp -dsimp only[go_sem,seval]⟩)
 obtain⟨ex,h',n',⟨rfl,q1,q2,q3,q4⟩,env',ps',bd',q6,q7⟩:=this;rw[q1]at q6;simp only[zA,O.loop.injEq]at q6;obtain⟨rfl,rfl,rfl,_⟩:=q6;exact⟨_,n',q7,by rw[zaa,if_pos rfl];rfl,by rw[zaa,if_neg b2];exact q3,by rw[zaa,if_neg b3];exact q4,by omega⟩
theorem zqo (p:Prog) (hs:p.sane) (hf:zak p=true) (k:Int) (hk:k=1\/k=2) (c:Config) (hc:IsB p c) (x:Choice):
 Den Γ G 180 [(zP p),vi k,(.agg [.t (ints (c).mem),.t (ints (c).at_),.t (.sl ((c).buf.map (fun b=>[.sl (b.map Entry.enc)])))]),(.agg [.t (ti (x).thread),.t (ti (x).step),.t (ti (x).cell)])]=some (.tup [(.agg [.t (ints ((zdL p k c x).1).mem),.t (ints ((zdL p k c x).1).at_),.t (.sl (((zdL p k c x).1).buf.map (fun b=>[.sl (b.map Entry.enc)])))]),vi (zdL p k c x).2]):=by
 obtain⟨⟨m1,m2,m3,m4⟩,l5⟩:=zal (zam hf).1;have l1:=hc.lm;have l2:=hc.la;have l3:=hc.lb;have Ga:=zpj p hs hf c hc k hk;have k0: ¬k=0:=by omega
 unfold stV at Ga
 (refine zag Γ180 rfl ?_;dsimp only[f180])
 by_cases hr:x.thread<0\/(p.threads.length:Int)<=x.thread\/x.step< -1
 ·have hN:zdL p k c x=(zd9,110):=by rw[zdL,if_pos hr]
  rw[hN];simp only[zd9,List.map_nil]
  by_cases r1:x.thread<0
  ·simp -dsimp only[go_sem,seval,k0,Ga,r1];rfl
  ·by_cases r2:x.thread>=(p.threads.length:Int)
   ·simp -dsimp only[go_sem,seval,k0,Ga,r1,r2];rfl
   ·have r3:x.step< -1:=by omega
    simp -dsimp only[go_sem,seval,k0,Ga,r1,r2,r3];rfl
 ·have r1: ¬x.thread<0:=by omega
  have r2: ¬x.thread>=(p.threads.length:Int):=by omega
  have r3: ¬x.step< -1:=by omega
  by_cases hm:x.step= -1
  ·have et:((x.thread.toNat:Nat):Int)=x.thread:=by omega
   have Ao:=zph p k c x.thread.toNat;rw[et]at Ao;unfold stV at Ao;simp -dsimp only[go_sem,seval,k0,Ga,r1,r2,r3,hm,Ao]
   generalize hE:envC _=env
   have e7:=congrFun hE 7;have e8:=congrFun hE 8;have e9:=congrFun hE 9;have e10:=congrFun hE 10;clear hE;simp -dsimp only[go_sem,seval]at e7 e8 e9 e10;have ht:x.thread.toNat<p.threads.length:=by omega
   have EV:=(hc.buf x.thread.toNat _ (zb0 (c:=c) (t:=x.thread.toNat) (by omega))).2.1
   refine znN (P:=fun e h' n'=>(e= .normal/\zlF k (za1 c x.thread.toNat) x.cell=none/\h' 3=some (.rows 3 [[.t .nils,.t .nils,.t .nils]] false)/\h' 4=some (.rows 1 [[vi 0]] false))\/
    (e= .ret/\ ∃i,zlF k (za1 c x.thread.toNat) x.cell=some i/\
      h' 3=some (.rows 3 [[.t (ints (za8 c x.thread.toNat i).mem),.t (ints (za8 c x.thread.toNat i).at_),.t (.sl ((za8 c x.thread.toNat i).buf.map fun b=>[.sl (b.map Entry.enc)]))]] false)/\h' 4=some (.rows 1 [[vi 0]] false))) ?_ ?_
   ·rw[<- et]
    refine zo1 (zmN p hf k c hc x.thread.toNat ht 42
     (fun q h n=>NxV p k c x.thread.toNat x.cell env 42 2 3 4 14 h n/\ ∀j e,j<q->(za1 c x.thread.toNat)[j]? =some e-> ¬(zc2 k (za1 c x.thread.toNat) j e=true/\zcg e=x.cell))
     (fun h n=> ∃i,zlF k (za1 c x.thread.toNat) x.cell=some i/\h 42=some (.loop env [57,58] zib (.done .ret))/\
       h 3=some (.rows 3 [[.t (ints (za8 c x.thread.toNat i).mem),.t (ints (za8 c x.thread.toNat i).at_),.t (.sl ((za8 c x.thread.toNat i).buf.map fun b=>[.sl (b.map Entry.enc)]))]] false)/\h 4=some (.rows 1 [[vi 0]] false)) ?_ (fun _ _ _ h _=>h) ?_ _ _ ?_) ?_
    ·rintro q h n m ⟨a1,a2⟩ GE;exact⟨{ a1 with ly:=by have:=a1.ly;omega },a2⟩
    ·rintro q e h n he ⟨a1,a2⟩;have BH:=EV e (zL he);cases ho:zc2 k (za1 c x.thread.toNat) q e
     ·rw[if_neg (by simp)];refine⟨a1,fun j e' hj JC=> ?_⟩;rcases Nat.lt_or_ge j q with h1 | h1
      ·exact a2 j e' h1 JC
      ·have:j=q:=by omega
       subst this;rw[he]at JC;cases JC;rw[ho];simp
     ·rw[if_pos rfl]
      by_cases hh:zcg e=x.cell
      ·obtain⟨h',n',b1,b2,b3,b4,b5⟩:=zqf hf hc ht a1 he BH.ne hh;refine⟨false,h',n',b1,?_⟩;rw[if_neg (by simp)];exact⟨q,by rw[<- hh];exact zpA EV he ho,b2,b3,b4⟩
      ·obtain⟨h',n',b1,b2⟩:=zrJ (i:=q) a1 BH.ne hh;refine⟨true,h',n',b1,?_⟩;rw[if_pos rfl];refine⟨b2,fun j e' hj JC=> ?_⟩;rcases Nat.lt_or_ge j q with h1 | h1
       ·exact a2 j e' h1 JC
       ·have:j=q:=by omega
        subst this;rw[he]at JC;cases JC;exact fun h=>hh h.2
    ·refine⟨⟨e7.symm,e8.symm,e9.symm,e10.symm,by simp -dsimp only[go_sem,seval],by simp -dsimp only[go_sem,seval,et,hm],by simp -dsimp only[go_sem,seval],by simp -dsimp only[go_sem,seval],by simp -dsimp only[go_sem,seval],by omega,by omega,by omega,by omega,by omega,by omega,by omega,by omega,by omega,by omega,by omega⟩,fun j _ hj=>by omega⟩
    ·rintro h' n' (⟨a1,a2⟩ | ⟨i,b1,b2,b3,b4⟩)
     ·refine⟨env,[57,58],zib,.ready,.normal,a1.hy,rfl,.inl ⟨rfl,?_,a1.h8,a1.h9⟩⟩;unfold zlF;rw[List.find?_eq_none];intro j hj;rw[List.mem_range]at hj;rw[zI hj];intro h;simp only[zF,decide_eq_true_eq]at h;exact a2 j _ hj (zI hj) h
     ·exact⟨env,[57,58],zib,.done .ret,.ret,b2,rfl,.inr ⟨rfl,i,b1,b3,b4⟩⟩
   ·rintro e h' n' (⟨rfl,g1,g2,g3⟩ | ⟨rfl,i,g1,g2,g3⟩)
    ·have hN:zdL p k c x=(zd9,110):=by rw[zdL,if_neg hr,if_pos hm,g1]
     rw[hN];simp only[zd9,List.map_nil];simp -dsimp only[go_sem,seval,g2,g3];rfl
    ·have hN:zdL p k c x=(za8 c x.thread.toNat i,0):=by rw[zdL,if_neg hr,if_pos hm,g1]
     rw[hN];simp -dsimp only[go_sem,seval,g2,g3]
  ·have et:((x.thread.toNat:Nat):Int)=x.thread:=by omega
   have es:((x.step.toNat:Nat):Int)=x.step:=by omega
   have t0:0<=x.thread:=by omega
   have s0:0<=x.step:=by omega
   obtain⟨th,BG,PQ⟩:=zai (show x.thread.toNat<p.threads.length by omega);have hv:=zoH p hf c hc x.thread.toNat (by omega);rw[et]at hv
   by_cases c0:x.cell=0
   ·by_cases c1:x.step>=(th.steps.length:Int)
    ·have hN:zdL p k c x=(zd9,110):=by
      rw[zdL,if_neg hr,if_neg hm];have:zgf p x=none:=by simp[zgf,BG];omega
      rw[this]
     rw[hN];simp only[zd9,List.map_nil];simp -dsimp only[go_sem,seval,k0,Ga,r1,r2,r3,hm,hv,BG,t0,c0,c1];rfl
    ·obtain⟨s,Iu,F3⟩:=zai (show x.step.toNat<th.steps.length by omega);have Ff:zgf p x=some s:=by simp[zgf,BG,Iu]
     have Ch:=zh2 p hf k c hc x.thread.toNat th BG x.step.toNat s Iu;rw[et,es]at Ch;unfold stV at Ch;cases he:zaN p c x.thread.toNat s
     ·have hN:zdL p k c x=(zd9,110):=by
       rw[zdL,if_neg hr,if_neg hm,Ff];simp[he]
      rw[hN];rw[he]at Ch;simp only[zd9,List.map_nil];simp -dsimp only[go_sem,seval,k0,Ga,r1,r2,r3,hm,hv,BG,t0,c0,c1,Ch];rfl
     ·have hN:zdL p k c x=(zdN p c x.thread.toNat s,0):=by
       rw[zdL,if_neg hr,if_neg hm,Ff];simp[he,c0]
      rw[hN];rw[he]at Ch;have AP:=zsT p hf k c hc x.thread.toNat th BG x.step.toNat s Iu x (by cases x;simp_all);unfold stV at AP;simp -dsimp only[go_sem,seval,k0,Ga,r1,r2,r3,hm,hv,BG,t0,c0,c1,Ch];rw[c0]at AP;simp -dsimp only[go_sem,seval,AP]
   ·have hN:zdL p k c x=(zd9,110):=by
     rw[zdL,if_neg hr,if_neg hm];split
     ·simp[c0]
     ·rfl
    rw[hN];simp only[zd9,List.map_nil];simp -dsimp only[go_sem,seval,k0,Ga,r1,r2,r3,hm,hv,BG,t0,c0];rfl
end Rg
end
section
namespace Rg
open Go
end Rg
end
section
namespace Rg
open Go
def b2 (l:List Int):List Int:=l.flatMap fun n=>[n % 256,n/ 256 % 256]
end Rg
end
section
namespace Rg
open Go
end Rg
end
section
namespace Rg
open Go
end Rg
end
section
namespace Rg
open Go
end Rg
end
section
namespace Rg
open Go
section
end
end Rg
end
section
namespace Rg
open Go
def mapL {α:Type} (kf:α->ByteArray) (vf:α->V) (l:List α):List (T×V):=l.map fun a=>(T.str (kf a),vf a)
theorem zaF.offAt {h:Nat->Option O} {x:Nat} {v:V} {sz:Nat} {rows:List (List V)} (o:zaF h x v sz rows) {k:Nat} (hk: ∀rs,h k≠some (.rows sz rs false)):zbg v k:=by
 rcases o with⟨rfl,_⟩ | ⟨q,rfl,_,hq⟩
 ·intro i n h;cases h
 ·exact za3 (fun e=>hk _ (e▸hq)) _ _
end Rg
end
section
namespace Rg
open Go
def zue (c:Config):List V:=[.t (ints c.mem),.t (ints c.at_),.t (.sl (c.buf.map fun b=>[.sl (b.map Entry.enc)]))]
theorem zcV {h:Nat->Option O} {a b:Nat} {o1 o2:Option O} (h1:h a=o1) (h2:h b=o2) (Az:o1≠o2):a≠b:=by
 rintro rfl;exact Az (h1.symm.trans h2)
section
end
end Rg
end
section
namespace Rg
open Go
theorem IsB.sane {p:Prog} (hs:p.sane) {c:Config} (hc:IsB p c):c.sane:=⟨by rw[hc.lm];exact hs.cells,by rw[hc.la];exact hs.threads,by rw[hc.lb];exact hs.threads⟩
theorem zi1 (p:Prog) (hs:p.sane) (hf:zak p=true) (k:Int) (hk:0<=k/\k<=2) (c:Config) (hc:IsK p k c) (x:Choice):Den Γ G 180 [(zP p),vi k,(.agg [.t (ints (c).mem),.t (ints (c).at_),.t (.sl ((c).buf.map (fun b=>[.sl (b.map Entry.enc)])))]),(.agg [.t (ti (x).thread),.t (ti (x).step),.t (ti (x).cell)])]=some (.tup [(.agg [.t (ints ((zdk p k c x).1).mem),.t (ints ((zdk p k c x).1).at_),.t (.sl (((zdk p k c x).1).buf.map (fun b=>[.sl (b.map Entry.enc)])))]),vi (zdk p k c x).2]):=by
 by_cases k0:k=0
 ·have h1:=zsa p hs c (hc.b.sane hs) x;rw[zdk,if_pos k0]
  (refine zag Γ180 rfl ?_;dsimp only[f180])
  simp -dsimp only[go_sem,seval,k0,h1]
 ·rw[zdk,if_neg k0];exact zqo p hs hf k (by omega) c hc.b x
theorem zGB {p:Prog} (hf:zak p=true) {k:Int} {c:Config} (hc:IsK p k c) {y:Choice} (hy:y∈zaK p k c):IsK p k (zdk p k c y).1/\(zdk p k c y).2=0:=by
 obtain⟨d,hn,hd⟩:=zgY hf hc hy;rw[hn];exact⟨hd,rfl⟩
def kM (m:Int):Int:=m % 3
end Rg
end
section
namespace Rg
open Go
end Rg
end

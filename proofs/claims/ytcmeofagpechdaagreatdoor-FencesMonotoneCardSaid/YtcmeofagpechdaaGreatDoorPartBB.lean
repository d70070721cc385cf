/- Part of the proof of laws of relyguardlaw31. No condition. -/
import Derived.Test.YtcmeofagpechdaaGreatDoorPartBA
set_option linter.unusedSimpArgs false
set_option linter.unusedVariables false
section
namespace Rg
open Go
theorem zsr {a b:Nat} (ha:a<2^64) (hb:b<2^64):IntKind.u64.wrap ((BitVec.ofInt IntKind.u64.bits (a:Int)&&& ~~~BitVec.ofInt IntKind.u64.bits (b:Int)).toNat:Int)=((a&&& (2^64-1-b):Nat):Int):=by
 show IntKind.u64.wrap ((BitVec.ofInt 64 (a:Int)&&& ~~~BitVec.ofInt 64 (b:Int)).toNat:Int)=_;rw[BitVec.toNat_and,BitVec.toNat_not,zqV ha,zqV hb,zj2 (Nat.and_lt_two_pow _ (by omega))]
theorem znT {l:List Nat} (h:l.length=64):l=(List.range 64).map fun i=>l.getD i 0:=by
 refine List.ext_getElem (by simp[h]) fun i h1 h2=> ?_
 simp only[List.getElem_map,List.getElem_range,List.getD_eq_getElem?_getD,zI h1,Option.getD_some]
theorem zmG (g:Gr) {t:Nat} (ht:t<4) (hl:(g.ld.getD t []).length=64):(List.take 64 (List.drop (t*64) (restT g))).map V.t=arr (g.ld.getD t []):=by
 rw[znT hl,arr,List.map_map];refine List.ext_getElem ?_ fun i h1 h2=> ?_
 ·simp only[List.length_map,List.length_take,List.length_drop,zeg,List.length_range];omega
 ·have hi:i<64:=by simpa using h2
  have:=zoo g ht hi
  have hr:(restT g)[t*64+i]? =some (.int .u64 (g.ldAt t i)):=by
   rw[restT,List.append_assoc,List.getElem?_append_left (by rw[zb0];omega),zf3 _ ht hi]
  obtain⟨h3,h4⟩:=zH.1 hr;simp only[List.getElem_map,List.getElem_take,List.getElem_drop,List.getElem_range,Function.comp,h4];rfl
theorem zku (g:Gr) {t:Nat} (ht:t<4) (hl:(g.qk.getD t []).length=64):(List.take 64 (List.drop (t*64) (List.drop 256 (restT g)))).map V.t=arr (g.qk.getD t []):=by
 rw[znT hl,arr,List.map_map];refine List.ext_getElem ?_ fun i h1 h2=> ?_
 ·simp only[List.length_map,List.length_take,List.length_drop,zeg,List.length_range];omega
 ·have hi:i<64:=by simpa using h2
  have hr:(restT g)[256+(t*64+i)]? =some (.int .u64 (g.qkAt t i)):=by
   rw[restT,List.append_assoc,List.getElem?_append_right (by rw[zb0];omega),zb0,show 256+(t*64+i)-256=t*64+i by omega,List.getElem?_append_left (by rw[zb0];omega),zf3 _ ht hi]
  obtain⟨h3,h4⟩:=zH.1 hr;simp only[List.getElem_map,List.getElem_take,List.getElem_drop,List.getElem_range,Function.comp,h4];rfl
def rowN (same:Bool) (r:List Nat) (i:Nat):List Nat:=(r.mapIdx fun i m=>Gr.rowC same i m).take i++r.drop i
theorem zmC {same:Bool} {r:List Nat} {i:Nat} (h:i<=r.length):(rowN same r i).length=r.length:=by simp[rowN];omega
theorem rowN_at {same:Bool} {r:List Nat} {i x:Nat} (h:r[i]? =some x):(rowN same r i)[i]? =some x:=by
 have hi:=(zH.1 h).1;have hl:((r.mapIdx fun i m=>Gr.rowC same i m).take i).length=i:=by simp;omega
 rw[rowN,List.getElem?_append_right (by omega),hl,Nat.sub_self,List.getElem?_drop];simpa using h
theorem zkq {same:Bool} {r:List Nat} {i x:Nat} (hx:r[i]? =some x):rowN same r (i+1)=(rowN same r i).set i (Gr.rowC same i x):=by
 have hi:=(zH.1 hx).1;have hl:((r.mapIdx fun i m=>Gr.rowC same i m).take i).length=i:=by simp;omega
 have he:(r.mapIdx fun i m=>Gr.rowC same i m)[i]? =some (Gr.rowC same i x):=by simp[List.getElem?_mapIdx,hx]
 rw[rowN,zae he,rowN,List.set_append_right _ _ (by omega),hl,Nat.sub_self,zba hx];simp
theorem zkp (same:Bool) (r:List Nat):rowN same r 0=r:=by simp[rowN]
theorem zmD (same:Bool) (r:List Nat):rowN same r r.length=r.mapIdx fun i m=>Gr.rowC same i m:=by
 simp[rowN];exact List.take_of_length_le (by simp)
theorem zon {same:Bool} {i m:Nat} (hi:i<64) (hm:m<2^64):Gr.rowC same i m<2^64:=by
 unfold Gr.rowC;split
 ·exact Nat.and_lt_two_pow _ (Nat.lt_of_le_of_lt (Nat.sub_le _ _) (by decide))
 ·exact Nat.or_lt_two_pow hm (one_lt hi)
set_option maxHeartbeats 1000000
theorem zjJ (cs ms ls ts:List (List T)) (model:Int) (g:Gr) (hg:g.Ok) (hn:g.nt<=4) (hcs:g.nc=cs.length) (hcl:cs.length<2^20) (hts:g.nt=ts.length) (c d:Nat) (hc:c<g.msk.length) (hd:d<g.msk.length):
 Den Γ G 325 [.t (grT cs ms ls ts model g),vi c,vi d]=some (vb (g.couple c d)):=by
 (refine den_ofY Γ325 rfl ?_;dsimp only[zrv])
 have hml:=hg.msk_len;have hsz:g.sz=2*(cs.length+ts.length):=by unfold Gr.sz;rw[hcs,hts]
 have h0:0<cs.length+ts.length:=by
  apply Classical.byContradiction;intro h;have:g.sz=0:=by omega
  rw[this]at hml;omega
 have hbig:g.msk.length<=4*g.sz:=by rw[hml];exact Nat.mul_le_mul_right _ hn
 have hth:=zbL cs ms ls ts (.int .i64 model:: .sl (g.all.map Acc.enc)::ints (g.cls.map fun c:Nat=>(c:Int))::zpz g.msk::restT g) c (by omega) (by omega) h0 (by omega);have hthr:c/ (2*(cs.length+ts.length))=g.thr c:=by unfold Gr.thr;rw[hsz]
 rw[hthr]at hth
 have ht:g.thr c<g.nt:=by
  rw[Gr.thr,Nat.div_lt_iff_lt_mul (by omega)];omega
 have ht':((g.thr c:Int)<4)=True:=by simp;omega
 have hrow:=zmG g (t:=g.thr c) (by omega) (hg.ld_row _ ht);have hrl:=hg.ld_row _ ht;have hl:=zeg g;have hc1:(64<=(List.drop (g.thr c*64) (restT g)).length)=True:=by simp[hl];omega
 have hal:(arr (g.ld.getD (g.thr c) [])).length=64:=by rw[zbb,hrl]
 have hRb: ∀x∈g.ld.getD (g.thr c) [],x<2^64:=by
  intro x hx;obtain⟨i,hi,rfl⟩:=List.mem_iff_getElem.1 hx;have:=hg.ld_lt (g.thr c) i;rw[Gr.ldAt,List.getD_eq_getElem?_getD,zI hi]at this;exact this
 have hxc:g.msk[c]? =some (g.mks c):=by simp[Gr.mks,List.getD_eq_getElem?_getD,zI hc]
 have hxd:g.msk[d]? =some (g.mks d):=by simp[Gr.mks,List.getD_eq_getElem?_getD,zI hd]
 have hgoal:g.couple c d=meetsM (g.mks c) (g.mks d) ((g.ld.getD (g.thr c) []).mapIdx fun i m=>Gr.rowC (decide (c=d)) i m):=rfl;rw[hgoal];have hcd:((c:Int)=(d:Int))=(decide (c=d)=true):=by rw[decide_eq_true_eq];exact propext Int.ofNat_inj
 have hkc:=hg.mk_lt c;have hkd:=hg.mk_lt d;simp -dsimp only[go_sem,seval,hth,ht',hc1,hrow,hal]
 generalize g.ld.getD (g.thr c) []=R at hrow hrl hal hRb⊢
 generalize decide (c=d)=sm at hcd⊢
 refine zaz 274877776256 64 (fun i f=>(f 17).v=vi i/\(f 7).v= .lb/\(f 7).box=some (arr (rowN sm R i))) rfl rfl ⟨by simp -dsimp only[go_sem,seval],by simp -dsimp only[go_sem,seval],by simp -dsimp only[go_sem,seval];rw[zkp]⟩ ?_;rintro i f u kk bb hi ⟨h17,h7,h7b⟩;have hw:=zah i (by omega);simp -dsimp only[go_sem,seval,h17];refine csplit (fun h=> ?_) (fun h=> ?_)<;>(try rw[h])<;>(try simp only[zab]at h)<;>(try simp -dsimp only[go_sem,seval,h17])
 ·obtain⟨x,hx,hxm⟩:=zaf (show i<R.length by omega);have hsucc:=zkq (same:=sm) hx;have hat:=zhq (rowN_at (same:=sm) hx);have hrN:=zmC (same:=sm) (r:=R) (i:=i) (by omega);have hal2:(arr (rowN sm R i)).length=64:=by rw[zbb,hrN,hrl]
  have hs1:=zmo (i:=i) (by omega);have ho:=zpd (hRb x hxm) (one_lt (i:=i) (by omega));have hwr:=zi8 (l:=rowN sm R i) (i:=i) (by omega) (x ||| 1<<< i);have hi64:((i:Int)<64)=True:=by simp;omega
  have hi63:(i<=63)=True:=by simp;omega
  have hm1:i*1=i:=by omega
  simp -dsimp only[go_sem,seval,h17,h7,h7b,hat,hs1,ho,hal2,hi64,hi63,hm1,hcd,hwr];cases sm
  ·have hrc:Gr.rowC false i x=x ||| 1<<< i:=rfl;rw[hrc]at hsucc;simp -dsimp only[go_sem,seval,h17];refine⟨by omega,by simp -dsimp only[go_sem,seval,h17,hw],by simp -dsimp only[go_sem,seval,h7],?_⟩;simp -dsimp only[go_sem,seval,hsucc]
  ·have hy:x ||| 1<<< i<2^64:=Nat.or_lt_two_pow (hRb x hxm) (one_lt (by omega));have hat2:=zhq (set_at (y:=x ||| 1<<< i) (rowN_at (same:=true) hx));have hal3:(arr ((rowN true R i).set i (x ||| 1<<< i))).length=64:=by rw[zbb,List.length_set,hrN,hrl]
   have hno:=zsr hy (one_lt (i:=i) (by omega));have hwr2:=zi8 (l:=(rowN true R i).set i (x ||| 1<<< i)) (i:=i) (by rw[List.length_set];omega) ((x ||| 1<<< i)&&& (2^64-1-1<<< i));rw[List.set_set]at hwr2;have hrc:Gr.rowC true i x=(x ||| 1<<< i)&&& (2^64-1-1<<< i):=rfl;rw[hrc]at hsucc;simp -dsimp only[go_sem,seval,h17,h7,hat2,hs1,hno,hal3,hi64,hi63,hm1];refine⟨by omega,by simp -dsimp only[go_sem,seval,h17,hw],by simp -dsimp only[go_sem,seval,h7],?_⟩;simp -dsimp only[go_sem,seval,hsucc];exact hwr2
 ·have hi6:i=64:=by omega
  subst hi6;have htk: ∀l:List Nat,l.length=64->List.take 64 (arr l)=arr l:=fun l hl=>List.take_of_length_le (by rw[zbb];omega)
  rw[<- hrl,zmD]at h7b
  generalize hR2:(R.mapIdx fun i m=>Gr.rowC sm i m)=R2 at h7b⊢
  have hR2l:R2.length=64:=by rw[<- hR2];simp[hrl]
  have hR2b: ∀x∈R2,x<2^64:=by
   intro x hx;rw[<- hR2]at hx;obtain⟨i,hi,rfl⟩:=List.mem_iff_getElem.1 hx;rw[List.getElem_mapIdx];exact zon (by simp at hi;omega) (hRb _ (List.getElem_mem _))
  have hmd:=zg4 (g.mks c) (g.mks d) R2 hR2l hkc hkd hR2b;have hal2:(arr R2).length=64:=by rw[zbb,hR2l]
  have ht2:=htk R2 hR2l;have hmd':Den Γ G 320 [.t (.int .u64 (g.mks c)),.t (.int .u64 (g.mks d)),.agg (arr R2)]=some (vb (meetsM (g.mks c) (g.mks d) R2)):=hmd;have htt:=zij (fun _=>none) 1000 R2;rw[show arr R2=List.map V.t (List.map (fun x:Nat=>T.int .u64 x) R2)by simp[arr]]at hmd';simp -dsimp only[go_sem,seval,h7,h7b,hxc,hxd,hal2,ht2,htt,hmd']
end Rg
end
section
namespace Rg
open Go
def rowsU (l:List Nat):List (List V):=l.map fun x:Nat=>[.t (.int .u64 x)]
theorem zbJ (l:List Nat):(rowsU l).length=l.length:=by simp[rowsU]
theorem zcS {l:List Nat} {i x:Nat} (h:l[i]? =some x):(rowsU l)[i]? =some [.t (.int .u64 x)]:=by simp[rowsU,h]
theorem zbI (l:List Nat) (i x:Nat):(rowsU l).set i [.t (.int .u64 x)]=rowsU (l.set i x):=by simp[rowsU,List.map_set]
theorem zfp (n:Nat):List.replicate n [V.t (.int .u64 0)]=rowsU (List.replicate n 0):=by simp[rowsU]
namespace Gr
variable {g:Gr}
theorem zfA (ho:g.Ok) (f:Acc->Bool) (c:Nat) {i:Nat} (hi:i<g.all.length):g.maskF f c (i+1)=if f (g.ac i)&&decide (g.cl i=c)then g.maskF f c i ||| 1<<< (g.ac i).st else g.maskF f c i:=by
 have h1:g.all[i]? =some (g.ac i):=by simp[Gr.ac,List.getD_eq_getElem?_getD,zI hi]
 have hi2:i<g.cls.length:=by rw[ho.cl_len];exact hi
 have h2:g.cls[i]? =some (g.cl i):=by simp[Gr.cl,List.getD_eq_getElem?_getD,zI hi2]
 have h3:(g.all.zip g.cls)[i]? =some (g.ac i,g.cl i):=by rw[List.getElem?_zip_eq_some];exact⟨h1,h2⟩
 unfold maskF;rw[zae h3,List.foldl_append];rfl
theorem maskF_lt (ho:g.Ok) (f:Acc->Bool) (c:Nat): ∀i,i<=g.all.length->g.maskF f c i<2^64
 | 0,_=>by simp[maskF]
 | i+1,h=>by
   rw[zfA ho f c (by omega)];have:=maskF_lt ho f c i (by omega);split
   ·exact Nat.or_lt_two_pow this (one_lt (ho.st_lt i (by omega)))
   ·exact this
def maskL (g:Gr) (f:Acc->Bool) (i:Nat):List Nat:=(List.range g.msk.length).map fun c=>g.maskF f c i
theorem maskL_len (f:Acc->Bool) (i:Nat):(g.maskL f i).length=g.msk.length:=by simp[maskL]
theorem maskL_at (f:Acc->Bool) (i:Nat) {c:Nat} (h:c<g.msk.length):(g.maskL f i)[c]? =some (g.maskF f c i):=by
 simp only[maskL,zJ,List.getElem?_range h,Option.map_some]
theorem maskL_zero (f:Acc->Bool):g.maskL f 0=List.replicate g.msk.length 0:=by
 refine List.ext_getElem (by simp[maskL]) fun i h1 h2=> ?_
 simp[maskL,maskF]
theorem maskL_succ (ho:g.Ok) (f:Acc->Bool) {i:Nat} (hi:i<g.all.length):g.maskL f (i+1)=if f (g.ac i)then(g.maskL f i).set (g.cl i) (g.maskF f (g.cl i) i ||| 1<<< (g.ac i).st)else g.maskL f i:=by
 refine List.ext_getElem? fun c=> ?_
 by_cases hc:c<g.msk.length
 ·rw[maskL_at f (i+1) hc,zfA ho f c hi];cases hf:f (g.ac i)
  ·simp only[Bool.false_and,zG,if_false];rw[maskL_at f i hc]
  ·simp only[Bool.true_and,decide_eq_true_eq,if_true];rw[List.getElem?_set]
   by_cases h:g.cl i=c
   ·subst h;simp[maskL_len,hc]
   ·rw[if_neg h,if_neg h,maskL_at f i hc]
 ·rw[List.getElem?_eq_none (by rw[maskL_len];omega)];split
  ·rw[List.getElem?_eq_none (by rw[List.length_set,maskL_len];omega)]
  ·rw[List.getElem?_eq_none (by rw[maskL_len];omega)]
def pairsI (g:Gr) (c j:Nat):List (Nat×Nat):=((List.range j).filter fun d=>g.isPair c d).map fun d=>(c,d)
def pairsN (g:Gr) (i:Nat):List (Nat×Nat):=(List.range i).flatMap fun c=>g.pairsI c g.msk.length
theorem pairsI_succ (c j:Nat):g.pairsI c (j+1)=g.pairsI c j++if g.isPair c j then [(c,j)]else []:=by
 unfold pairsI;rw[List.range_succ,List.filter_append,List.map_append];cases h:g.isPair c j<;>simp[h]
theorem pairsN_succ (i:Nat):g.pairsN (i+1)=g.pairsN i++g.pairsI i g.msk.length:=by
 unfold pairsN;rw[List.range_succ,List.flatMap_append];simp
theorem pairsI_len (c j:Nat):(g.pairsI c j).length<=j:=by
 unfold pairsI;rw[List.length_map];exact Nat.le_trans (List.length_filter_le _ _) (by simp)
theorem pairsN_len: ∀i,(g.pairsN i).length<=i*g.msk.length
 | 0=>by simp[pairsN]
 | i+1=>by
   rw[pairsN_succ,List.length_append,Nat.succ_mul];have:=pairsN_len i;have:=pairsI_len (g:=g) i g.msk.length;omega
theorem pairsN_all:g.pairsN g.msk.length=g.pairs:=rfl
end Gr
def pairT (x:Nat×Nat):List T:=[ti x.1,ti x.2]
def rowsP (l:List (Nat×Nat)):List (List V):=(l.map pairT).map (·.map V.t)
theorem zkm (l:List (Nat×Nat)):(rowsP l).length=l.length:=by simp[rowsP]
theorem zkn (l m:List (Nat×Nat)):rowsP l++rowsP m=rowsP (l++m):=by simp[rowsP]
theorem rowsP_all (l:List (Nat×Nat)):((rowsP l).all fun r=>decide (r.length=2))=true:=by simp[rowsP,pairT]
theorem pair_norm (l:List (Nat×Nat)): ∀e∈l.map pairT,∀t∈e,T.norm t=t:=by
 intro e he t ht;obtain⟨x,_,rfl⟩:=List.mem_map.1 he;simp only[pairT,List.mem_cons,List.not_mem_nil,or_false]at ht;rcases ht with rfl | rfl<;>rfl
theorem OwnB.offR {h:Nat->Option O} {x k sz sz':Nat} {v:V} {rows rs:List (List V)} {f:Bool} (o:OwnB h x v sz rows) (hk:h k=some (.rows sz' rs f)) (hne:sz≠sz'):zc1 v k:=by
 rcases o with⟨rfl,_⟩ | ⟨q,rfl,_,hq⟩
 ·intro i n he;cases he
 ·refine offK_ms ?_ _ _;rintro rfl;rw[hq]at hk;cases hk;exact hne rfl
structure AskT (cs ms ls ts:List (List T)) (model:Int) (g:Gr):Prop where
 ok:g.Ok
 nt4:g.nt<=4
 nc:g.nc=cs.length
 cl:cs.length<=32
 nt:g.nt=ts.length
 al:g.all.length<2^20
 ear: ∀i,i<g.all.length->Den Γ G 318 [.t (grT cs ms ls ts model g),.agg [vi (g.ac i).th,vi (g.ac i).st,vi (g.ac i).ce,vb (g.ac i).wr]]=some (vb (g.ear (g.ac i)))
 lat: ∀i,i<g.all.length->Den Γ G 319 [.t (grT cs ms ls ts model g),.agg [vi (g.ac i).th,vi (g.ac i).st,vi (g.ac i).ce,vb (g.ac i).wr]]=some (vb (g.lat (g.ac i)))
set_option maxHeartbeats 2000000
theorem zkL {cs ms ls ts:List (List T)} {model:Int} {g:Gr} (ha:AskT cs ms ls ts model g):
 Den Γ G 314 [.t (grT cs ms ls ts model g)]=some (.t (.sl (g.pairs.map pairT))):=by
 have hg:=ha.ok;have hml:=hg.msk_len;have hsz:g.sz<=72:=by have:=ha.nt4;have:=ha.cl;have:=ha.nc;unfold Gr.sz;omega
 have hbig:g.msk.length<=4*72:=by rw[hml];exact Nat.mul_le_mul ha.nt4 hsz
 have hal:=ha.al;have hncl:=hg.cl_len
 (refine den_ofY Γ314 rfl ?_;dsimp only[zrC])
 have hc1:((g.msk.length:Int)<0)=False:=by simp
 have hc2:((g.msk.length:Int)<=g.msk.length)=True:=by simp
 have hc3:((g.msk.length:Int)<=4294967296)=True:=by simp;omega
 simp -dsimp only[go_sem,seval,hc1,hc2,hc3];rw[zfp];refine zaj 590295810358571434080 g.all.length (fun i f h x=>(f 27).v=vi i/\h 6=some (.rows 1 (rowsU (g.maskL g.ear i)) false)/\h 12=some (.rows 1 (rowsU (g.maskL g.lat i)) false)/\13<=x) rfl ⟨by simp -dsimp only[go_sem,seval],by rw[Gr.maskL_zero];simp -dsimp only[go_sem,seval],by rw[Gr.maskL_zero];simp -dsimp only[go_sem,seval],by simp -dsimp only[go_sem,seval]⟩ ?_;rintro i f u H z bs hi ⟨h27,hE,hL,hz⟩;have hw:=zah i (by omega);simp -dsimp only[go_sem,seval,h27];refine csplit (fun h=> ?_) (fun h=> ?_)<;>(try rw[h])<;>(try simp only[zab]at h)<;>(try simp -dsimp only[go_sem,seval,h27])
 ·have hi2:i<g.all.length:=by assumption
  have hxa:g.all[i]? =some (g.ac i):=by simp[Gr.ac,List.getD_eq_getElem?_getD,zI hi2]
  have hxc:g.cls[i]? =some (g.cl i):=by simp[Gr.cl,List.getD_eq_getElem?_getD,zI (show i<g.cls.length by omega)]
  have hce:=ha.ear i hi2;have hcl:=ha.lat i hi2;have hclt:=hg.cl_lt i hi2;have hst:=hg.st_lt i hi2;have hse:=Gr.maskL_succ hg g.ear hi2;have hsl:=Gr.maskL_succ hg g.lat hi2;have hs1:=zmo (i:=(g.ac i).st) (by omega);have hre:=zcS (Gr.maskL_at (g:=g) g.ear i hclt);have hrl:=zcS (Gr.maskL_at (g:=g) g.lat i hclt);have hle:(rowsU (g.maskL g.ear i)).length=g.msk.length:=by rw[zbJ,Gr.maskL_len]
  have hll:(rowsU (g.maskL g.lat i)).length=g.msk.length:=by rw[zbJ,Gr.maskL_len]
  have hoe:=zpd (Gr.maskF_lt hg g.ear (g.cl i) i hi) (one_lt (i:=(g.ac i).st) hst);have hol:=zpd (Gr.maskF_lt hg g.lat (g.cl i) i hi) (one_lt (i:=(g.ac i).st) hst);have hci:((g.cl i:Int)<g.msk.length)=True:=by simp;omega
  simp -dsimp only[go_sem,seval,h27,hxa,hce];cases he:g.ear (g.ac i)
  ·rw[he]at hse;simp only[zG,if_false]at hse;simp -dsimp only[go_sem,seval,h27,hxa,hcl];cases hl:g.lat (g.ac i)
   ·rw[hl]at hsl;simp only[zG,if_false]at hsl;simp -dsimp only[go_sem,seval,h27];exact⟨by omega,by simp -dsimp only[go_sem,seval,h27,hw],by simp -dsimp only[go_sem,seval,hE,hse],by simp -dsimp only[go_sem,seval,hL,hsl],by(try simp -dsimp only[go_sem,seval])<;>omega⟩
   ·rw[hl,if_pos rfl]at hsl;simp -dsimp only[go_sem,seval,h27,hxc,hL,hrl,hll,hci,hs1,hol];exact⟨by omega,by simp -dsimp only[go_sem,seval,h27,hw],by simp -dsimp only[go_sem,seval,hE,hse],by simp -dsimp only[go_sem,seval,zbI,hsl],by(try simp -dsimp only[go_sem,seval])<;>omega⟩
  ·rw[he,if_pos rfl]at hse;simp -dsimp only[go_sem,seval,h27,hxc,hE,hre,hle,hci,hs1,hoe,hxa,hcl];cases hl:g.lat (g.ac i)
   ·rw[hl]at hsl;simp only[zG,if_false]at hsl;simp -dsimp only[go_sem,seval,h27];exact⟨by omega,by simp -dsimp only[go_sem,seval,h27,hw],by simp -dsimp only[go_sem,seval,zbI,hse],by simp -dsimp only[go_sem,seval,hL,hsl],by(try simp -dsimp only[go_sem,seval])<;>omega⟩
   ·rw[hl,if_pos rfl]at hsl;simp -dsimp only[go_sem,seval,h27,hxc,hL,hrl,hll,hci,hs1,hol];exact⟨by omega,by simp -dsimp only[go_sem,seval,h27,hw],by simp -dsimp only[go_sem,seval,zbI,hse],by simp -dsimp only[go_sem,seval,zbI,hsl],by(try simp -dsimp only[go_sem,seval])<;>omega⟩
 ·have hia:i=g.all.length:=by omega
  subst hia;have hle:(rowsU (g.maskL g.ear g.all.length)).length=g.msk.length:=by rw[zbJ,Gr.maskL_len]
  have hll:(rowsU (g.maskL g.lat g.all.length)).length=g.msk.length:=by rw[zbJ,Gr.maskL_len]
  have hth: ∀c,c<g.msk.length->Den Γ G 316 [.t (grT cs ms ls ts model g),vi c]=some (vi (g.thr c)):=by
   intro c hc
   have h0:0<cs.length+ts.length:=by
    have e:g.sz=2*(cs.length+ts.length):=by unfold Gr.sz;rw[ha.nc,ha.nt]
    apply Classical.byContradiction;intro h;have:g.sz=0:=by omega
    rw[this]at hml;omega
   have:=zbL cs ms ls ts (.int .i64 model:: .sl (g.all.map Acc.enc)::ints (g.cls.map fun c:Nat=>(c:Int))::zpz g.msk::restT g) c (by have:=ha.cl;omega) (by have:=ha.nt;have:=ha.nt4;omega) h0 (by omega);rw[<- ha.nc,<- ha.nt]at this;exact this
  have hz0: ∀m:Nat,(((m:Nat):Int)=0)=(m=0):=fun m=>by simp
  have hdv: ∀c:Nat,c<g.msk.length->IntKind.i64.wrap (((c:Nat):Int).tdiv 2)=((c/ 2:Nat):Int):=by
   intro c hc;rw[Int.tdiv_eq_ediv_of_nonneg (by omega),zan (by omega)];push_cast;rfl
  simp -dsimp only[go_sem,seval,hE,hle];refine zaj 5444517870735015413052810477473468777344 g.msk.length (fun i f h x=>(f 71).v=vi i/\h 6=some (.rows 1 (rowsU (g.maskL g.ear g.all.length)) false)/\h 12=some (.rows 1 (rowsU (g.maskL g.lat g.all.length)) false)/\OwnB h x (f 7).v 2 (rowsP (g.pairsN i))/\13<=x) rfl ⟨by simp -dsimp only[go_sem,seval],by simp -dsimp only[go_sem,seval,hE],by simp -dsimp only[go_sem,seval,hL],.inl ⟨by simp -dsimp only[go_sem,seval],rfl⟩,by(try simp -dsimp only[go_sem,seval])<;>omega⟩ ?_;clear hE hL hz h27;rintro i f u H z bs hi ⟨h71,hE,hL,hO,hz⟩;have hw:=zah i (by omega);simp -dsimp only[go_sem,seval,h71];refine csplit (fun h=> ?_) (fun h=> ?_)<;>(try rw[h])<;>(try simp only[zab]at h)<;>(try simp -dsimp only[go_sem,seval,h71])
  ·have hic:i<g.msk.length:=by assumption
   simp -dsimp only[go_sem,seval,h71,hL,hll];refine zaj 2722258935367507632149133133539822273152 g.msk.length (fun j f h x=>(f 76).v=vi j/\h 6=some (.rows 1 (rowsU (g.maskL g.ear g.all.length)) false)/\h 12=some (.rows 1 (rowsU (g.maskL g.lat g.all.length)) false)/\OwnB h x (f 7).v 2 (rowsP (g.pairsN i++g.pairsI i j))/\13<=x) rfl ⟨by simp -dsimp only[go_sem,seval],by simp -dsimp only[go_sem,seval,hE],by simp -dsimp only[go_sem,seval,hL],by rw[show g.pairsI i 0=[]from rfl,List.append_nil];(try simp -dsimp only[go_sem,seval]);exact hO.le (by(try simp -dsimp only[go_sem,seval])<;>omega),by(try simp -dsimp only[go_sem,seval])<;>omega⟩ ?_;rintro j f2 u2 H2 z2 bs2 hj ⟨h76,hE2,hL2,hO2,hz2⟩;have hw2:=zah j (by omega);simp -dsimp only[go_sem,seval,h76];refine csplit (fun h=> ?_) (fun h=> ?_)<;>(try rw[h])<;>(try simp only[zab]at h)<;>(try simp -dsimp only[go_sem,seval,h76])
   ·have hjc:j<g.msk.length:=by assumption
    have hre:=zcS (Gr.maskL_at (g:=g) g.ear g.all.length hic);have hrl:=zcS (Gr.maskL_at (g:=g) g.lat g.all.length hjc);have hci:(i<g.msk.length)=True:=by simp[hic]
    have hcj:(j<g.msk.length)=True:=by simp[hjc]
    have hsucc:=Gr.pairsI_succ (g:=g) i j;have ht1:=hth i hic;have ht2:=hth j hjc;have hd1:=hdv i hic;have hd2:=hdv j hjc;simp -dsimp only[go_sem,seval,h71,h76,hE2,hre,hle,hci,hL2,hrl,hll,hcj,hz0,ht1,ht2,hd1,hd2,zoH];refine csplit (fun h=> ?_) (fun h=> ?_)<;>(try rw[h])<;>(try simp only[zab]at h)<;>(try simp -dsimp only[go_sem,seval,h71,h76,hE2,hre,hle,hci,hL2,hrl,hll,hcj,hz0,ht1,ht2,hd1,hd2,zoH])
    ·have hnp:g.isPair i j=false:=by
      cases hp:g.isPair i j
      ·rfl
      ·obtain⟨k1,k2,k3,k4,k5⟩:=Gr.isPair_iff.1 hp;exact absurd h (k1)
     rw[hnp]at hsucc;simp only[zG,if_false,List.append_nil]at hsucc;rw[hsucc];exact⟨by omega,by simp -dsimp only[go_sem,seval,h76,hw2],by simp -dsimp only[go_sem,seval,hE2],by simp -dsimp only[go_sem,seval,hL2],by(try simp -dsimp only[go_sem,seval]);exact hO2.le (by(try simp -dsimp only[go_sem,seval])<;>omega),by(try simp -dsimp only[go_sem,seval])<;>omega⟩
    ·refine csplit (fun h=> ?_) (fun h=> ?_)<;>(try rw[h])<;>(try simp only[zab]at h)<;>(try simp -dsimp only[go_sem,seval,h71,h76,hE2,hre,hle,hci,hL2,hrl,hll,hcj,hz0,ht1,ht2,hd1,hd2,zoH])
     ·have hnp:g.isPair i j=false:=by
       cases hp:g.isPair i j
       ·rfl
       ·obtain⟨k1,k2,k3,k4,k5⟩:=Gr.isPair_iff.1 hp;exact absurd h (k2)
      rw[hnp]at hsucc;simp only[zG,if_false,List.append_nil]at hsucc;rw[hsucc];exact⟨by omega,by simp -dsimp only[go_sem,seval,h76,hw2],by simp -dsimp only[go_sem,seval,hE2],by simp -dsimp only[go_sem,seval,hL2],by(try simp -dsimp only[go_sem,seval]);exact hO2.le (by(try simp -dsimp only[go_sem,seval])<;>omega),by(try simp -dsimp only[go_sem,seval])<;>omega⟩
     ·refine csplit (fun h=> ?_) (fun h=> ?_)<;>(try rw[h])<;>(try simp only[zab]at h)<;>(try simp -dsimp only[go_sem,seval,h71,h76,hE2,hre,hle,hci,hL2,hrl,hll,hcj,hz0,ht1,ht2,hd1,hd2,zoH])
      ·have hnp:g.isPair i j=false:=by
        cases hp:g.isPair i j
        ·rfl
        ·obtain⟨k1,k2,k3,k4,k5⟩:=Gr.isPair_iff.1 hp;exact absurd h (fun h=>h k3)
       rw[hnp]at hsucc;simp only[zG,if_false,List.append_nil]at hsucc;rw[hsucc];exact⟨by omega,by simp -dsimp only[go_sem,seval,h76,hw2],by simp -dsimp only[go_sem,seval,hE2],by simp -dsimp only[go_sem,seval,hL2],by(try simp -dsimp only[go_sem,seval]);exact hO2.le (by(try simp -dsimp only[go_sem,seval])<;>omega),by(try simp -dsimp only[go_sem,seval])<;>omega⟩
      ·refine csplit (fun h=> ?_) (fun h=> ?_)<;>(try rw[h])<;>(try simp only[zab]at h)<;>(try simp -dsimp only[go_sem,seval,h71,h76,hE2,hre,hle,hci,hL2,hrl,hll,hcj,hz0,ht1,ht2,hd1,hd2,zoH])
       ·have hnp:g.isPair i j=false:=by
         cases hp:g.isPair i j
         ·rfl
         ·obtain⟨k1,k2,k3,k4,k5⟩:=Gr.isPair_iff.1 hp;exact absurd h (k4)
        rw[hnp]at hsucc;simp only[zG,if_false,List.append_nil]at hsucc;rw[hsucc];exact⟨by omega,by simp -dsimp only[go_sem,seval,h76,hw2],by simp -dsimp only[go_sem,seval,hE2],by simp -dsimp only[go_sem,seval,hL2],by(try simp -dsimp only[go_sem,seval]);exact hO2.le (by(try simp -dsimp only[go_sem,seval])<;>omega),by(try simp -dsimp only[go_sem,seval])<;>omega⟩
       ·have hti:g.thr i<g.nt:=by
         have hszp:0<g.sz:=by
          apply Classical.byContradiction;intro h;have:g.sz=0:=by omega
          rw[this]at hml;omega
         rw[Gr.thr,Nat.div_lt_iff_lt_mul hszp,<- hml];exact hic
        have ht4:((g.thr i:Int)<4)=True:=by have:=ha.nt4;simp;omega
        have hqr:=zku g (t:=g.thr i) (by have:=ha.nt4;omega) (hg.qk_row _ hti);have hql:=hg.qk_row _ hti;have hl:=zeg g;have hc1:(64<=(List.drop (g.thr i*64) (List.drop 256 (restT g))).length)=True:=by have:=ha.nt4;simp[hl];omega
        have hqb: ∀x∈g.qk.getD (g.thr i) [],x<2^64:=by
         intro x hx;obtain⟨n,hn,rfl⟩:=List.mem_iff_getElem.1 hx;have:=hg.qk_lt (g.thr i) n;rw[Gr.qkAt,List.getD_eq_getElem?_getD,zI hn]at this;exact this
        have hmd:=zg4 (g.maskF g.ear i g.all.length) (g.maskF g.lat j g.all.length) _ hql (Gr.maskF_lt hg _ _ _ (Nat.le_refl _)) (Gr.maskF_lt hg _ _ _ (Nat.le_refl _)) hqb;have htt:=zij H2 1000 (g.qk.getD (g.thr i) []);have hlr:(arr (g.qk.getD (g.thr i) [])).length=64:=by rw[zbb,hql]
        have hpr:g.isPair i j=meetsM (g.maskF g.ear i g.all.length) (g.maskF g.lat j g.all.length) (g.qk.getD (g.thr i) []):=by
         unfold Gr.isPair Gr.eaM Gr.laM
         simp_all
        have ear:arr (g.qk.getD (g.thr i) [])=List.map V.t (List.map (fun x:Nat=>T.int .u64 x) (g.qk.getD (g.thr i) [])):=by simp[arr]
        have hmd2:Den Γ G 320 [.t (.int .u64 (g.maskF g.ear i g.all.length)),.t (.int .u64 (g.maskF g.lat j g.all.length)),.agg (List.map V.t (List.map (fun x:Nat=>T.int .u64 x) (g.qk.getD (g.thr i) [])))]=some (vb (g.isPair i j)):=by
         rw[hpr,<- ear];exact hmd
        simp -dsimp only[go_sem,seval,ht4,hc1,hqr,htt,hlr,hmd2];cases hp:g.isPair i j
        ·rw[hp]at hsucc;simp only[zG,if_false,List.append_nil]at hsucc;rw[hsucc];simp -dsimp only[go_sem,seval,h76];exact⟨by omega,by simp -dsimp only[go_sem,seval,h76,hw2],by simp -dsimp only[go_sem,seval,hE2],by simp -dsimp only[go_sem,seval,hL2],by(try simp -dsimp only[go_sem,seval]);exact hO2.le (by(try simp -dsimp only[go_sem,seval])<;>omega),by(try simp -dsimp only[go_sem,seval])<;>omega⟩
        ·rw[hp,if_pos rfl]at hsucc;have v1:=hO2.valOf;have v3:=hO2.r5
         have hln:(rowsP (g.pairsN i++g.pairsI i j)).length<2^32:=by
          rw[zkm,List.length_append];have h1:=Gr.pairsN_len (g:=g) i;have h2:=Gr.pairsI_len (g:=g) i j;have h3:i*g.msk.length<=288*288:=Nat.mul_le_mul (by omega) (by omega);omega
         simp -dsimp only[go_sem,seval,h71,h76,v1,v3];refine zas (hO2.upd (by omega) _) (by omega) hln (by decide) rfl (rowsP_all _) ?_;intro v hp hO hoffs hkeep;have w1:=hO.valOf;have y6:=hkeep 6 (by omega) (hO2.offR hE2 (by decide));have y12:=hkeep 12 (by omega) (hO2.offR hL2 (by decide));rw[zac,if_neg (by omega),hE2]at y6;rw[zac,if_neg (by omega),hL2]at y12;rw[show [[V.t (T.int IntKind.i64 (i:Int)),V.t (T.int IntKind.i64 (j:Int))]]=rowsP [(i,j)]from rfl,zkn,List.append_assoc,<- hsucc]at hO;simp -dsimp only[go_sem,seval,w1,h76];exact⟨by omega,by simp -dsimp only[go_sem,seval,h76,hw2],by simp -dsimp only[go_sem,seval,y6],by simp -dsimp only[go_sem,seval,y12],by(try simp -dsimp only[go_sem,seval]);exact hO.le (by(try simp -dsimp only[go_sem,seval])<;>omega),by(try simp -dsimp only[go_sem,seval])<;>omega⟩
   ·have hjn:j=g.msk.length:=by omega
    subst hjn;rw[<- Gr.pairsN_succ]at hO2;simp -dsimp only[go_sem,seval,h71];exact⟨by omega,by simp -dsimp only[go_sem,seval,hw],by simp -dsimp only[go_sem,seval,hE2],by simp -dsimp only[go_sem,seval,hL2],by(try simp -dsimp only[go_sem,seval]);exact hO2.le (by(try simp -dsimp only[go_sem,seval])<;>omega),by(try simp -dsimp only[go_sem,seval])<;>omega⟩
  ·have hin:i=g.msk.length:=by omega
   subst hin;rw[Gr.pairsN_all]at hO;have v1:=hO.valOf;have hre:=hO.reify (pair_norm _);have v5:=hO.resVal;simp only[Rg.resVal]at v5;simp -dsimp only[go_sem,seval,v1,v5];exact hre
end Rg
end
section
namespace Rg
open Go
def idxC (l:List Int) (v:Int):Int:=match l.findIdx? (fun x=>decide (x=v))with
 | some i=>i
 | none=> -1
theorem zen {l:List Int} {v:Int} {i:Nat} (h:l[i]? =some v) (hn: ∀j,j<i->l[j]? ≠some v):idxC l v=i:=by
 have hi:=(zH.1 h).1
 have:l.findIdx? (fun x=>decide (x=v))=some i:=by
  rw[List.findIdx?_eq_some_iff_getElem];refine⟨hi,by simpa using(zH.1 h).2,fun j hj=> ?_⟩;have:=hn j hj;rw[zI (by omega)]at this;simpa using this
 rw[idxC,this]
theorem zhb {l:List Int} {v:Int} (hn: ∀j,j<l.length->l[j]? ≠some v):idxC l v= -1:=by
 have:l.findIdx? (fun x=>decide (x=v))=none:=by
  rw[List.findIdx?_eq_none_iff];intro x hx;obtain⟨j,hj⟩:=List.getElem?_of_mem hx;have:=hn j (zH.1 hj).1;rw[hj]at this;simpa using this
 rw[idxC,this]
theorem znb (l:List Int) (v:Int):decide (idxC l v>=0)=l.contains v:=by
 unfold idxC
 cases h:l.findIdx? (fun x=>decide (x=v))with
 | some i=>
   have hm:v∈l:=by
    rw[List.findIdx?_eq_some_iff_getElem]at h;obtain⟨h1,h2,_⟩:=h;exact(by simpa using h2:l[i]=v)▸List.getElem_mem h1
   simp[hm]
 | none=>
   have hm:v∉ l:=by
    intro hm;rw[List.findIdx?_eq_none_iff]at h;have:=h v hm;simp at this
   simp[hm]
theorem zjx (l:List Int) (v:Int) (hl:l.length<2^40):Den Γ G 207 [.t (ints l),vi v]=some (vi (idxC l v)):=by
 (refine den_ofY Γ207 rfl ?_;dsimp only[f207])
 simp -dsimp only[go_sem,seval];refine zaz 524080 l.length (fun i f=>(f 8).v=vi i/\ ∀j,j<i->l[j]? ≠some v) rfl rfl ⟨by simp -dsimp only[go_sem,seval],fun j hj=>by omega⟩ ?_;rintro i f u kk bb hi ⟨h8,hn⟩;have hw:=zah i (by omega);simp -dsimp only[go_sem,seval,h8];refine csplit (fun h=> ?_) (fun h=> ?_)<;>(try rw[h])<;>(try simp only[zab]at h)<;>(try simp -dsimp only[go_sem,seval,h8])
 ·obtain⟨y,hy,_⟩:=zaf ‹i<l.length›;simp -dsimp only[go_sem,seval,h8,hy];refine csplit (fun h=> ?_) (fun h=> ?_)<;>(try rw[h])<;>(try simp only[zab]at h)<;>(try simp -dsimp only[go_sem,seval,h8])
  ·rw[zen (by rw[hy,h]) hn]
  ·refine⟨by omega,by simp -dsimp only[go_sem,seval,hw],fun j hj=> ?_⟩;rcases Nat.lt_or_ge j i with h1 | h1
   ·exact hn j h1
   ·have:j=i:=by omega
    subst this;rw[hy];intro he;cases he;exact absurd rfl h
 ·have:i=l.length:=by omega
  subst this;rw[zhb hn]
theorem zbB (l:List Int) (v:Int) (hl:l.length<2^40):Den Γ G 206 [.t (ints l),vi v]=some (vb (l.contains v)):=by
 (refine den_ofY Γ206 rfl ?_;dsimp only[f206])
 have h1:=zjx l v hl;have h2:=znb l v;simp -dsimp only[go_sem,seval,h1,h2]
theorem zht (t i:Nat) (s:Step) (l:List Int):(accsC t i s l).length<=2*l.length:=by
 induction l with
 | nil=>simp[accsC]
 | cons c l ih=>
   have e:accsC t i s (c::l)=((if c∈readsM s then [⟨t,i,c.toNat,false⟩]else [])++(if c∈writesM s then [⟨t,i,c.toNat,true⟩]else []))++accsC t i s l:=rfl;rw[e,List.length_append,List.length_append,List.length_cons];have h1:(if c∈readsM s then [(⟨t,i,c.toNat,false⟩:Acc)]else []).length<=1:=by split<;>simp
   have h2:(if c∈writesM s then [(⟨t,i,c.toNat,true⟩:Acc)]else []).length<=1:=by split<;>simp
   omega
theorem zkQ (p:Prog) (t:Int):(ofM p t).length<=p.cells.length:=by unfold ofM zsT;exact ziT _ _ _
theorem zjV (t i:Nat) (s:Step) {l:List Int} {j:Nat} {c:Int} (h:l[j]? =some c):accsC t i s (l.take (j+1))=accsC t i s (l.take j)++((if c∈readsM s then [⟨t,i,c.toNat,false⟩]else [])++(if c∈writesM s then [⟨t,i,c.toNat,true⟩]else [])):=by
 rw[zae h];simp[accsC]
theorem zfT (p:Prog) (t:Nat) {l:List Step} {i:Nat} {s:Step} (h:l[i]? =some s):accsT p t l (i+1)=accsT p t l i++accsS p t i s:=by
 have hi:=(zH.1 h).1;unfold accsT;rw[zae h,List.zipIdx_append,List.flatMap_append];have:(l.take i).length=i:=by simp;omega
 simp[this]
theorem zfU (p:Prog) {k:Nat} {x:Thread} (h:p.threads[k]? =some x):accsN p (k+1)=accsN p k++accsT p k x.steps x.steps.length:=by
 have hi:=(zH.1 h).1;unfold accsN;rw[zae h,List.zipIdx_append,List.flatMap_append];have:(p.threads.take k).length=k:=by simp;omega
 simp[this]
theorem zl5 (p:Prog) (hc:p.cells.length<=32) (t i:Nat) (s:Step):(accsS p t i s).length<=64:=by
 unfold accsS;split
 ·simp
 ·have h1:=zht t i s (ofM p (-1));have h2:=zkQ p (-1);omega
theorem zdH (p:Prog) (hc:p.cells.length<=32) (t:Nat) (l:List Step): ∀i,i<=l.length->(accsT p t l i).length<=64*i
 | 0,_=>by simp[accsT]
 | i+1,h=>by
   obtain⟨s,hs,_⟩:=zaf (show i<l.length by omega);rw[zfT p t hs,List.length_append];have h1:=zdH p hc t l i (by omega);have h2:=zl5 p hc t i s;omega
theorem zb9 (p:Prog) (hc:p.cells.length<=32) (hs: ∀x∈p.threads,x.steps.length<=64): ∀k,k<=p.threads.length->(accsN p k).length<=4096*k
 | 0,_=>by simp[accsN]
 | k+1,h=>by
   obtain⟨x,hx,hxm⟩:=zaf (show k<p.threads.length by omega);rw[zfU p hx,List.length_append];have h1:=zb9 p hc hs k (by omega);have h2:=zdH p hc k x.steps _ (Nat.le_refl _);have h3:=hs x hxm;omega
def rowsA (l:List Acc):List (List V):=(l.map Acc.enc).map (·.map V.t)
theorem zgJ (l:List Acc):(rowsA l).length=l.length:=by simp[rowsA]
theorem rowsA_all (l:List Acc):((rowsA l).all fun r=>decide (r.length=4))=true:=by simp[rowsA,Acc.enc]
theorem zb1 (l:List Acc) (t k:Nat) (c:Int) (w:Bool) (hc:0<=c):rowsA l++[[V.t (T.int .i64 t),V.t (T.int .i64 k),V.t (T.int .i64 c),V.t (T.bool w)]]=rowsA (l++[⟨t,k,c.toNat,w⟩]):=by
 have:((c.toNat:Nat):Int)=c:=by omega
 simp[rowsA,Acc.enc,this]
theorem acc_norm (l:List Acc): ∀e∈l.map Acc.enc,∀t∈e,T.norm t=t:=by
 intro e he t ht;obtain⟨x,_,rfl⟩:=List.mem_map.1 he;simp only[Acc.enc,List.mem_cons,List.not_mem_nil,or_false]at ht;rcases ht with rfl | rfl | rfl | rfl<;>rfl
set_option maxHeartbeats 2000000
theorem znL (p:Prog) (hp:p.ok) (hset: ∀x∈p.threads,∀s∈x.steps,s.set.length<2^20):
 Den Γ G 307 [(.agg [.t (.sl ((p).cells.map (Cell.enc))),.t (.sl ((p).modules.map (Contract.enc))),.t (.sl ((p).locks.map (Lock.enc))),.t (.sl ((p).threads.map (Thread.enc)))])]=some (.t (.sl ((accsM p).map Acc.enc))):=by
 have hr:=ok_iff.1 hp;obtain⟨⟨l1,l2,l3,l4⟩,l5⟩:=limits_iff.1 hr.lim
 (refine den_ofY Γ307 rfl ?_;dsimp only[zrH])
 simp -dsimp only[go_sem,seval];refine zaj 4835703278458516698795000 p.threads.length (fun i f h x=>(f 15).v=vi i/\OwnB h x (f 3).v 4 (rowsA (accsN p i))) rfl ⟨by simp -dsimp only[go_sem,seval],.inl ⟨by simp -dsimp only[go_sem,seval],rfl⟩⟩ ?_;rintro i f u H z bs hi ⟨h15,hO⟩;have hw:=zah i (by omega);simp -dsimp only[go_sem,seval,h15];refine csplit (fun h=> ?_) (fun h=> ?_)<;>(try rw[h])<;>(try simp only[zab]at h)<;>(try simp -dsimp only[go_sem,seval,h15])
 ·obtain⟨x,hx,hxm⟩:=zaf ‹i<p.threads.length›;have hxs:=(l5 x hxm).2.1;simp -dsimp only[go_sem,seval,h15,hx];refine zaj 2417851639229258341026760 x.steps.length (fun j f h y=>(f 23).v=vi j/\OwnB h y (f 3).v 4 (rowsA (accsN p i++accsT p i x.steps j))) rfl ⟨by simp -dsimp only[go_sem,seval],by rw[show accsT p i x.steps 0=[]from rfl,List.append_nil];(try simp -dsimp only[go_sem,seval]);exact hO.le (by(try simp -dsimp only[go_sem,seval])<;>omega)⟩ ?_;rintro j f2 u2 H2 z2 bs2 hj ⟨h23,hO2⟩;have hw2:=zah j (by omega);simp -dsimp only[go_sem,seval,h23];refine csplit (fun h=> ?_) (fun h=> ?_)<;>(try rw[h])<;>(try simp only[zab]at h)<;>(try simp -dsimp only[go_sem,seval,h23])
  ·obtain⟨s,hs,hsm⟩:=zaf ‹j<x.steps.length›;have hsl:=hset x hxm s hsm;have hrd:=zkz s hsl;have hwd:=zjc s (by omega);have hsucc:=zfT p i hs
   have htg:s.kind=6\/s.kind=7->0<=s.target/\s.target<p.threads.length:=by
    intro hk;have ht:=hr.threads _ x hx;rw[threadErr_iff]at ht;obtain⟨hb,_,hset,hko⟩:=stepErr_iff.1 (ht.2.2.2.2.2.1 _ s hs)
    have hj:joinOk p i s=true:=by
     unfold kindOk at hko;rcases hk with hk | hk<;>rw[hk]at hko<;>simp at hko
     ·exact hko.1
     ·exact hko
    simp only[joinOk,inR,zF,decide_eq_true_eq]at hj;omega
   have v1:=hO2.valOf;have v2:=hO2.r2;have v3:=hO2.r3;have v4:=hO2.r4;have v5:=hO2.r5
   have hln:(rowsA (accsN p i++accsT p i x.steps j)).length<2^32:=by
    rw[zgJ,List.length_append];have h1:=zb9 p l1 (fun x hx=>(l5 x hx).2.1) i hi;have h2:=zdH p l1 i x.steps j hj;omega
   simp -dsimp only[go_sem,seval,h23,hs];refine csplit (fun h=> ?_) (fun h=> ?_)<;>(try rw[h])<;>(try simp only[zab]at h)<;>(try simp -dsimp only[go_sem,seval,h23])
   ·have hk67:s.kind=6\/s.kind=7:=by omega
    obtain⟨t0,t1⟩:=htg hk67;have hac:accsS p i j s=[⟨i,j,p.cells.length+s.target.toNat,true⟩]:=by unfold accsS;rw[if_pos hk67]
    have hadd:IntKind.i64.wrap ((p.cells.length:Int)+s.target)=((p.cells.length+s.target.toNat:Nat):Int):=by rw[zan (by omega)];omega
    simp -dsimp only[go_sem,seval,h15,h23,v1,v2,v3,v4,v5,hadd];refine zas (hO2.upd (by omega) _) (by omega) hln (by decide) rfl (rowsA_all _) ?_;intro v hp hO hoffs hkeep;have w1:=hO.valOf;rw[zb1 _ i j _ true (by omega),show((p.cells.length+s.target.toNat:Nat):Int).toNat=p.cells.length+s.target.toNat by omega,List.append_assoc,<- hac,<- hsucc]at hO;simp -dsimp only[go_sem,seval,w1,h23];refine⟨by omega,by simp -dsimp only[go_sem,seval,h23,hw2],?_⟩;simp -dsimp only[go_sem,seval];refine hO.le ?_;omega
   ·refine csplit (fun h=> ?_) (fun h=> ?_)<;>(try rw[h])<;>(try simp only[zab]at h)<;>(try simp -dsimp only[go_sem,seval,h23])
    ·have hk67:s.kind=6\/s.kind=7:=by omega
     obtain⟨t0,t1⟩:=htg hk67;have hac:accsS p i j s=[⟨i,j,p.cells.length+s.target.toNat,true⟩]:=by unfold accsS;rw[if_pos hk67]
     have hadd:IntKind.i64.wrap ((p.cells.length:Int)+s.target)=((p.cells.length+s.target.toNat:Nat):Int):=by rw[zan (by omega)];omega
     simp -dsimp only[go_sem,seval,h15,h23,v1,v2,v3,v4,v5,hadd];refine zas (hO2.upd (by omega) _) (by omega) hln (by decide) rfl (rowsA_all _) ?_;intro v hp hO hoffs hkeep;have w1:=hO.valOf;rw[zb1 _ i j _ true (by omega),show((p.cells.length+s.target.toNat:Nat):Int).toNat=p.cells.length+s.target.toNat by omega,List.append_assoc,<- hac,<- hsucc]at hO;simp -dsimp only[go_sem,seval,w1,h23];refine⟨by omega,by simp -dsimp only[go_sem,seval,h23,hw2],?_⟩;simp -dsimp only[go_sem,seval];refine hO.le ?_;omega
    ·have hk67: ¬(s.kind=6\/s.kind=7):=by omega
     have hac:accsS p i j s=accsC i j s (ofM p (-1)):=by unfold accsS;rw[if_neg hk67]
     have hsh:=zgF p (by omega);have hLl:=zkQ p (-1)
     have hL0: ∀c∈ofM p (-1),0<=c:=by
      intro c hc;rw[zk1,zcz]at hc;exact hc.1
     rw[hac]at hsucc;simp -dsimp only[go_sem,seval,hrd,hwd,hsh]
     generalize ofM p (-1)=L at hLl hL0 hsucc
     have hln3: ∀(k:Nat) (l:List Acc),l.length<=1->(rowsA (accsN p i++accsT p i x.steps j++accsC i j s (L.take k)++l)).length<2^32:=by
      intro k l hl;rw[zgJ,List.length_append,List.length_append,List.length_append];have h1:=zb9 p l1 (fun x hx=>(l5 x hx).2.1) i hi;have h2:=zdH p l1 i x.steps j hj;have h3:=zht i j s (L.take k);have h4:(L.take k).length<=L.length:=by simp;omega
      omega
     refine zaj 1208925783585832155744264 L.length (fun k f h y=>(f 55).v=vi k/\OwnB h y (f 3).v 4 (rowsA (accsN p i++accsT p i x.steps j++accsC i j s (L.take k)))) rfl ⟨by simp -dsimp only[go_sem,seval],by rw[show accsC i j s (L.take 0)=[]by simp[accsC],List.append_nil];(try simp -dsimp only[go_sem,seval]);exact hO2.le (by(try simp -dsimp only[go_sem,seval])<;>omega)⟩ ?_;rintro k f3 u3 H3 z3 bs3 hk ⟨h55,hO3⟩;have hw3:=zah k (by omega);simp -dsimp only[go_sem,seval,h55];refine csplit (fun h=> ?_) (fun h=> ?_)<;>(try rw[h])<;>(try simp only[zab]at h)<;>(try simp -dsimp only[go_sem,seval,h55])
     ·obtain⟨c,hc,hcm⟩:=zaf ‹k<L.length›;have hc0:=hL0 c hcm;have hcs:=zjV i j s hc;have hcn:((c.toNat:Nat):Int)=c:=by omega
      have hc1:=zbB (readsM s) c (by have h1:=zeu (readsL s s.set.length);have h2:=zdO s s.set.length;simp only[readsL,List.take_length]at h1 h2;unfold readsM;omega);have hc2:=zbB (writesM s) c (by have:=zeu (s.set.map Assign.cell);simp at this;unfold writesM;omega);have hlnk:(rowsA (accsN p i++accsT p i x.steps j++accsC i j s (L.take k))).length<2^32:=by simpa using hln3 k [] (by simp)
      have v1:=hO3.valOf;have v2:=hO3.r2;have v3:=hO3.r3;have v4:=hO3.r4;have v5:=hO3.r5;simp -dsimp only[go_sem,seval,h55,hc,hc1];cases hr1:(readsM s).contains c
      ·have hm1: ¬c∈readsM s:=by simpa using hr1
       rw[if_neg hm1,List.nil_append]at hcs;simp -dsimp only[go_sem,seval,h55,hc2];cases hr2:(writesM s).contains c
       ·have hm2: ¬c∈writesM s:=by simpa using hr2
        rw[if_neg hm2,List.append_nil]at hcs;simp -dsimp only[go_sem,seval,h55];refine⟨by omega,by simp -dsimp only[go_sem,seval,h55,hw3],?_⟩;rw[hcs]
        (try simp -dsimp only[go_sem,seval])
        refine hO3.le ?_;omega
       ·have hm2:c∈writesM s:=by simpa using hr2
        rw[if_pos hm2]at hcs;simp -dsimp only[go_sem,seval,h55,v1,v2,v3,v4,v5,h15,h23];refine zas (hO3.upd (by omega) _) (by omega) hlnk (by decide) rfl (rowsA_all _) ?_;intro v hp hO4 hoffs hkeep;have w1:=hO4.valOf;rw[zb1 _ i j _ true hc0,List.append_assoc,<- hcs]at hO4;simp -dsimp only[go_sem,seval,w1,h55];refine⟨by omega,by simp -dsimp only[go_sem,seval,h55,hw3],?_⟩;simp -dsimp only[go_sem,seval];refine hO4.le ?_;omega
      ·have hm1:c∈readsM s:=by simpa using hr1
       rw[if_pos hm1]at hcs;simp -dsimp only[go_sem,seval,h55,v1,v2,v3,v4,v5,h15,h23];refine zas (hO3.upd (by omega) _) (by omega) hlnk (by decide) rfl (rowsA_all _) ?_;intro v hp hO4 hoffs hkeep;have w1:=hO4.valOf;rw[zb1 _ i j _ false hc0]at hO4;simp -dsimp only[go_sem,seval,w1,h55,hc2];cases hr2:(writesM s).contains c
       ·have hm2: ¬c∈writesM s:=by simpa using hr2
        rw[if_neg hm2,List.append_nil]at hcs;simp -dsimp only[go_sem,seval,h55];refine⟨by omega,by simp -dsimp only[go_sem,seval,h55,hw3],?_⟩;rw[hcs];simp -dsimp only[go_sem,seval];rw[List.append_assoc]at hO4;refine hO4.le ?_;omega
       ·have hm2:c∈writesM s:=by simpa using hr2
        rw[if_pos hm2]at hcs;have hO5:=hO4.le (y:=z3+1+3+3+8) (by omega);have q2:=hO5.r2;simp -dsimp only[go_sem,seval,h55,w1,q2,h15,h23];refine zas (hO5.upd (by omega) _) (by omega) (hln3 k [_] (by simp)) (by decide) rfl (rowsA_all _) ?_;intro v' hp' hO6 hoffs' hkeep';have w2:=hO6.valOf;rw[zb1 _ i j _ true hc0,List.append_assoc,List.append_assoc,<- hcs]at hO6;simp -dsimp only[go_sem,seval,w2,h55];refine⟨by omega,by simp -dsimp only[go_sem,seval,h55,hw3],?_⟩;simp -dsimp only[go_sem,seval];refine hO6.le ?_;omega
     ·have:k=L.length:=by omega
      subst this;rw[List.take_length,List.append_assoc,<- hsucc]at hO3;simp -dsimp only[go_sem,seval,h23];refine⟨by omega,by simp -dsimp only[go_sem,seval,h23,hw2],?_⟩;simp -dsimp only[go_sem,seval];refine hO3.le ?_;omega
  ·have:j=x.steps.length:=by omega
   subst this;rw[<- zfU p hx]at hO2;simp -dsimp only[go_sem,seval,h15];exact⟨by omega,by simp -dsimp only[go_sem,seval,hw],by(try simp -dsimp only[go_sem,seval]);exact hO2.le (by(try simp -dsimp only[go_sem,seval])<;>omega)⟩
 ·have:i=p.threads.length:=by omega
  subst this;have v1:=hO.valOf;have hre:=hO.reify (acc_norm _);have v5:=hO.resVal;simp only[Rg.resVal]at v5;simp -dsimp only[go_sem,seval,v1,v5];exact hre
end Rg
end

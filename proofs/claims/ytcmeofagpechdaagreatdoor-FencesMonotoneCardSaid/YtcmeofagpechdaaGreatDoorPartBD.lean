/- Part of the proof of laws of relyguardlaw31. No condition. -/
import Derived.Test.YtcmeofagpechdaaGreatDoorPartBC
import Derived.Test.YtcmeofagpechdaaGreatDoorPartBA
set_option linter.unusedSimpArgs false
set_option linter.unusedVariables false
section
namespace Rg
open Go
theorem zq2 {x:Nat} (hx:x<2^62):(BitVec.ofInt 64 (x:Int)).toNat=x:=by simp[BitVec.toNat_ofInt];omega
theorem zt9 {a b:Nat} (ha:a<2^62) (hb:b<2^62):IntKind.i64.wrap ((BitVec.ofInt IntKind.i64.bits (a:Int) ||| BitVec.ofInt IntKind.i64.bits (b:Int)).toNat:Int)=((a ||| b:Nat):Int):=by
 show IntKind.i64.wrap ((BitVec.ofInt 64 (a:Int) ||| BitVec.ofInt 64 (b:Int)).toNat:Int)=_;have:=Nat.or_lt_two_pow ha hb;rw[BitVec.toNat_or,zq2 ha,zq2 hb,zan (by omega)]
theorem zqc {a:Nat} (ha:a<2^62):IntKind.i64.wrap ((BitVec.ofInt IntKind.i64.bits (a:Int)&&& BitVec.ofInt IntKind.i64.bits 1).toNat:Int)=((a&&& 1:Nat):Int):=by
 show IntKind.i64.wrap ((BitVec.ofInt 64 (a:Int)&&& BitVec.ofInt 64 ((1:Nat):Int)).toNat:Int)=_;have:a&&& 1<=a:=Nat.and_le_left;rw[BitVec.toNat_and,zq2 ha,zq2 (by omega),zan (by omega)]
theorem zqb {i:Nat} (h:i<62):(if(i:Int)<0 then none else some (T.int .i64 (IntKind.i64.wrap (1*2^min i 64))))=some (T.int .i64 ((1<<< i:Nat):Int)):=by
 rw[if_neg (by omega),Nat.min_eq_left (by omega)];have e:(1*2^i:Int)=((1<<< i:Nat):Int):=by rw[Nat.one_shiftLeft];push_cast;omega
 have h2:(1<<< i:Nat)<2^62:=by rw[Nat.one_shiftLeft];exact Nat.pow_lt_pow_right (by omega) h
 rw[e]
 generalize(1<<< i:Nat)=q at h2⊢
 rw[zan (by omega)]
theorem zsU (a i:Nat) (h:i<=64):(if(i:Int)<0 then none else some (T.int .i64 ((a:Int).fdiv (2^min i 64))))=some (T.int .i64 ((a>>> i:Nat):Int)):=by
 rw[if_neg (by omega),Nat.min_eq_left h]
 congr 2
 rw[Nat.shiftRight_eq_div_pow,Int.fdiv_eq_ediv_of_nonneg _ (by exact Int.le_of_lt (Int.pow_pos (by omega)))];simp
def keyT (goal c m r:Nat):T:=.sl [[ti goal,ti c,ti m,ti r]]
def zcb (g:Gr) (es:List (T×V)):Prop:= ∀e∈es,∃goal c m r:Nat,e.1=keyT goal c m r/\e.2=vb (g.ends r goal c m)
theorem znY (a b c d a' b' c' d':Nat):zcm (keyT a b c d) (keyT a' b' c' d')=some (decide (a=a'/\b=b'/\c=c'/\d=d')):=by
 have h: ∀x y:Nat,(((x:Int)==(y:Int)):Bool)=decide (x=y):=by intro x y;rw[zvX];simp[Int.ofNat_inj]
 simp only[keyT,zcm,zcp,ziP,if_true,h,zC,zD,Bool.and_true,Bool.decide_and]
theorem zg1 {g:Gr} (goal c m r:Nat): ∀{es:List (T×V)},zcb g es->mapFind (keyT goal c m r) es=some none\/mapFind (keyT goal c m r) es=some (some (vb (g.ends r goal c m)))
 | [],_=> .inl rfl
 | e::es,h=>by
   obtain⟨a,b,c',d,h1,h2⟩:=h e List.mem_cons_self;obtain⟨k,v⟩:=e;simp only at h1 h2;subst h1 h2;simp only[mapFind,znY]
   by_cases he:goal=a/\c=b/\m=c'/\r=d
   ·rw[decide_eq_true he];obtain⟨rfl,rfl,rfl,rfl⟩:=he;exact .inr rfl
   ·rw[decide_eq_false he];exact zg1 goal c m r fun e he=>h e (List.mem_cons_of_mem _ he)
theorem zge {g:Gr} (goal c m r:Nat): ∀{es:List (T×V)},zcb g es-> ∃es',mapPut (keyT goal c m r) (vb (g.ends r goal c m)) es=some es'/\zcb g es'
 | [],_=>⟨_,rfl,fun e he=>by rw[List.mem_singleton.1 he];exact⟨goal,c,m,r,rfl,rfl⟩⟩
 | e::es,h=>by
   obtain⟨a,b,c',d,h1,h2⟩:=h e List.mem_cons_self;obtain⟨k,v⟩:=e;simp only at h1 h2;subst h1 h2;simp only[mapPut,znY]
   by_cases he:goal=a/\c=b/\m=c'/\r=d
   ·rw[decide_eq_true he];refine⟨_,rfl,fun e he'=> ?_⟩;rcases List.mem_cons.1 he' with rfl | h1
    ·exact⟨goal,c,m,r,rfl,rfl⟩
    ·exact h e (List.mem_cons_of_mem _ h1)
   ·rw[decide_eq_false he];obtain⟨es',h1,h2⟩:=zge goal c m r (es:=es) fun e he=>h e (List.mem_cons_of_mem _ he)
    refine⟨_,by rw[h1];rfl,fun e he'=> ?_⟩;rcases List.mem_cons.1 he' with rfl | h3
    ·exact h _ List.mem_cons_self
    ·exact h2 e h3
structure GrB (H:Nat->Option O) (kG kM kn:Nat) (cv:V) (p:Prog) (model:Int) (g:Gr) (f1 f2:Bool):Prop where
 row:H kG=some (.rows 521 [rowG (p.cells.map Cell.enc) (p.modules.map Contract.enc) (p.locks.map Lock.enc) (p.threads.map Thread.enc) model (g.all.map Acc.enc) cv (.ms kM 0 g.msk.length) g.ldAt g.qkAt kn] f1)
 cls:Shw H cv 1 (g.cls.map fun c:Nat=>[ti c])
 msk:H kM=some (.rows 1 (rowsU g.msk) f2)
 neG:kG≠kn
 neM:kM≠kn
 off:zc1 cv kn
 ok:g.Ok
 nt4:g.nt<=4
 nc:g.nc=p.cells.length
 cl:p.cells.length<=32
 nt:g.nt=p.threads.length
noncomputable def HM (H:Nat->Option O) (kn:Nat) (es:List (T×V)):Nat->Option O:=updC H kn (some (.map es))
theorem zoa (H:Nat->Option O) (kn:Nat) (es es':List (T×V)):updC (HM H kn es) kn (some (.map es'))=HM H kn es':=by
 funext k
 simp only[HM,zac];split<;>rfl
theorem HM_at (H:Nat->Option O) (kn:Nat) (es:List (T×V)):HM H kn es kn=some (.map es):=by rw[HM,zac,if_pos rfl]
theorem zmb (H:Nat->Option O) {k kn:Nat} (es:List (T×V)) (h:k≠kn):HM H kn es k=H k:=by rw[HM,zac,if_neg h]
namespace GrB
variable {H:Nat->Option O} {kG kM kn:Nat} {cv:V} {p:Prog} {model:Int} {g:Gr} {f1 f2:Bool} (b:GrB H kG kM kn cv p model g f1 f2)
include b
theorem rowM (es:List (T×V)):HM H kn es kG=some (.rows 521 [rowG (p.cells.map Cell.enc) (p.modules.map Contract.enc) (p.locks.map Lock.enc) (p.threads.map Thread.enc) model (g.all.map Acc.enc) cv (.ms kM 0 g.msk.length) g.ldAt g.qkAt kn] f1):=by rw[zmb _ _ b.neG,b.row]
theorem mskM (es:List (T×V)):HM H kn es kM=some (.rows 1 (rowsU g.msk) f2):=by rw[zmb _ _ b.neM,b.msk]
theorem clsM (es:List (T×V)):Shw (HM H kn es) cv 1 (g.cls.map fun c:Nat=>[ti c]):=by
 rcases b.cls with h | ⟨k,f,rfl,hk⟩
 ·exact .inl h
 ·refine .inr ⟨k,f,rfl,?_⟩;have:k≠kn:=by rintro rfl;exact b.off _ _ rfl
  rw[zmb _ _ this];exact hk
theorem tree (es:List (T×V)):toT1 (HM H kn es) (.mp kG 0 0)=some (.t (grT (p.cells.map Cell.enc) (p.modules.map Contract.enc) (p.locks.map Lock.enc) (p.threads.map Thread.enc) model g)):=by
 have:=zeT (b.rowM es) (b.clsM es) (by
  intro e he t ht;obtain⟨y,_,rfl⟩:=List.mem_map.1 he;simp only[List.mem_cons,List.not_mem_nil,or_false]at ht
  rw[ht];rfl) (msk_shw (b.mskM es) rfl) (u64_norm _) (HM_at H kn es)
 rw[this];simp only[grT,ints,List.map_map,restT];rfl
theorem szL:g.msk.length<=4*72:=by
 have h1:=b.nt4;have h2:=b.nc;have h3:=b.cl;rw[b.ok.msk_len];exact Nat.mul_le_mul b.nt4 (by unfold Gr.sz;omega)
theorem szE:g.sz=2*(p.cells.length+p.threads.length):=by unfold Gr.sz;rw[b.nc,b.nt]
theorem pos {c:Nat} (hc:c<g.msk.length):0<p.cells.length+p.threads.length:=by
 have h1:=b.ok.msk_len;have h2:=b.szE;apply Classical.byContradiction;intro h;have:g.sz=0:=by omega
 rw[this]at h1;omega
theorem thr_lt {c:Nat} (hc:c<g.msk.length):g.thr c<4:=by
 have h1:=b.ok.msk_len;have h2:=b.szE;have h3:=b.pos hc;have:g.thr c<g.nt:=by rw[Gr.thr,Nat.div_lt_iff_lt_mul (by omega),<- h1];exact hc
 have:=b.nt4;omega
theorem thr_den {c:Nat} (hc:c<g.msk.length):Den Γ G 316 [.t (grT (p.cells.map Cell.enc) (p.modules.map Contract.enc) (p.locks.map Lock.enc) (p.threads.map Thread.enc) model g),vi c]=some (vi (g.thr c)):=by
 have h0:=b.pos hc;have h1:=b.szL;have h2:=b.cl;have h3:=b.nt4;have h4:=b.nt;have:=zbL (p.cells.map Cell.enc) (p.modules.map Contract.enc) (p.locks.map Lock.enc) (p.threads.map Thread.enc) (.int .i64 model:: .sl (g.all.map Acc.enc)::ints (g.cls.map fun c:Nat=>(c:Int))::zpz g.msk::restT g) c (by simp;omega) (by simp;omega) (by simpa using h0) (by omega);simp only[List.length_map]at this;rw[<- b.szE]at this;exact this
theorem pr_den {c d:Nat} (hc:c<g.msk.length) (hd:d<g.msk.length):Den Γ G 321 [.t (grT (p.cells.map Cell.enc) (p.modules.map Contract.enc) (p.locks.map Lock.enc) (p.threads.map Thread.enc) model g),vi c,vi d]=some (vb (g.prec c d)):=by
 have h0:=b.pos hc;have h1:=b.szL;have h2:=b.cl;have h3:=b.nt4;have h4:=b.nt;have:=zmP (p.cells.map Cell.enc) (p.modules.map Contract.enc) (p.locks.map Lock.enc) (p.threads.map Thread.enc) (.int .i64 model:: .sl (g.all.map Acc.enc)::ints (g.cls.map fun c:Nat=>(c:Int))::zpz g.msk::restT g) c d (by simp;omega) (by simp;omega) (by simpa using h0) (by omega) (by omega);simp only[List.length_map]at this;rw[<- b.nc,<- b.nt]at this;exact this
theorem cp_den {c d:Nat} (hc:c<g.msk.length) (hd:d<g.msk.length):Den Γ G 325 [.t (grT (p.cells.map Cell.enc) (p.modules.map Contract.enc) (p.locks.map Lock.enc) (p.threads.map Thread.enc) model g),vi c,vi d]=some (vb (g.couple c d)):=by
 have h2:=b.cl;exact zjJ _ _ _ _ model g b.ok b.nt4 (by simp[b.nc]) (by simp;omega) (by simp[b.nt]) c d hc hd
end GrB
def PE (H:Nat->Option O) (kG kn:Nat) (g:Gr) (r:Nat):Prop:= ∀(goal c m:Nat) (es:List (T×V)) (n:Nat),goal<g.msk.length->c<g.msk.length->m<16->zcb g es->
 ∃rr h' n',DenR Γ G 315 [.mp kG 0 0,vi goal,vi c,vi m,vi r] (HM H kn es) n=some (rr,h',n')/\rr=vb (g.ends r goal c m)/\ ∃es',zcb g es'/\h'=HM H kn es'
def PO (H:Nat->Option O) (kG kn:Nat) (g:Gr) (r:Nat):Prop:= ∀(goal c m:Nat) (es:List (T×V)) (n:Nat),goal<g.msk.length->c<g.msk.length->m<16->zcb g es->
 ∃rr h' n',DenR Γ G 322 [.mp kG 0 0,vi goal,vi c,vi m,vi r] (HM H kn es) n=some (rr,h',n')/\rr=vb (g.opens r goal c m)/\ ∃es',zcb g es'/\h'=HM H kn es'
set_option maxHeartbeats 2000000
theorem opens_of {H:Nat->Option O} {kG kM kn:Nat} {cv:V} {p:Prog} {model:Int} {g:Gr} {f1 f2:Bool} (b:GrB H kG kM kn cv p model g f1 f2) {r:Nat} (hr:r<100) (h1:PE H kG kn g r) (h2:0<r->PE H kG kn g (r-1)):PO H kG kn g r:=by
 intro goal c m es n hg hc hm hes
 (refine denR_ofY Γ322 rfl ?_;dsimp only[zrw])
 simp -dsimp only[go_sem,seval];refine zav (h1 goal c m es _ hg hc hm hes) ?_;rintro _ h' n' ⟨rfl,es1,hes1,rfl⟩;cases he:g.ends r goal c m
 ·simp -dsimp only[go_sem,seval];have hM:=b.mskM es1;have hG:=b.rowM es1
  have hop:g.opens r goal c m=(decide (0<r)&&(List.range g.msk.length).any fun e=>decide (g.thr e=g.thr c)&&(g.couple c e&&g.ends (r-1) goal e m)):=by
   unfold Gr.opens;rw[he,Bool.false_or]
  have hsz:=b.szL;have hlen:(rowsU g.msk).length=g.msk.length:=zbJ _;simp -dsimp only[go_sem,seval,hG,hM];refine zaj 9007199246355456 g.msk.length (fun i f h x=>(f 23).v=vi i/\(∃es,zcb g es/\h=HM H kn es)/\g.opens r goal c m=(decide (0<r)&&(((List.range g.msk.length).drop i).any fun e=>decide (g.thr e=g.thr c)&&(g.couple c e&&g.ends (r-1) goal e m)))) rfl ⟨by simp -dsimp only[go_sem,seval],⟨es1,hes1,rfl⟩,hop⟩ ?_;clear hM hG hes hes1;rintro i f u h x bs hi ⟨h23,⟨es2,hes2,rfl⟩,hany⟩;have hw:=zah i (by omega);simp -dsimp only[go_sem,seval,h23];refine csplit (fun h=> ?_) (fun h=> ?_)<;>(try rw[h])<;>(try simp only[zab]at h)<;>(try simp -dsimp only[go_sem,seval,h23])
  ·have hic:i<g.msk.length:=by assumption
   have hT:=b.tree es2;have ht1:=b.thr_den hic;have ht2:=b.thr_den hc;have hcp:=b.cp_den hc hic;have hri:(List.range g.msk.length)[i]? =some i:=List.getElem?_range hic
   by_cases hr0:0<r
   ·have hr1:((r:Int)>0)=True:=by simp;omega
    have hr2:IntKind.i64.wrap ((r:Int)-1)=((r-1:Nat):Int):=by rw[zan (by omega)];omega
    rw[decide_eq_true hr0,Bool.true_and]at hany⊢;simp -dsimp only[go_sem,seval,hr1,h23,↓hT,ht1,ht2,hcp,zoH]
    by_cases hth:g.thr i=g.thr c
    ·simp -dsimp only[go_sem,seval,hth,h23,↓hT,ht1,ht2,hcp,zoH];cases hco:g.couple c i
     ·simp -dsimp only[go_sem,seval,h23];exact⟨by omega,by simp -dsimp only[go_sem,seval,h23,hw],⟨es2,hes2,rfl⟩,by rw[hany,zbT hri (by rw[hco];simp)]⟩
     ·simp -dsimp only[go_sem,seval,h23,hr2];refine zav (h2 hr0 goal i m es2 _ hg hic hm hes2) ?_;rintro _ h' n' ⟨rfl,es3,hes3,rfl⟩;simp -dsimp only[go_sem,seval,h23];cases hen:g.ends (r-1) goal i m
      ·simp -dsimp only[go_sem,seval,h23];exact⟨by omega,by simp -dsimp only[go_sem,seval,h23,hw],⟨es3,hes3,rfl⟩,by rw[hany,zbT hri (by rw[hen];simp)]⟩
      ·simp -dsimp only[go_sem,seval,h23];exact⟨by rw[hany,zgt hri (by rw[hen,hco,hth];simp)];rfl,es3,hes3,rfl⟩
    ·have hth':(g.thr i=g.thr c)=False:=by simp[hth]
     simp -dsimp only[go_sem,seval,hth',h23];exact⟨by omega,by simp -dsimp only[go_sem,seval,h23,hw],⟨es2,hes2,rfl⟩,by rw[hany,zbT hri (by simp[hth])]⟩
   ·have hr1:((r:Int)>0)=False:=by simp;omega
    simp -dsimp only[go_sem,seval,hr1,h23];rw[decide_eq_false hr0,Bool.false_and]at hany;exact⟨by omega,by simp -dsimp only[go_sem,seval,h23,hw],⟨es2,hes2,rfl⟩,by rw[hany,decide_eq_false hr0,Bool.false_and]⟩
  ·have hin:i=g.msk.length:=by omega
   subst hin;have hrn:=zil (fun e=>decide (g.thr e=g.thr c)&&(g.couple c e&&g.ends (r-1) goal e m)) (List.range g.msk.length);rw[List.length_range]at hrn;rw[hrn,Bool.and_false]at hany;exact⟨by rw[hany];rfl,es2,hes2,rfl⟩
 ·simp -dsimp only[go_sem,seval];exact⟨by unfold Gr.opens;rw[he,Bool.true_or];rfl,es1,hes1,rfl⟩
theorem mask_lt {m t:Nat} (hm:m<16) (ht:t<4):m ||| 1<<< t<16:=by
 have h1:1<<< t<2^4:=by rw[Nat.one_shiftLeft];exact Nat.pow_lt_pow_right (by omega) ht
 exact Nat.or_lt_two_pow (n:=4) hm h1
theorem zlK {H:Nat->Option O} {kG kM kn:Nat} {cv:V} {p:Prog} {model:Int} {g:Gr} {f1 f2:Bool} (b:GrB H kG kM kn cv p model g f1 f2):PE H kG kn g 0:=by
 intro goal c m es n hg hc hm hes;have hT:=b.tree es;have hp:=b.pr_den hc hg
 (refine denR_ofY Γ315 rfl ?_;dsimp only[zqf])
 simp -dsimp only[go_sem,seval,↓hT,hp];exact⟨rfl,es,hes,rfl⟩
theorem zoW {H:Nat->Option O} {kG kM kn:Nat} {cv:V} {p:Prog} {model:Int} {g:Gr} {f1 f2:Bool} (b:GrB H kG kM kn cv p model g f1 f2) {r:Nat} (hr:r<100) (h1:PO H kG kn g r):PE H kG kn g (r+1):=by
 intro goal c m es n hg hc hm hes;have hT:=b.tree es;have hG:=b.rowM es;have hM:=b.mskM es;have hK:=HM_at H kn es;have hr0:(((r+1:Nat):Int)=0)=False:=by simp;omega
 have hkey:keyOf 88 (.agg [vi goal,vi c,vi m,vi ((r+1:Nat):Int)])=some (keyT goal c m (r+1)):=rfl;have hrl:=zdr g.ldAt g.qkAt kn
 have hd2:List.drop 512 (restV g.ldAt g.qkAt kn)=[.mm kn]:=by
  rw[restV,List.drop_append_of_le_length (by rw[List.length_append,zaU,zaU];omega),List.drop_of_length_le (by rw[List.length_append,zaU,zaU];omega)];rfl
 (refine denR_ofY Γ315 rfl ?_;dsimp only[zqf])
 simp -dsimp only[go_sem,seval,hr0,hG,hd2,hrl,hkey,hK];rcases zg1 goal c m (r+1) hes with hf | hf
 ·have hsz:=b.szL;have hlen:(rowsU g.msk).length=g.msk.length:=zbJ _;have hsu:=Gr.ends_succ g r goal c m;simp -dsimp only[go_sem,seval,hf,hG,hM,Option.getD_none,Option.isSome_none];refine zaj 4835703278454118652334080 g.msk.length (fun i f h x=>(f 42).v=vi i/\(f 12).v=vb false/\(∃es,zcb g es/\h=HM H kn es)/\g.ends (r+1) goal c m=((List.range g.msk.length).drop i).any fun d=>g.ok c d m&&g.opens r goal d (m ||| 1<<< g.thr d)) rfl ⟨by simp -dsimp only[go_sem,seval],by simp -dsimp only[go_sem,seval],⟨es,hes,rfl⟩,hsu⟩ ?_;clear hM hG hes hT hK hf;rintro i f u h x bs hi ⟨h42,h12,⟨es2,hes2,rfl⟩,hany⟩;have hw:=zah i (by omega);have hT:=b.tree es2;have hG:=b.rowM es2;have hM:=b.mskM es2;have hK:=HM_at H kn es2;simp -dsimp only[go_sem,seval,h42];refine csplit (fun h=> ?_) (fun h=> ?_)<;>(try rw[h])<;>(try simp only[zab]at h)<;>(try simp -dsimp only[go_sem,seval,h42])
  ·have hic:i<g.msk.length:=by assumption
   have ht1:=b.thr_den hic;have hpr:=b.pr_den hc hic;have hmk:g.msk[i]? =some (g.mks i):=by simp[Gr.mks,List.getD_eq_getElem?_getD,zI hic]
   have hrow:=zcS hmk;have hci:(i<g.msk.length)=True:=by simp[hic]
   have hz0:(((g.mks i:Nat):Int)=0)=(g.mks i=0):=by simp
   have hth:=b.thr_lt hic;have hsh:=zsU m (g.thr i) (by omega);have hms:m>>> g.thr i<2^62:=Nat.lt_of_le_of_lt (Nat.shiftRight_le _ _) (by omega);have han:=zqc hms;have hbt:=zpx (a:=m) (i:=g.thr i) (by omega);have hsl:=zqb (i:=g.thr i) (by omega);have hor:=zt9 (a:=m) (b:=1<<< g.thr i) (by omega) (by have:=mask_lt (m:=0) (by omega) hth;rw[Nat.zero_or]at this;omega);have hsb:IntKind.i64.wrap (((r+1:Nat):Int)-1)=((r:Nat):Int):=by rw[zan (by omega)];omega
   have hri:(List.range g.msk.length)[i]? =some i:=List.getElem?_range hic;simp -dsimp only[go_sem,seval,h42,hG,hM,hrow,hlen,hci,hz0]
   by_cases hm0:g.mks i=0
   ·simp -dsimp only[go_sem,seval,hm0,h42];have hno:(g.ok c i m&&g.opens r goal i (m ||| 1<<< g.thr i))=false:=by simp[Gr.ok,hm0]
    exact⟨by omega,by simp -dsimp only[go_sem,seval,h42,hw],by simp -dsimp only[go_sem,seval,h12],⟨es2,hes2,rfl⟩,by rw[hany,zbT hri hno]⟩
   ·have hm0':(g.mks i=0)=False:=by simp[hm0]
    simp -dsimp only[go_sem,seval,hm0',h42,↓hT,ht1,hsh,han,hbt,hpr];cases htb:m.testBit (g.thr i)
    ·simp -dsimp only[go_sem,seval,h42,↓hT,hpr];cases hpc:g.prec c i
     ·simp -dsimp only[go_sem,seval,h42];have hno:(g.ok c i m&&g.opens r goal i (m ||| 1<<< g.thr i))=false:=by simp[Gr.ok,hpc]
      exact⟨by omega,by simp -dsimp only[go_sem,seval,h42,hw],by simp -dsimp only[go_sem,seval,h12],⟨es2,hes2,rfl⟩,by rw[hany,zbT hri hno]⟩
     ·simp -dsimp only[go_sem,seval,h42,↓hT,ht1,hsl,hor,hsb];refine zav (h1 goal i (m ||| 1<<< g.thr i) es2 _ hg hic (mask_lt hm hth) hes2) ?_;rintro _ h' n' ⟨rfl,es3,hes3,rfl⟩;simp -dsimp only[go_sem,seval,h42];cases hop:g.opens r goal i (m ||| 1<<< g.thr i)
      ·simp -dsimp only[go_sem,seval,h42];have hno:(g.ok c i m&&g.opens r goal i (m ||| 1<<< g.thr i))=false:=by rw[hop,Bool.and_false]
       exact⟨by omega,by simp -dsimp only[go_sem,seval,h42,hw],by simp -dsimp only[go_sem,seval,h12],⟨es3,hes3,rfl⟩,by rw[hany,zbT hri hno]⟩
      ·have hyes:(g.ok c i m&&g.opens r goal i (m ||| 1<<< g.thr i))=true:=by simp[Gr.ok,hm0,htb,hpc,hop]
       rw[zgt hri hyes]at hany;obtain⟨es4,hp4,hes4⟩:=zge goal c m (r+1) hes3;rw[hany]at hp4;have hG3:=b.rowM es3;have hK3:=HM_at H kn es3;have hup:=zoa H kn es3 es4;simp -dsimp only[go_sem,seval,hG3,hd2,hrl,hkey,hK3,hp4,hup];exact⟨by rw[hany];rfl,es4,hes4,by rw[zau,zaq];exact hup⟩
    ·simp -dsimp only[go_sem,seval,h42];have hno:(g.ok c i m&&g.opens r goal i (m ||| 1<<< g.thr i))=false:=by simp[Gr.ok,htb]
     exact⟨by omega,by simp -dsimp only[go_sem,seval,h42,hw],by simp -dsimp only[go_sem,seval,h12],⟨es2,hes2,rfl⟩,by rw[hany,zbT hri hno]⟩
  ·have hin:i=g.msk.length:=by omega
   subst hin;have hrn:=zil (fun d=>g.ok c d m&&g.opens r goal d (m ||| 1<<< g.thr d)) (List.range g.msk.length);rw[List.length_range]at hrn;rw[hrn]at hany;obtain⟨es4,hp4,hes4⟩:=zge goal c m (r+1) hes2;rw[hany]at hp4;have hup:=zoa H kn es2 es4;simp -dsimp only[go_sem,seval,hG,hd2,hrl,hkey,hK,hp4,hup,h12];exact⟨by rw[hany];rfl,es4,hes4,by rw[zau,zaq];exact hup⟩
 ·simp -dsimp only[go_sem,seval,hf,Option.getD_some,Option.isSome_some];exact⟨rfl,es,hes,rfl⟩
theorem ends_all {H:Nat->Option O} {kG kM kn:Nat} {cv:V} {p:Prog} {model:Int} {g:Gr} {f1 f2:Bool} (b:GrB H kG kM kn cv p model g f1 f2): ∀r,r<100->PE H kG kn g r
 | 0,_=>zlK b
 | r+1,h=>zoW b (by omega) (opens_of b (by omega) (ends_all b r (by omega)) fun hr=>by
    cases r with
    | zero=>omega
    | succ r=>exact ends_all b r (by omega))
theorem zlv {L:List (Nat×O)}: ∀{h:Nat->Option O} {k:Nat},(∀x∈L,x.1≠k)->hpC h L k=h k:=by
 induction L with
 | nil=>intro h k _;rw[zaq]
 | cons x L ih=>
   intro h k hx;rw[show x=(x.1,x.2)from rfl,zau,ih fun y hy=>hx y (List.mem_cons_of_mem _ hy),zac,if_neg (fun e=>hx x List.mem_cons_self e.symm)]
theorem zoP {k:Nat} {o:O}: ∀{L:List (Nat×O)} {h:Nat->Option O},(∀x∈L,x.1=k->x.2=o)->hpC h L k=h k\/hpC h L k=some o:=by
 intro L
 induction L with
 | nil=>intro h _;rw[zaq];exact .inl rfl
 | cons x L ih=>
   intro h hx;rw[show x=(x.1,x.2)from rfl,zau];rcases ih (h:=updC h x.1 (some x.2)) (fun y hy=>hx y (List.mem_cons_of_mem _ hy))with h1 | h1
   ·rw[h1,zac];split
    ·rename_i he;rw[hx x List.mem_cons_self he.symm];exact .inr rfl
    ·exact .inl rfl
   ·exact .inr h1
theorem zgh {h:Nat->Option O} {L:List Nat} {k sz:Nat} {rs:List (List V)} {f:Bool} (hk:h k=some (.rows sz rs f)): ∃f',hpC h (freezes h L) k=some (.rows sz rs f'):=by
 have:=zoP (k:=k) (o:=.rows sz rs true) (L:=freezes h L) (h:=h) (by
  intro x hx he;simp only[freezes,List.mem_filterMap]at hx;obtain⟨j,_,hj⟩:=hx;split at hj
  ·rename_i sz' rs' f' hq;cases hj;simp only at he;subst he;rw[hk]at hq;cases hq;rfl
  ·cases hj)
 rcases this with h1 | h1
 ·exact⟨f,by rw[h1,hk]⟩
 ·exact⟨true,h1⟩
theorem zoO {h:Nat->Option O} {L:List Nat} {k:Nat} {es:List (T×V)} (hk:h k=some (.map es)):hpC h (freezes h L) k=some (.map es):=by
 rw[<- hk];refine zlv fun x hx he=> ?_
 simp only[freezes,List.mem_filterMap]at hx;obtain⟨j,_,hj⟩:=hx;split at hj
 ·rename_i sz' rs' f' hq;cases hj;simp only at he;subst he;rw[hk]at hq;cases hq
 ·cases hj
theorem GrB.frz {H:Nat->Option O} {kG kM kn:Nat} {cv:V} {p:Prog} {model:Int} {g:Gr} {f1 f2:Bool} (b:GrB H kG kM kn cv p model g f1 f2) (es:List (T×V)) (L:List Nat):
 ∃H' f1' f2',hpC (HM H kn es) (freezes (HM H kn es) L)=HM H' kn es/\GrB H' kG kM kn cv p model g f1' f2':=by
 obtain⟨f1',h1⟩:=zgh (L:=L) (b.rowM es);obtain⟨f2',h2⟩:=zgh (L:=L) (b.mskM es);have h3:=zoO (L:=L) (HM_at H kn es);refine⟨hpC (HM H kn es) (freezes (HM H kn es) L),f1',f2',?_,⟨h1,?_,h2,b.neG,b.neM,b.off,b.ok,b.nt4,b.nc,b.cl,b.nt⟩⟩
 ·funext k
  by_cases hk:k=kn
  ·subst hk;rw[HM_at,h3]
  ·rw[zmb _ _ hk]
 ·rcases b.clsM es with h | ⟨k,f,rfl,hk⟩
  ·exact .inl h
  ·obtain⟨f',h4⟩:=zgh (L:=L) hk;exact .inr ⟨k,f',rfl,h4⟩
end Rg
end
section
namespace Rg
open Go
theorem grM_ask {p:Prog} (hp:p.ok) (model:Int):AskT (p.cells.map Cell.enc) (p.modules.map Contract.enc) (p.locks.map Lock.enc) (p.threads.map Thread.enc) model (grM p model):=by
 obtain⟨⟨l1,l2,l3,l4⟩,l5⟩:=limits_iff.1 (ok_iff.1 hp).lim
 have hal:(accsM p).length<2^20:=by
  have:=zb9 p l1 (fun x hx=>(l5 x hx).2.1) _ (Nat.le_refl _);unfold accsM;omega
 refine⟨grM_ok hp model,l4,by simp[grM],by simpa using l1,by simp[grM],hal,fun i hi=> ?_,fun i hi=> ?_⟩
 ·have hma:(grM p model).ac i∈accsM p:=Gr.ac_mem (g:=grM p model) hi;obtain⟨x,s,hx1,hx2,_⟩:=zel.1 hma;have hear:(grM p model).ear ((grM p model).ac i)=(((grM p model).ac i).wr&&decide (s.kind=3)):=by show(_&&decide ((p.stepAt _ _).kind=3))=_;rw[zet hx1 hx2]
  rw[hear];exact zjA _ _ _ (p.threads.map Thread.enc) (x.steps.map Step.enc) _ _ _ _ _ _ _ _ _ _ _ _ _ _ _ _ _ s.kind _ _ _ _ (by rw[zJ,hx1];rfl) (by rw[zJ,hx2,Option.map_some,Step.enc,Expr.enc_eq];rfl)
 ·have hma:(grM p model).ac i∈accsM p:=Gr.ac_mem (g:=grM p model) hi;obtain⟨x,s,hx1,hx2,_⟩:=zel.1 hma;have hlat:(grM p model).lat ((grM p model).ac i)=lateM model s.kind s.release ((grM p model).ac i).wr:=by show lateM model (p.stepAt _ _).kind (p.stepAt _ _).release _=_;rw[zet hx1 hx2]
  rw[hlat];exact zlu _ _ _ (p.threads.map Thread.enc) (x.steps.map Step.enc) _ _ _ _ _ _ _ _ _ _ _ _ _ _ _ _ s.kind model s.release _ _ _ _ (by rw[zJ,hx1];rfl) (by rw[zJ,hx2,Option.map_some,Step.enc,Expr.enc_eq];rfl)
theorem zoZ (d:Bool) (h:Nat->Option O) (vs:List V) (K:V->(Nat->Option O)->Prop) (w:WK K):zid (some (.t (.sl []))) d h vs K w=K (.t (.sl [])) h:=by
 simp[zid,V.scalar,V.scalar2,V.scalar1,T.scalar]
theorem GrB.frzK {H:Nat->Option O} {kG kM kn:Nat} {cv:V} {p:Prog} {model:Int} {g:Gr} {f1 f2:Bool} (b:GrB H kG kM kn cv p model g f1 f2) {es:List (T×V)} {vs:List V} {r:V} {K:V->(Nat->Option O)->Prop}
 (hk: ∀H' f1' f2',GrB H' kG kM kn cv p model g f1' f2'->K r (HM H' kn es)):Rg.frzK (HM H kn es) vs r K:=by
 obtain⟨H',f1',f2',h1,b'⟩:=b.frz es (vs.flatMap (reach1 (HM H kn es)));unfold Rg.frzK;rw[h1];exact hk _ _ _ b'
def zkd:Option Nat->V
 | none=> .tup [vi 0,vb false]
 | some r=> .tup [vi r,vb true]
set_option maxHeartbeats 2000000
theorem shortest_den {H:Nat->Option O} {kG kM kn:Nat} {cv:V} {p:Prog} {model:Int} {g:Gr} {f1 f2:Bool} (b:GrB H kG kM kn cv p model g f1 f2)
 (ha:AskT (p.cells.map Cell.enc) (p.modules.map Contract.enc) (p.locks.map Lock.enc) (p.threads.map Thread.enc) model g) (es:List (T×V)) (hes:zcb g es) (n:Nat):
 ∃rr h' n',DenR Γ G 301 [.mp kG 0 0] (HM H kn es) n=some (rr,h',n')/\rr=zkd g.shortest/\ ∃H' f1' f2' es',GrB H' kG kM kn cv p model g f1' f2'/\zcb g es'/\h'=HM H' kn es':=by
 have hpd:=zkL ha;have hT:=b.tree es;have hpl:=fun c d=>(Gr.mem_pairs (g:=g) (c:=c) (d:=d)).1
 (refine denR_ofY Γ301 rfl ?_;dsimp only[f301])
 cases hp:g.pairs with
 | nil=>
   have hsn:g.shortest=none:=by
    rw[Gr.shortest_none];intro r _ _;unfold Gr.atRest;rw[hp];rfl
   rw[hp]at hpd;have hpd2:Den Γ G 314 [.t (grT (p.cells.map Cell.enc) (p.modules.map Contract.enc) (p.locks.map Lock.enc) (p.threads.map Thread.enc) model g)]=some (.t (.sl [])):=hpd;simp -dsimp only[go_sem,seval,↓hT,hpd2,zoZ]
   exact⟨by rw[hsn];rfl,H,f1,f2,es,b,hes,rfl⟩
 | cons x l=>
   rw[hp]at hpd;have hpd2:Den Γ G 314 [.t (grT (p.cells.map Cell.enc) (p.modules.map Contract.enc) (p.locks.map Lock.enc) (p.threads.map Thread.enc) model g)]=some (.t (.sl (pairT x::l.map pairT))):=hpd;simp -dsimp only[go_sem,seval,↓hT,hpd2,znn];refine b.frzK fun H1 e1 e2 b1=> ?_
   rw[show pairT x::l.map pairT=(x::l).map pairT from rfl,<- hp];have hne:(((g.pairs.length:Nat):Int)=0)=False:=by rw[hp];simp;omega
   have hN:g.nt<=4:=b.nt4;have hnt:=b.nt;simp -dsimp only[go_sem,seval,hne];have hsh:g.shortest=(((List.range (2*(g.nt-1))).map (· +1)).drop 0).find? g.atRest:=rfl;have hm1:IntKind.i64.wrap ((p.threads.length:Int)-1)=(p.threads.length:Int)-1:=zan (by omega);have hm2:IntKind.i64.wrap (2*((p.threads.length:Int)-1))=2*((p.threads.length:Int)-1):=zan (by omega)
   have hmp: ∀x∈g.pairs,x.1<g.msk.length/\x.2<g.msk.length:=by
    rintro⟨c,d⟩ hx;have:=hpl c d hx;exact⟨this.1,this.2.1⟩
   refine zaj 35184372080812 (2*(g.nt-1)) (fun i f h x=>(f 5).v=vi ((i+1:Nat):Int)/\(∃es,zcb g es/\h=HM H1 kn es)/\g.shortest=(((List.range (2*(g.nt-1))).map (· +1)).drop i).find? g.atRest) rfl ⟨by simp -dsimp only[go_sem,seval],⟨es,hes,rfl⟩,hsh⟩ ?_;clear hT b hpd hpd2 hsh hes;rintro i f u h z bs hi ⟨h5,⟨es1,hes1,rfl⟩,hfi⟩;have hG:=b1.rowM es1;have hw:=zah (i+1) (by omega);simp -dsimp only[go_sem,seval,h5,hG,hm1,hm2];refine csplit (fun h=> ?_) (fun h=> ?_)<;>(try rw[h])<;>(try simp only[zab]at h)<;>(try simp -dsimp only[go_sem,seval,h5])
   ·have hi2:i<2*(g.nt-1):=by omega
    have hri:((List.range (2*(g.nt-1))).map (· +1))[i]? =some (i+1):=by rw[zJ,List.getElem?_range hi2];rfl
    refine zaj 35184237871244 g.pairs.length (fun j f h x=>(f 27).v=vi j/\(∃es,zcb g es/\h=HM H1 kn es)/\g.atRest (i+1)=(g.pairs.drop j).any fun x=>g.ends (i+1) x.1 x.2 (1<<< g.thr x.2)) rfl ⟨by simp -dsimp only[go_sem,seval],⟨es1,hes1,rfl⟩,rfl⟩ ?_;clear hG hes1;rintro j f2 u2 h2 z2 bs2 hj ⟨h27,⟨es2,hes2,rfl⟩,hany⟩
    have hw2:=zah j (by have:g.pairs.length<2^20:=by
                         have h1:=Gr.pairsN_len (g:=g) g.msk.length;have h2:=b1.szL;have h3:g.msk.length*g.msk.length<=288*288:=Nat.mul_le_mul (by omega) (by omega);rw[Gr.pairsN_all]at h1;omega
                        omega)
    simp -dsimp only[go_sem,seval,h27];refine csplit (fun h=> ?_) (fun h=> ?_)<;>(try rw[h])<;>(try simp only[zab]at h)<;>(try simp -dsimp only[go_sem,seval,h27])
    ·obtain⟨⟨c,d⟩,hx,hxm⟩:=zaf ‹j<g.pairs.length›;obtain⟨hc,hd⟩:=hmp _ hxm;simp only at hc hd;have hT:=b1.tree es2;have htd:=b1.thr_den hd;have hth:=b1.thr_lt hd;have hsl:=zqb (i:=g.thr d) (by omega);simp -dsimp only[go_sem,seval,h27,hx,↓hT,htd,hsl,pairT,h5];refine zav (ends_all b1 (i+1) (by omega) c d (1<<< g.thr d) es2 _ hc hd (by have:=mask_lt (m:=0) (by omega) hth;rw[Nat.zero_or]at this;exact this) hes2) ?_;rintro _ h' n' ⟨rfl,es3,hes3,rfl⟩;simp -dsimp only[go_sem,seval,h5];cases hen:g.ends (i+1) c d (1<<< g.thr d)
     ·simp -dsimp only[go_sem,seval,h27];exact⟨by omega,by simp -dsimp only[go_sem,seval,h27,hw2],⟨es3,hes3,rfl⟩,by rw[hany,zbT hx (by simpa using hen)]⟩
     ·simp -dsimp only[go_sem,seval,h5];rw[zgt hx (by simpa using hen)]at hany;rw[zba hri,List.find?_cons_of_pos hany]at hfi;exact⟨by rw[hfi];rfl,H1,e1,e2,es3,b1,hes3,rfl⟩
    ·have hjn:j=g.pairs.length:=by omega
     subst hjn;rw[zil]at hany;rw[zba hri,List.find?_cons_of_neg (by rw[hany];simp)]at hfi;simp -dsimp only[go_sem,seval,h5];exact⟨by omega,by simp -dsimp only[go_sem,seval,hw],⟨es2,hes2,rfl⟩,hfi⟩
   ·have hin:i=2*(g.nt-1):=by omega
    subst hin;rw[List.drop_of_length_le (by simp),List.find?_nil]at hfi;exact⟨by rw[hfi];rfl,H1,e1,e2,es1,b1,hes1,rfl⟩
end Rg
end
section
namespace Rg
open Go
theorem GrObj.grB {H:Nat->Option O} {n kG:Nat} {p:Prog} {model:Int} (hp:p.ok) (h:GrObj H n kG p model (grM p model)): ∃kM kn cv,GrB H kG kM kn cv p model (grM p model) false false/\H=HM H kn []:=by
 obtain⟨cv,kM,kn,h1,h2,h3,h4,_,_,_⟩:=h.ex;obtain⟨⟨l1,l2,l3,l4⟩,l5⟩:=limits_iff.1 (ok_iff.1 hp).lim;refine⟨kM,kn,cv,⟨h1,?_,h3,?_,?_,h2.offM h4,grM_ok hp model,l4,rfl,l1,rfl⟩,?_⟩
 ·refine OwnB.shw (es:=(grM p model).cls.map fun c:Nat=>[ti c]) (x:=n) ?_;have e:rowsI ((grM p model).cls.map fun c:Nat=>(c:Int))=((grM p model).cls.map fun c:Nat=>[ti c]).map (·.map V.t):=by simp only[rowsI,List.map_map];rfl
  rw[<- e];exact h2
 ·rintro rfl;rw[h1]at h4;cases h4
 ·rintro rfl;rw[h3]at h4;cases h4
 ·funext k
  by_cases hk:k=kn
  ·subst hk;rw[HM_at,h4]
  ·rw[zmb _ _ hk]
theorem zhy (p:Prog) (hs:p.sane):Den Γ G 299 [(.agg [.t (.sl ((p).cells.map (Cell.enc))),.t (.sl ((p).modules.map (Contract.enc))),.t (.sl ((p).locks.map (Lock.enc))),.t (.sl ((p).threads.map (Thread.enc)))])]=some (vb (validB p)):=by
 have hv:=zep p hs
 (refine den_ofY Γ299 rfl ?_;dsimp only[f299])
 simp -dsimp only[go_sem,seval,hv];rfl
theorem zcT (p:Prog) (hs:p.sane) (hset: ∀x∈p.threads,∀s∈x.steps,s.set.length<2^20) (model:Int):Den Γ G 289 [(.agg [.t (.sl ((p).cells.map (Cell.enc))),.t (.sl ((p).modules.map (Contract.enc))),.t (.sl ((p).locks.map (Lock.enc))),.t (.sl ((p).threads.map (Thread.enc)))]),vi model]=some (vb (robM p model)):=by
 have hv:=zhy p hs
 (refine den_ofY Γ289 rfl ?_;dsimp only[zrI])
 simp -dsimp only[go_sem,seval,hv];unfold robM;cases h:validB p
 ·simp -dsimp only[go_sem,seval];rfl
 ·have hp:p.ok:=by simpa[validB]using h
  simp -dsimp only[go_sem,seval];refine zav (build_den p hp hset model _ _) ?_;rintro _ h1 n1 ⟨kG,rfl,hg⟩;obtain⟨kM,kn,cv,b,hH⟩:=hg.grB hp;simp -dsimp only[go_sem,seval];rw[hH];refine zav (shortest_den b (grM_ask hp model) [] (fun e he=>by cases he) _) ?_;rintro _ h2 n2 ⟨rfl,H',f1',f2',es',b',hes',rfl⟩
  cases hsn:(grM p model).shortest with
  | none=>
    simp -dsimp only[go_sem,seval,zkd]
    rfl
  | some r=>
    simp -dsimp only[go_sem,seval,zkd];rfl
def zpD (p:Prog) (i:Nat) (x:Thread):Prop:=
 isLabel x.name=true/\(p.threads.take i).any (fun d=>d.name.toList==x.name.toList)=false/\(1<=x.points/\(x.asserts.length:Int)=x.points/\(x.modules.length:Int)=x.points)/\
  x.modules.all (fun m=>inR m p.modules.length)=true/\x.asserts.all (fun e=>truthOk p e false i)=true
def zsD (p:Prog):Prop:=(limitsM p).1=0/\cellsM p=0/\modulesM p=0/\locksM p=0
structure AtStep (p:Prog) (e:Int) (t s:Nat) (x:Thread) (y:Step):Prop where
 pre:zsD p
 before: ∀(j:Nat) (z:Thread),j<t->p.threads[j]? =some z->(threadErr p j z).1=0
 hx:p.threads[t]? =some x
 tp:zpD p t x
 hy:x.steps[s]? =some y
 steps: ∀(k:Nat) (z:Step),k<s->x.steps[k]? =some z->stepErr p t x.points z=0
 err:stepErr p t x.points y=e
 ne:e≠0
end Rg
end
section
namespace Rg
open Go
section
variable {p:Prog} {i k:Nat} {x:Thread}
end
end Rg
end
section
namespace Rg
open Go
section
variable {p:Prog} {i:Nat} {x x' : Thread}
def zxU:Expr:=.mk 1 1 1 []
theorem zxE (p:Prog) (pr:Bool) (t:Int):truthOk p zxU pr t=true:=by
 have h1:zxU.one=true:=by decide+kernel
 unfold truthOk overOk;rw[zj4 h1 3 (by decide),zj4 h1 2 (by decide)]
 have hv:zxU.valid p.cells pr=true:=by
  have hf:zxU.formed=true:=by decide+kernel
  simp only[Expr.valid,hf,Bool.true_and];simp[zxU,Expr.allE_eq,leafOk,Expr.kids,Expr.op]
 rw[hv];rfl
end
end Rg
end
section
namespace Rg
open Go
theorem zxv {p:Prog} {model:Int} {f:Acc->Bool} {c j:Nat}:((grM p model).maskF f c (accsM p).length).testBit j=true<-> ∃a∈accsM p,f a=true/\clsM p a=c/\a.st=j:=by
 rw[Gr.maskF_bit]
 have e:((grM p model).all.zip (grM p model).cls)=(accsM p).map fun a=>(a,clsM p a):=by
  show(accsM p).zip ((accsM p).map (clsM p))=_
  generalize accsM p=l
  induction l with
  | nil=>rfl
  | cons x l ih=>simp[ih]
 rw[e,List.take_of_length_le (by simp)];constructor
 ·rintro⟨q,h1,h2,h3,h4⟩;obtain⟨a,ha,rfl⟩:=List.mem_map.1 h1;exact⟨a,ha,h2,h3,h4⟩
 ·rintro⟨a,ha,h2,h3,h4⟩;exact⟨_,List.mem_map.2 ⟨a,ha,rfl⟩,h2,h3,h4⟩
theorem zxW {p:Prog} (h:p.ok) {model:Int} {c j:Nat}:((grM p model).mks c).testBit j=true<-> ∃a∈accsM p,clsM p a=c/\a.st=j:=by
 rw[(grM_ok h model).mk_bit]
 have hcl: ∀i,i<(accsM p).length->(grM p model).cl i=clsM p ((grM p model).ac i):=by
  intro i hi;simp only[Gr.cl,Gr.ac,grM,List.getD_eq_getElem?_getD,zJ,zI hi];rfl
 constructor
 ·rintro⟨i,hi,h1,h2⟩;exact⟨_,Gr.ac_mem (g:=grM p model) hi,by rw[<- hcl i hi];exact h1,h2⟩
 ·rintro⟨a,ha,h1,h2⟩;obtain⟨i,hi,rfl⟩:=List.mem_iff_getElem.1 ha
  have e2:(grM p model).ac i=(accsM p)[i]:=by
   simp[Gr.ac,grM,List.getD_eq_getElem?_getD,zI hi]
  exact⟨i,hi,by rw[hcl i hi,e2];exact h1,by rw[e2];exact h2⟩
structure Gr.Sub (a b:Gr):Prop where
 nc:a.nc=b.nc
 nt:a.nt=b.nt
 len:a.msk.length=b.msk.length
 mks: ∀c,zmc (a.mks c) (b.mks c)
 ld: ∀c,a.mks c≠0->a.ld.getD (a.thr c) []=b.ld.getD (b.thr c) []
 ea: ∀c,zmc (a.eaM c) (b.eaM c)
 la: ∀c,zmc (a.laM c) (b.laM c)
 qk: ∀c,a.eaM c≠0->a.qk.getD (a.thr c) []=b.qk.getD (b.thr c) []
namespace Gr.Sub
variable {a b:Gr} (h:a.Sub b)
include h
theorem sz:a.sz=b.sz:=by unfold Gr.sz;rw[h.nc,h.nt]
theorem thr (c:Nat):a.thr c=b.thr c:=by unfold Gr.thr;rw[h.sz]
theorem prec (c d:Nat):a.prec c d=b.prec c d:=by unfold Gr.prec;rw[h.nc,h.nt]
theorem ok {c d m:Nat} (hk:a.ok c d m=true):b.ok c d m=true:=by
 simp only[Gr.ok,zF,decide_eq_true_eq]at hk⊢;refine⟨(h.mks d).ne hk.1,?_,?_⟩
 ·rw[<- h.thr];exact hk.2.1
 ·rw[<- h.prec];exact hk.2.2
theorem couple {c d:Nat} (hk:a.couple c d=true):b.couple c d=true:=by
 unfold Gr.couple at hk⊢
 have h0:a.mks c≠0:=by
  intro h0;rw[h0]at hk;obtain⟨i,j,_,h1,_⟩:=zeI.1 hk;simp at h1
 rw[h.ld c h0]at hk;exact zdR (h.mks c) (h.mks d) (fun _ _ _ h=>h) hk
theorem ends: ∀(r goal c m:Nat),a.ends r goal c m=true->b.ends r goal c m=true
 | 0,goal,c,m,hk=>by rw[Gr.ends]at hk⊢;rw[<- h.prec];exact hk
 | 1,goal,c,m,hk=>by
   rw[Gr.ends,List.any_eq_true]at hk⊢;obtain⟨d,h1,h2⟩:=hk;rw[zF]at h2;refine⟨d,by rw[<- h.len];exact h1,?_⟩
   rw[h.ok h2.1,<- h.thr,ends 0 _ _ _ h2.2];rfl
 | r+2,goal,c,m,hk=>by
   rw[Gr.ends,List.any_eq_true]at hk⊢;obtain⟨d,h1,h2⟩:=hk;rw[zF,Bool.or_eq_true,List.any_eq_true]at h2;refine⟨d,by rw[<- h.len];exact h1,?_⟩;rw[h.ok h2.1,<- h.thr,Bool.true_and,Bool.or_eq_true,List.any_eq_true];rcases h2.2 with h3 | ⟨e,h3,h4⟩
   ·exact .inl (ends (r+1) _ _ _ h3)
   ·simp only[zF,decide_eq_true_eq]at h4;exact .inr ⟨e,by rw[<- h.len];exact h3,by rw[<- h.thr,h.couple h4.2.1,ends r _ _ _ h4.2.2];simp[h4.1]⟩
theorem isPair {c d:Nat} (hk:a.isPair c d=true):b.isPair c d=true:=by
 rw[Gr.isPair_iff]at hk⊢;obtain⟨h1,h2,h3,h4,h5⟩:=hk;refine⟨(h.ea c).ne h1,(h.la d).ne h2,by rw[<- h.thr,<- h.thr];exact h3,h4,?_⟩;rw[h.qk c h1]at h5;exact zdR (h.ea c) (h.la d) (fun _ _ _ h=>h) h5
theorem shortest (hb:b.shortest=none):a.shortest=none:=by
 rw[Gr.shortest_none]at hb⊢;intro r h1 h2;have:=hb r h1 (by rw[<- h.nt];exact h2);cases hr:a.atRest r
 ·rfl
 ·obtain⟨c,d,k1,k2,k3,k4⟩:=Gr.atRest_iff.1 hr;rw[show b.atRest r=true from Gr.atRest_iff.2 ⟨c,d,by rw[<- h.len];exact k1,by rw[<- h.len];exact k2,h.isPair k3,by rw[<- h.thr];exact h.ends _ _ _ _ k4⟩]at this;exact this
end Gr.Sub
section
variable {p:Prog} {t:Nat} {x:Thread}
end
end Rg
end
section
namespace Rg
open Go
def cntB (b:Nat->Bool) (n:Nat):Nat:=((List.range n).filter b).length
def newB (b:Nat->Bool) (n:Nat):Nat:=n+cntB b n
def fencedL (b:Nat->Bool) (n:Nat):List Nat:=(List.range n).filter b
theorem zdB (b:Nat->Bool) (n:Nat):cntB b (n+1)=cntB b n+if b n then 1 else 0:=by
 unfold cntB;rw[List.range_succ,List.filter_append,List.length_append,List.filter_cons];cases b n<;>rfl
theorem zgX (b:Nat->Bool) (n:Nat):newB b (n+1)=newB b n+1+if b n then 1 else 0:=by
 unfold newB;rw[zdB];omega
theorem zcJ (b:Nat->Bool): ∀n,cntB b n<=n
 | 0=>Nat.le_refl 0
 | n+1=>by rw[zdB];have:=zcJ b n;split<;>omega
theorem zoF {b:Nat->Bool} {m n:Nat} (h:m<n):newB b m+(if b m then 1 else 0)<newB b n:=by
 induction n with
 | zero=>omega
 | succ n ih=>
   rw[zgX]
   by_cases e:m=n
   ·subst e;split<;>omega
   ·have:=ih (by omega);split at * <;>(split<;>omega)
theorem zhm {a b:Nat->Bool} (h: ∀n,a n=true->b n=true): ∀n,cntB a n<=cntB b n
 | 0=>Nat.le_refl 0
 | n+1=>by
   rw[zdB,zdB];have:=zhm h n;have h2:=h n;cases ha:a n
   ·simp;omega
   ·rw[h2 ha];simp;omega
def dupL {α:Type} (b:Nat->Bool) (l:List α):List α:=l.zipIdx.flatMap fun q=>if b q.2 then [q.1,q.1]else [q.1]
theorem zdA {α:Type} (b:Nat->Bool) {l:List α} {n:Nat} {x:α} (h:l[n]? =some x):dupL b (l.take (n+1))=dupL b (l.take n)++if b n then [x,x]else [x]:=by
 have hn:=(zH.1 h).1;unfold dupL;rw[zae h,List.zipIdx_append,List.flatMap_append]
 congr 1
 have:(l.take n).length=n:=by simp;omega
 simp[this]
theorem zeo {α:Type} (b:Nat->Bool) (l:List α): ∀n,n<=l.length->(dupL b (l.take n)).length=newB b n
 | 0,_=>rfl
 | n+1,h=>by
   obtain⟨x,hx,_⟩:=zaf (show n<l.length by omega);rw[zdA b hx,List.length_append,zeo b l n (by omega),zgX];cases b n<;>rfl
theorem ze3 {α:Type} (b:Nat->Bool) (l:List α):(dupL b l).length=newB b l.length:=by
 have:=zeo b l l.length (Nat.le_refl _);rwa[List.take_length]at this
theorem dupL_mem {α:Type} {b:Nat->Bool} {l:List α} {x:α}:x∈dupL b l<->x∈l:=by
 unfold dupL;rw[List.mem_flatMap];constructor
 ·rintro⟨q,hq,hx⟩;have:x=q.1:=by split at hx<;>simp at hx<;>exact hx
  subst this;exact(List.mem_zipIdx hq).2.2▸List.getElem_mem _
 ·intro h;obtain⟨i,hi,rfl⟩:=List.mem_iff_getElem.1 h;refine⟨(l[i],i),?_,by split<;>simp⟩;rw[List.mem_zipIdx_iff_getElem?];simp[zI hi]
def zoE (b:Nat->Bool) (x:Int):Int:=newB b x.toNat
def Step.ins (b:Nat->Bool) (s:Step):Step:={ s with fr:=zoE b s.fr+(if b s.fr.toNat then 1 else 0),to:=zoE b s.to }
def firstS (x:Thread) (f:Int):Step:=(x.steps.find? fun s=>decide (s.fr=f)).getD default
def fenceS (b:Nat->Bool) (x:Thread) (f:Nat):Step:=⟨5,(newB b f:Nat),(newB b f:Int)+1,.mk 1 1 1 [],[],false,0,(firstS x f).module⟩
def loopB (b:Nat->Bool) (l:Loop) (n:Nat):List Int:=
 (if(n:Int)∈l.body then [(newB b n:Int)]else [])++(if b n&&(decide ((n:Int)∈l.body)||decide ((n:Int)=l.head))then [(newB b n:Int)+1]else [])
def loopBN (b:Nat->Bool) (l:Loop) (n:Nat):List Int:=(List.range n).flatMap (loopB b l)
theorem zdi (b:Nat->Bool) (l:Loop) (n:Nat):loopBN b l (n+1)=loopBN b l n++loopB b l n:=by
 unfold loopBN;rw[List.range_succ,List.flatMap_append];simp
theorem zdS (b:Nat->Bool) (l:Loop): ∀n,(loopBN b l n).length<=2*n
 | 0=>Nat.le_refl 0
 | n+1=>by
   have:=zdS b l n;have h2:(loopB b l n).length<=2:=by unfold loopB;split<;>split<;>simp
   rw[zdi,List.length_append];omega
def Loop.ins (b:Nat->Bool) (n:Nat) (l:Loop):Loop:=⟨zoE b l.head,loopBN b l n,l.variant⟩
def Thread.ins (b:Nat->Bool) (x:Thread):Thread:=
 ⟨x.name,x.points+cntB b x.points.toNat,dupL b x.asserts,dupL b x.modules,x.steps.map (Step.ins b)++(fencedL b x.points.toNat).map (fenceS b x),x.loops.map (Loop.ins b x.points.toNat),x.asleep⟩
def Prog.ins (B:Nat->Nat->Bool) (p:Prog):Prog:={ p with threads:=p.threads.mapIdx fun t x=>x.ins (B t) }
def zgW (b:Nat->Bool) (x:Thread):Bool:=decide (x.points+cntB b x.points.toNat>48)||decide ((x.steps.length:Int)+cntB b x.points.toNat>64)
def zhW (B:Nat->Nat->Bool) (p:Prog):Bool:=(p.threads.zipIdx).any fun q=>zgW (B q.2) q.1
abbrev Pl:=Nat×Nat
def Pl.enc (x:Pl):List T:=[ti x.1,ti x.2]
attribute [go_sem] Pl.enc
def znZ (p:Prog) (x:Pl):Prop:= ∃y,p.threads[x.1]? =some y/\x.2<y.steps.length
def ptB (p:Prog) (l:List Pl) (t n:Nat):Bool:=l.any fun x=>decide (x.1=t)&&decide ((p.stepAt x.1 x.2).fr=n)
theorem zf7 {p:Prog} {l:List Pl} {t n:Nat}:ptB p l t n=true<-> ∃x∈l,x.1=t/\(p.stepAt x.1 x.2).fr=n:=by
 simp[ptB]
theorem zmO {p:Prog} {a b:List Pl} (h: ∀x∈a,x∈b) {t n:Nat} (hb:ptB p a t n=true):ptB p b t n=true:=by
 rw[zf7]at hb⊢;obtain⟨x,hx,h1⟩:=hb;exact⟨x,h x hx,h1⟩
def zeroP:Prog:=⟨[],[],[],[]⟩
def insM (p:Prog) (l:List Pl):Prog×Int:=if zhW (ptB p l) p then(zeroP,2)else(p.ins (ptB p l),0)
theorem zk7 {p:Prog} {A B:Nat->Nat->Bool} (h: ∀t n,A t n=true->B t n=true) (hA:zhW A p=true):zhW B p=true:=by
 unfold zhW at hA⊢;rw[List.any_eq_true]at hA⊢;obtain⟨q,hq,h1⟩:=hA;refine⟨q,hq,?_⟩;have:=zhm (h q.2) q.1.points.toNat;simp only[zgW,Bool.or_eq_true,decide_eq_true_eq]at h1⊢;omega
def isFirst (x:Thread) (i:Nat):Bool:=decide ((x.steps.take i).all fun s=>decide (s.fr≠(x.steps.getD i default).fr))
def zlY (t:Nat) (x:Thread):List Pl:=((List.range x.steps.length).filter (isFirst x)).map fun i=>(t,i)
def candN (p:Prog) (k:Nat):List Pl:=(p.threads.take k).zipIdx.flatMap fun q=>zlY q.2 q.1
def candM (p:Prog):List Pl:=candN p p.threads.length
theorem zdU {p:Prog} {k:Nat} {x:Thread} (h:p.threads[k]? =some x):candN p (k+1)=candN p k++zlY k x:=by
 have hn:=(zH.1 h).1;unfold candN;rw[zae h,List.zipIdx_append,List.flatMap_append]
 congr 1
 have:(p.threads.take k).length=k:=by simp;omega
 simp[this]
theorem znB {p:Prog} {x:Pl}:x∈candM p<-> ∃y,p.threads[x.1]? =some y/\x.2<y.steps.length/\isFirst y x.2=true:=by
 unfold candM candN;rw[List.take_length,List.mem_flatMap];constructor
 ·rintro⟨q,hq,hx⟩;rw[List.mem_zipIdx_iff_getElem?]at hq;simp only[zlY,List.mem_map,List.mem_filter,List.mem_range]at hx;obtain⟨i,⟨h1,h2⟩,rfl⟩:=hx;exact⟨q.1,hq,h1,h2⟩
 ·rintro⟨y,hy,h1,h2⟩;refine⟨(y,x.1),by rw[List.mem_zipIdx_iff_getElem?];exact hy,?_⟩;simp only[zlY,List.mem_map,List.mem_filter,List.mem_range];exact⟨x.2,⟨h1,h2⟩,rfl⟩
theorem zlX {p:Prog} {x:Pl} (h:x∈candM p):znZ p x:=by
 obtain⟨y,h1,h2,_⟩:=znB.1 h;exact⟨y,h1,h2⟩
def combs {α:Type}:Nat->List α->List (List α)
 | 0,_=>[[]]
 | _+1,[]=>[]
 | k+1,x::r=>(combs k r).map (x:: ·)++combs (k+1) r
theorem combs_mem {α:Type}: ∀(k:Nat) (l s:List α),s∈combs k l<->s.Sublist l/\s.length=k
 | 0,l,s=>by
   rw[combs,List.mem_singleton];constructor
   ·rintro rfl;exact⟨List.nil_sublist _,rfl⟩
   ·rintro⟨_,h⟩;exact List.length_eq_zero_iff.1 h
 | k+1,[],s=>by
   simp only[combs,List.not_mem_nil,List.sublist_nil,false_iff]
   rintro⟨rfl,h⟩;simp at h
 | k+1,x::r,s=>by
   rw[combs,List.mem_append,List.mem_map,combs_mem (k+1) r s];constructor
   ·rintro(⟨u,hu,rfl⟩ | ⟨h1,h2⟩)
    ·rw[combs_mem k r u]at hu;exact⟨hu.1.cons_cons x,by simp[hu.2]⟩
    ·exact⟨h1.cons x,h2⟩
   ·rintro⟨h1,h2⟩
    cases h1 with
    | cons _ h=>exact .inr ⟨h,h2⟩
    | cons_cons _ h=>
      rename_i u;exact .inl ⟨u,(combs_mem k r u).2 ⟨h,by simpa using h2⟩,rfl⟩
def trials (p:Prog) (k:Nat):List (List Pl):=(List.range k).flatMap fun i=>combs i (candM p)
def goodSet (p:Prog) (m:Int) (s:List Pl):Bool:= !zhW (ptB p s) p&&robM (p.ins (ptB p s)) m
def minM (p:Prog) (m:Int):Option (List Pl):=(trials p 5).find? (goodSet p m)
theorem zhg {α β:Type} {P:β->Bool} {f:α->List β}: ∀{l:List α} {y:β},(l.flatMap f).find? P=some y-> ∃a b x,l=a++x::b/\y∈f x/\ ∀u∈a,∀z∈f u,P z=false
 | [],y,h=>by simp at h
 | x::l,y,h=>by
   rw[List.flatMap_cons,List.find?_append]at h
   cases h1:(f x).find? P with
   | some z=>
     rw[h1]at h;have:z=y:=by simpa using h
     subst this
     exact⟨[],l,x,rfl,List.mem_of_find?_eq_some h1,by simp⟩
   | none=>
     rw[h1]at h;obtain⟨a,b,u,rfl,h2,h3⟩:=zhg (by simpa using h);refine⟨x::a,b,u,rfl,h2,fun v hv z hz=> ?_⟩;rcases List.mem_cons.1 hv with rfl | hv
     ·have:=List.find?_eq_none.1 h1 z hz;simpa using this
     ·exact h3 v hv z hz
theorem zfy {p:Prog} {m:Int} {l s:List Pl} (h:minM p m=some l) (hs:s.Sublist (candM p)) (hl:s.length<l.length):goodSet p m s=false:=by
 obtain⟨a,b,k,hab,h1,h2⟩:=zhg h;have hk:=((combs_mem k _ _).1 h1).2
 have e:a=List.range k:=by
  have h5:k<5:=by
   have:k∈List.range 5:=by rw[hab];simp
   exact List.mem_range.1 this
  have ha:(List.range 5)[a.length]? =some k:=by rw[hab];simp
  have:a.length<5:=by
   have:=congrArg List.length hab;simp at this;omega
  rw[List.getElem?_range this]at ha;have hak:a.length=k:=by simpa using ha
  have h6:(List.range 5).take k=a:=by rw[hab,<- hak,List.take_left]
  rw[<- h6,List.take_range]
  congr 1;omega
 exact h2 s.length (by rw[e];exact List.mem_range.2 (by omega)) s ((combs_mem _ _ _).2 ⟨hs,rfl⟩)
theorem zg0 {p:Prog} {m:Int} {s:List Pl} (h:minM p m=none) (hs:s.Sublist (candM p)) (hl:s.length<=4):goodSet p m s=false:=by
 unfold minM at h
 have:=List.find?_eq_none.1 h s (by
  unfold trials;rw[List.mem_flatMap]
  exact⟨s.length,List.mem_range.2 (by omega),(combs_mem _ _ _).2 ⟨hs,rfl⟩⟩)
 simpa using this
theorem zkZ {p:Prog} {m:Int} {s:List Pl} (hs:s.Sublist (candM p)) (hl:s.length<=4) (hg:goodSet p m s=true): ∃l,minM p m=some l/\l.length<=s.length:=by
 cases h:minM p m with
 | none=>rw[zg0 h hs hl]at hg;cases hg
 | some l=>
   refine⟨l,rfl,?_⟩
   by_cases hlt:s.length<l.length
   ·rw[zfy h hs hlt]at hg;cases hg
   ·omega
end Rg
end

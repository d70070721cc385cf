/- Part of the proof of laws of relyguardtop. No condition. -/
import Derived.Test.YtoidcnbdndioaaaGreatDoorKartAN
import Derived.Test.YtoidcnbdndioaaaGreatDoorKartAL
import Derived.Test.YtoidcnbdndioaaaGreatDoorKartAK
import Derived.Test.YtoidcnbdndioaaaGreatDoorKartAJ
set_option linter.unusedSimpArgs false
set_option linter.unusedVariables false
section
namespace Rg
open Go
def bmT (ws:List Nat):T:=.ip (ws.map fun w:Nat=>T.int .u64 (w:Int))
theorem zJ9 (ws:List Nat) (B:Bm ws) {h0:Nat->Option O} {x0 kb:Nat} {fz:Bool} (hk:h0 kb=some (.rows 64 [bmV ws] fz)) (ND:kb<x0):
 ∃r h' x',DenR Γ G 533 [.mp kb 0 0] h0 x0=some (r,h',x')/\zaF h' x' r 1 (zae (zHd ws 64))/\(∀j,j<x0->zbg r j)/\(∀j,j<x0->h' j=h0 j)/\x0<=x':=by
 have hl:=B.len
 have FZ: ∀i,(zHd ws i).length<=64*i:=fun i=>by
  rw[zIw,List.length_map];exact Nat.le_trans (List.length_filter_le _ _) (by simp)
 have F8:(bmV ws).length=64:=by simp[bmV,hl]
 (refine zay Γ533 rfl ?_;dsimp only[zQw])
 simp -dsimp -implicitDefEqProofs only[go_sem,seval];refine zaq 268435384 64 (fun i f h x=>(f 7).v=vi i/\zaF h x (f 3).v 1 (zae (zHd ws i))/\(∀j,j<x0->zbg (f 3).v j)/\(∀j,j<x0->h j=h0 j)/\x0<=x) rfl ⟨by simp -dsimp -implicitDefEqProofs only[go_sem,seval],.inl ⟨by simp -dsimp -implicitDefEqProofs only[go_sem,seval],rfl⟩,(fun j hj=>by simp -dsimp -implicitDefEqProofs only[go_sem,seval];intro i n h;cases h),(fun j hj=>rfl),by simp -dsimp -implicitDefEqProofs only[go_sem,seval];omega⟩ ?_;rintro i f u h x bb hi ⟨g7,hO,Bn,A8,PF⟩;have hw:=zan i (by omega)
 by_cases AV:i<64
 ·have DB:((i:Int)<64)=True:=eq_true (by omega);obtain⟨w,Ho,FP⟩:=zai (show i<ws.length by omega);have G1:=B.lt w FP;have Do:h kb=some (.rows 64 [bmV ws] fz):=by rw[A8 kb ND];exact hk
  have r1:List.take 1 (List.drop (i*1) (bmV ws))=[vw w]:=by
   rw[Nat.mul_one,zdo (l:=bmV ws) (x:=vw w) (by rw[bmV,zJ,Ho];rfl)];rfl
  have c1:(i*1+1<=64)=True:=eq_true (by omega)
  have Uo:zHd ws (i+1)=zHd ws i++(zJ0 w 64).map fun t:Nat=>((64*i+t:Nat):Int):=by
   rw[zHd,zK,Ho,Option.getD_some]
  simp -dsimp -implicitDefEqProofs only[go_sem,seval,g7,DB,Do,F8,r1,c1];refine zaq 134209576 64 (fun q f h x=> ∃k,q<=k/\k<=64/\(f 5).v=vw (hiB w k)/\zaF h x (f 3).v 1 (zae (zHd ws i++(zJ0 w k).map fun t:Nat=>((64*i+t:Nat):Int)))/\(∀j,j<x0->zbg (f 3).v j)/\(∀j,j<x0->h j=h0 j)/\x0<=x) rfl ⟨0,Nat.le_refl _,by omega,by simp -dsimp -implicitDefEqProofs only[go_sem,seval,zNW],by simp -dsimp -implicitDefEqProofs only[go_sem,seval];simp only[zJ0,List.range_zero,List.filter_nil,List.map_nil,List.append_nil];exact hO.le (by omega),by simp -dsimp -implicitDefEqProofs only[go_sem,seval];exact Bn,A8,by simp -dsimp -implicitDefEqProofs only[go_sem,seval];omega⟩ ?_;rintro q f1 u1 h1 x1 bb1 hq ⟨k,k0,k1,g5,O0,Jq,J3,KA⟩
  by_cases hz:hiB w k=0
  ·have z1:((hiB w k:Nat):Int)=0:=by omega
   rw[hz]at g5;simp -dsimp -implicitDefEqProofs only[go_sem,seval,g5,g7];refine⟨AV,by simp -dsimp -implicitDefEqProofs only[go_sem,seval,hw],?_,fun j hj=>by simp -dsimp -implicitDefEqProofs only[go_sem,seval];exact Jq j hj,fun j hj=>by simp -dsimp -implicitDefEqProofs only[go_sem,seval];exact J3 j hj,by simp -dsimp -implicitDefEqProofs only[go_sem,seval];omega⟩;simp -dsimp -implicitDefEqProofs only[go_sem,seval];rw[Uo,zNP k1 hz];exact O0.le (by omega)
  ·obtain⟨t,m,t0,t1,t2,t3,t4⟩:=zMD G1 hz;have Ad:hiB w k<2^64:=Nat.lt_of_le_of_lt (zPz w k) G1;have PM:=zPk t m t1 (by rw[<- t2];exact Ad);rw[<- t2]at PM;have z1:(((hiB w k:Nat):Int)=0)=False:=eq_false (by omega);have p1:=zPg hz Ad;have p2:=zLI Ad (show hiB w k-1<2^64 by omega);have p3:hiB w k&&& (hiB w k-1)=hiB w (t+1):=by rw[t3,t2];exact zN6 t m
   rw[p3]at p2;have m1:IntKind.i64.wrap (64*(i:Int))=((64*i:Nat):Int):=by rw[zaH (by omega)];omega
   have m2:IntKind.i64.wrap (((64*i:Nat):Int)+(t:Int))=((64*i+t:Nat):Int):=by rw[zaH (by omega)];omega
   have v1:=O0.valOf;have v2:=O0.r2;have v3:=O0.r3;have v4:=O0.r4;have v5:=O0.r5;simp -dsimp -implicitDefEqProofs only[go_sem,seval,g5,z1,PM,p1,p2,m1,m2,v1,v2,v3,v4,v5]
   have Mq:(zJ0 w k).length<=64:=by
    rw[zJ0];exact Nat.le_trans (List.length_filter_le _ _) (by simp;omega)
   have Kn:=FZ i;refine zav (O0.upd (by omega) _) (by omega) (by rw[zab,zM,List.length_map];omega) (by decide) rfl (zaQ _) ?_;intro v hp hP Bp Aq;have y1:=hP.valOf;simp -dsimp -implicitDefEqProofs only[go_sem,seval,y1,g5,p1,p2];refine⟨by omega,t+1,by omega,by omega,by simp -dsimp -implicitDefEqProofs only[go_sem,seval],?_,fun j hj=>by simp -dsimp -implicitDefEqProofs only[go_sem,seval];exact Bp j (by omega),fun j hj=>by simp -dsimp -implicitDefEqProofs only[go_sem,seval];rw[Aq j (by omega) (Jq j hj),zaa,if_neg (by omega)];exact J3 j hj,by simp -dsimp -implicitDefEqProofs only[go_sem,seval];omega⟩;simp -dsimp -implicitDefEqProofs only[go_sem,seval];rw[t4,List.map_append,<- zQ];simp only[List.map_cons,List.map_nil];rw[za4];exact hP.le (by omega)
 ·have DB:((i:Int)<64)=False:=eq_false (by omega);have:i=64:=by omega
  subst this;have v1:=hO.valOf;have v5:=hO.resVal;simp only[Rg.resVal]at v5;simp -dsimp -implicitDefEqProofs only[go_sem,seval,g7,v1,v5];exact⟨hO.le (by simp -dsimp -implicitDefEqProofs only[go_sem,seval];omega),Bn,A8,by simp -dsimp -implicitDefEqProofs only[go_sem,seval];omega⟩
end Rg
end
section
namespace Rg
open Go
theorem zG3 (l:List Int) (h: ∀n∈l,0<=n/\n<=8) (hl:l.length<=2^20):Den Γ G 529 [.t (ints l)]=some (vi (zGp l)):=by
 have hb: ∀i,0<=zGp (l.take i)/\zGp (l.take i)<=8*i:=by
  intro i
  induction i with
  | zero=>simp[zGp]
  | succ i ih=>
    by_cases hi:i<l.length
    ·obtain⟨n,hn,hm⟩:=zai hi;have:=h n hm;rw[zaf hn,zGM];omega
    ·rw[List.take_of_length_le (by omega)]at ih⊢;omega
 (refine zag Γ529 rfl ?_;dsimp only[zQz])
 simp -dsimp -implicitDefEqProofs only[go_sem,seval];refine zaT 65320 l.length (fun i f=>(f 8).v=vi i/\(f 3).v=vi (zGp (l.take i))) rfl rfl ⟨by simp -dsimp -implicitDefEqProofs only[go_sem,seval],by simp -dsimp -implicitDefEqProofs only[go_sem,seval];rfl⟩ ?_;rintro i f u x bs hi ⟨h4,h3⟩;have hw:=zan i (by omega);simp -dsimp -implicitDefEqProofs only[go_sem,seval,h4];refine zac (fun h=> ?_) (fun h=> ?_)<;>(try rw[h])<;>(try simp only[zah]at h)<;>(try simp -dsimp -implicitDefEqProofs only[go_sem,seval,h4])
 ·obtain⟨n,hn,hm⟩:=zai ‹i<l.length›;have h1:=hb i;have h2:=hb (i+1);rw[zaf hn,zGM]at h2;have Ht:IntKind.i64.wrap (zGp (l.take i)+n)=zGp (l.take i)+n:=zaH (by omega);simp -dsimp -implicitDefEqProofs only[go_sem,seval,h4,h3,hn,Ht];refine⟨by omega,by simp -dsimp -implicitDefEqProofs only[go_sem,seval,hw],by simp -dsimp -implicitDefEqProofs only[go_sem,seval,zaf hn,zGM]⟩
 ·have:i=l.length:=by omega
  subst this;rw[List.take_length]at h3;simp -dsimp -implicitDefEqProofs only[go_sem,seval,h3]
theorem zIx (l:List Int) (hR:l.Pairwise (· < ·)) (hl:l.length<2^20):Den Γ G 575 [.t (ints l)]=some (vb true):=by
 (refine zag Γ575 rfl ?_;dsimp only[zP1])
 simp -dsimp -implicitDefEqProofs only[go_sem,seval];refine zaT 1048572 l.length (fun i f=>(f 3).v=vi ((i+1:Nat):Int)) rfl rfl (by simp -dsimp -implicitDefEqProofs only[go_sem,seval]) ?_;rintro i f u x bs hi h3;have hw:IntKind.i64.wrap (((i+1:Nat):Int)+1)=((i+1+1:Nat):Int):=zan (i+1) (by omega)
 by_cases AV:i+1<l.length
 ·have DB:(((i+1:Nat):Int)<(l.length:Int))=True:=eq_true (by omega);obtain⟨n,hn,hm⟩:=zai AV;obtain⟨m,EG,_⟩:=zai (show i<l.length by omega)
  have Ad:m<n:=by
   have:=List.pairwise_iff_getElem.1 hR i (i+1) (by omega) AV (by omega);rw[(zH.1 hn).2,(zH.1 EG).2]at this;exact this
  have e4:(n<=m)=False:=eq_false (by omega);have e5:IntKind.i64.wrap (((i+1:Nat):Int)-1)=(i:Int):=by rw[show(((i+1:Nat):Int)-1)=(i:Int)by omega];exact zaH (by omega)
  simp -dsimp -implicitDefEqProofs only[go_sem,seval,h3,DB,hn,EG,e4,e5];exact⟨by omega,by simp -dsimp -implicitDefEqProofs only[go_sem,seval,hw]⟩
 ·have DB:(((i+1:Nat):Int)<(l.length:Int))=False:=eq_false (by omega);simp -dsimp -implicitDefEqProofs only[go_sem,seval,h3,DB]
def zHi (l ws:List Int):Bool:=decide (l.length=ws.length)&&(l.zip ws).all fun q=>decide (0<=q.1)&&decide (q.1<32)&&decide (1<=q.2)&&decide (q.2<=8)
theorem zIZ (l ws:List Int) (hR:l.Pairwise (· < ·)) (hl:l.length<2^20):Den Γ G 576 [.t (ints l),.t (ints ws)]=some (vb (zHi l ws)):=by
 have hi:=zIx l hR hl
 (refine zag Γ576 rfl ?_;dsimp only[zP0])
 by_cases Ac:l.length=ws.length
 rotate_left
 ·have e1:((l.length:Int)=(ws.length:Int))=False:=eq_false (by omega);simp -dsimp -implicitDefEqProofs only[go_sem,seval,e1];simp[zHi,Ac]
 have e1:((l.length:Int)=(ws.length:Int))=True:=eq_true (by omega);simp -dsimp -implicitDefEqProofs only[go_sem,seval,e1,hi];refine zaT 35184371564656 l.length (fun i f=>(f 19).v=vi i/\zHi l ws=((l.zip ws).drop i).all fun q=>decide (0<=q.1)&&decide (q.1<32)&&decide (1<=q.2)&&decide (q.2<=8)) rfl rfl ⟨by simp -dsimp -implicitDefEqProofs only[go_sem,seval],by simp[zHi,Ac]⟩ ?_;rintro i f u x bs AV ⟨EZ,hq⟩;have hw:=zan i (by omega)
 by_cases B8:i<l.length
 ·have Cq:=eq_true B8;obtain⟨c,hc,_⟩:=zai B8;obtain⟨w,Ho,_⟩:=zai (show i<ws.length by omega);have hz:(l.zip ws)[i]? =some (c,w):=by rw[List.getElem?_zip_eq_some];exact⟨hc,Ho⟩
  have hd:=zdo hz;rw[hd,List.all_cons]at hq
  by_cases b1:c<0
  ·have b1':=eq_true b1;rw[hq,decide_eq_false (show ¬0<=c by omega)];simp -dsimp -implicitDefEqProofs only[go_sem,seval,EZ,Cq,hc,Ho,b1'];rfl
  have b1':=eq_false b1
  by_cases b2:c>=32
  ·have b2':=eq_true b2;rw[hq,decide_eq_false (show ¬c<32 by omega)];simp -dsimp -implicitDefEqProofs only[go_sem,seval,EZ,Cq,hc,Ho,b1',b2'];simp
  have b2':=eq_false b2
  by_cases b3:w<1
  ·have b3':=eq_true b3;rw[hq,decide_eq_false (show ¬1<=w by omega)];simp -dsimp -implicitDefEqProofs only[go_sem,seval,EZ,Cq,hc,Ho,b1',b2',b3'];simp
  have b3':=eq_false b3
  by_cases b4:w>8
  ·have b4':=eq_true b4;rw[hq,decide_eq_false (show ¬w<=8 by omega)];simp -dsimp -implicitDefEqProofs only[go_sem,seval,EZ,Cq,hc,Ho,b1',b2',b3',b4'];simp
  have b4':=eq_false b4;rw[decide_eq_true (show 0<=c by omega),decide_eq_true (show c<32 by omega),decide_eq_true (show 1<=w by omega),decide_eq_true (show w<=8 by omega)]at hq;simp -dsimp -implicitDefEqProofs only[go_sem,seval,EZ,Cq,hc,Ho,b1',b2',b3',b4'];exact⟨B8,by simp -dsimp -implicitDefEqProofs only[go_sem,seval,hw],by rw[hq];rfl⟩
 ·have Cq:=eq_false B8;have:i=l.length:=by omega
  subst this;simp -dsimp -implicitDefEqProofs only[go_sem,seval,EZ,Cq];rw[hq,List.drop_of_length_le (by rw[List.length_zip];omega)];rfl
def zMc:List Nat:=List.replicate 64 0
theorem zK8:Bm zMc:=⟨by simp[zMc],fun w hw=>by rw[List.eq_of_mem_replicate hw];omega⟩
def zGt (l:List Nat):List Nat:=l.foldl zKt zMc
theorem zHO (l:List Nat) (n:Nat):zGt (l++[n])=zKt (zGt l) n:=by simp[zGt]
theorem zLq: ∀(l:List Nat) (ws:List Nat),Bm ws->(∀n∈l,n<4096)->Bm (l.foldl zKt ws)
 | [],ws,B,_=>B
 | n::l,ws,B,h=>zLq l _ (zK6 B (h n (by simp))) fun x hx=>h x (by simp[hx])
theorem zGB {l:List Nat} (h: ∀n∈l,n<4096):Bm (zGt l):=zLq l _ zK8 h
theorem zKg: ∀(l:List Nat) (ws:List Nat),Bm ws->(∀n∈l,n<4096)-> ∀j,zIO (l.foldl zKt ws) j=(zIO ws j||l.contains j)
 | [],ws,B,_,j=>by simp
 | n::l,ws,B,h,j=>by
   rw[List.foldl_cons,zKg l _ (zK6 B (h n (by simp))) (fun x hx=>h x (by simp[hx])) j,zLp B (h n (by simp)),List.contains_cons,Bool.or_assoc]
   congr 2
theorem zHP {l:List Nat} (h: ∀n∈l,n<4096) (j:Nat):zIO (zGt l) j=l.contains j:=by
 rw[zGt,zKg l _ zK8 h]
 have:zIO zMc j=false:=by
  rw[zIO,zMc,zK,List.getElem?_replicate];split<;>simp
 rw[this,Bool.false_or]
abbrev nI (l:List Nat):List Int:=l.map fun n:Nat=>(n:Int)
theorem zLC (h:Nat->Option O) (d:Nat): ∀ws:List Nat,(bmV ws).mapM (toT h d)=some (ws.map fun w:Nat=>T.int .u64 (w:Int))
 | []=>rfl
 | w::ws=>by
   have e1:toT h d (vw w)=some (T.int .u64 (w:Int)):=by cases d<;>rfl
   have:=zLC h d ws;rw[bmV]at this;rw[bmV,List.map_cons,List.mapM_cons,e1,this];rfl
theorem zJ5 (l:List Nat) (hl: ∀n∈l,n<4096) (Ac:l.length<=4096):Den Γ G 582 [.t (ints (nI l))]=some (.agg (bmV (zGt l))):=by
 have Hx:(nI l).length=l.length:=by simp
 (refine zag Γ582 rfl ?_;dsimp only[zPV])
 simp -dsimp -implicitDefEqProofs only[go_sem,seval,Hx];refine zaq 32544 l.length (fun i f h x=>(f 8).v=vi i/\h 1=some (.rows 64 [bmV (zGt (l.take i))] false)/\2<=x) rfl ⟨by simp -dsimp -implicitDefEqProofs only[go_sem,seval],by simp -dsimp -implicitDefEqProofs only[go_sem,seval];rfl,by simp -dsimp -implicitDefEqProofs only[go_sem,seval]⟩ ?_;rintro i f u h x bb hi ⟨g8,h3,hx⟩;have hw:=zan i (by omega);have hB:=zGB (l:=l.take i) fun n hn=>hl n (List.mem_of_mem_take hn)
 by_cases AV:i<l.length
 ·have DB:=eq_true AV;obtain⟨n,hn,GE⟩:=zai AV;have SR:(nI l)[i]? =some (n:Int):=by rw[zJ,hn];rfl
  simp -dsimp -implicitDefEqProofs only[go_sem,seval,g8,DB,SR];refine zas (zLG _ hB n (hl n GE) h3) ?_;rintro r h' n' ⟨q1,q2,q3⟩;simp -dsimp -implicitDefEqProofs only[go_sem,seval,g8];refine⟨AV,by simp -dsimp -implicitDefEqProofs only[go_sem,seval,hw],?_,by(try simp -dsimp -implicitDefEqProofs only[go_sem,seval]);(try omega)⟩
  (try simp -dsimp -implicitDefEqProofs only[go_sem,seval])
  rw[zaf hn,zHO];exact q1
 ·have DB:=eq_false AV;have:i=l.length:=by omega
  subst this;rw[List.take_length]at h3 hB;have F8:(bmV (zGt l)).length=64:=by simp[bmV,hB.len]
  have b64:(64<=64)=True:=eq_true (by omega);have ht:List.take 64 (bmV (zGt l))=bmV (zGt l):=List.take_of_length_le (by omega);simp -dsimp -implicitDefEqProofs only[go_sem,seval,g8,DB,h3,F8,b64,ht];rw[zLC,Option.map_some,List.map_map];rfl
theorem zJw (l:List Int) (hl:l.length<2^30):Den Γ G 524 [.t (ints l),.t (ints l)]=some (vb true):=by
 (refine zag Γ524 rfl ?_;dsimp only[zPI])
 simp -dsimp -implicitDefEqProofs only[go_sem,seval,bne_self_eq_false];refine zaT 67100720 l.length (fun i f=>(f 13).v=vi i) rfl rfl (by simp -dsimp -implicitDefEqProofs only[go_sem,seval]) ?_;rintro i f u x bs hi Du;have hw:=zan i (by omega)
 by_cases AV:i<l.length
 ·have DB:=eq_true AV;obtain⟨n,hn,_⟩:=zai AV;simp -dsimp -implicitDefEqProofs only[go_sem,seval,Du,DB,hn,bne_self_eq_false];exact⟨AV,by simp -dsimp -implicitDefEqProofs only[go_sem,seval,hw]⟩
 ·have DB:=eq_false AV;simp -dsimp -implicitDefEqProofs only[go_sem,seval,Du,DB]
theorem zHZ (l:List Int) (hl:l.length<2^30):Den Γ G 522 [.t (ints l),.t (ints l)]=some (vb true):=by
 (refine zag Γ522 rfl ?_;dsimp only[zQE])
 simp -dsimp -implicitDefEqProofs only[go_sem,seval,bne_self_eq_false];refine zaT 67106864 l.length (fun i f=>(f 5).v=vi i) rfl rfl (by simp -dsimp -implicitDefEqProofs only[go_sem,seval]) ?_;rintro i f u x bs hi Du;have hw:=zan i (by omega)
 by_cases AV:i<l.length
 ·have DB:=eq_true AV;obtain⟨n,hn,_⟩:=zai AV;simp -dsimp -implicitDefEqProofs only[go_sem,seval,Du,DB,hn,bne_self_eq_false];exact⟨AV,by simp -dsimp -implicitDefEqProofs only[go_sem,seval,hw]⟩
 ·have DB:=eq_false AV;simp -dsimp -implicitDefEqProofs only[go_sem,seval,Du,DB]
def zGj (l ws s:List Int):V:=.agg [.t (ints l),.t (ints ws),.t (ints s)]
theorem zI0 (l ws s:List Int) (h1:l.length<2^30) (h2:ws.length<2^30) (h3:s.length<2^30):Den Γ G 513 [zGj l ws s,zGj l ws s]=some (vb true):=by
 have a1:=zHZ l h1;have a2:=zHZ ws h2;have a3:=zHZ s h3;unfold zGj
 (refine zag Γ513 rfl ?_;dsimp only[zQH])
 simp -dsimp -implicitDefEqProofs only[go_sem,seval,a1,a2,a3]
theorem zGX (l ws s:List Int) (hR:l.Pairwise (· < ·)) (hl:l.length<=32) (hs:zHi l ws=true) (hw: ∀n∈ws,0<=n/\n<=8) (hb:zGp ws<=12):Den Γ G 577 [zGj l ws s]=some (vb true):=by
 have a1:=zIZ l ws hR (by omega);rw[hs]at a1;have Er:ws.length=l.length:=by simp only[zHi,zF,decide_eq_true_eq]at hs;exact hs.1.symm
 have a2:=zG3 ws hw (by omega);have b1:=eq_true hb;unfold zGj
 (refine zag Γ577 rfl ?_;dsimp only[zPZ])
 simp -dsimp -implicitDefEqProofs only[go_sem,seval,a1,a2,b1]
def zwW (l:List Int) (v:Int):Int:=match l.findIdx? (fun x=>decide (x=v))with
 | some i=>i
 | none=> -1
theorem zwT {l:List Int} {v:Int} {i:Nat} (h:l[i]? =some v) (hn: ∀j,j<i->l[j]? ≠some v):zwW l v=i:=by
 have hi:=(zH.1 h).1
 have:l.findIdx? (fun x=>decide (x=v))=some i:=by
  rw[List.findIdx?_eq_some_iff_getElem];refine⟨hi,by simpa using(zH.1 h).2,fun j hj=> ?_⟩;have:=hn j hj;rw[zI (by omega)]at this;simpa using this
 rw[zwW,this]
theorem zuT {l:List Int} {v:Int} (hn: ∀j,j<l.length->l[j]? ≠some v):zwW l v= -1:=by
 have:l.findIdx? (fun x=>decide (x=v))=none:=by
  rw[List.findIdx?_eq_none_iff];intro x hx;obtain⟨j,hj⟩:=List.getElem?_of_mem hx;have:=hn j (zH.1 hj).1;rw[hj]at this;simpa using this
 rw[zwW,this]
theorem zwU (l:List Int) (v:Int):decide (zwW l v>=0)=l.contains v:=by
 unfold zwW
 cases h:l.findIdx? (fun x=>decide (x=v))with
 | some i=>
   have hm:v∈l:=by
    rw[List.findIdx?_eq_some_iff_getElem]at h;obtain⟨h1,h2,_⟩:=h;exact(by simpa using h2:l[i]=v)▸List.getElem_mem h1
   simp[hm]
 | none=>
   have hm:v∉ l:=by
    intro hm;rw[List.findIdx?_eq_none_iff]at h;have:=h v hm;simp at this
   simp[hm]
theorem zq0 (l:List Int) (v:Int) (hl:l.length<2^48):Den Γ G 207 [.t (ints l),vi v]=some (vi (zwW l v)):=by
 (refine zag Γ207 rfl ?_;dsimp only[f207])
 simp -dsimp -implicitDefEqProofs only[go_sem,seval];refine zaT 524080 l.length (fun i f=>(f 8).v=vi i/\ ∀j,j<i->l[j]? ≠some v) rfl rfl ⟨by simp -dsimp -implicitDefEqProofs only[go_sem,seval],fun j hj=>by omega⟩ ?_;rintro i f u kk bb hi ⟨h8,hn⟩;have hw:=zan i (by omega);simp -dsimp -implicitDefEqProofs only[go_sem,seval,h8];refine zac (fun h=> ?_) (fun h=> ?_)<;>(try rw[h])<;>(try simp only[zah]at h)<;>(try simp -dsimp -implicitDefEqProofs only[go_sem,seval,h8])
 ·obtain⟨y,hy,_⟩:=zai ‹i<l.length›;simp -dsimp -implicitDefEqProofs only[go_sem,seval,h8,hy];refine zac (fun h=> ?_) (fun h=> ?_)<;>(try rw[h])<;>(try simp only[zah]at h)<;>(try simp -dsimp -implicitDefEqProofs only[go_sem,seval,h8])
  ·rw[zwT (by rw[hy,h]) hn]
  ·refine⟨by omega,by simp -dsimp -implicitDefEqProofs only[go_sem,seval,hw],fun j hj=> ?_⟩;rcases Nat.lt_or_ge j i with h1 | h1
   ·exact hn j h1
   ·have:j=i:=by omega
    subst this;rw[hy];intro he;cases he;exact absurd rfl h
 ·have:i=l.length:=by omega
  subst this;rw[zuT hn]
theorem zff (l:List Int) (v:Int) (hl:l.length<2^48):Den Γ G 206 [.t (ints l),vi v]=some (vb (l.contains v)):=by
 (refine zag Γ206 rfl ?_;dsimp only[f206])
 have h1:=zq0 l v hl;have h2:=zwU l v;simp -dsimp -implicitDefEqProofs only[go_sem,seval,h1,h2]
def zB1 (h:Nat->Option O) (x:Nat) (v:V) (rows:List (List V)):Prop:=
 (v= .t (.sl [])/\rows=[])\/ ∃k,v= .ms k 0 rows.length/\k<x/\h k=some (.rows 1 rows false)
theorem zoa (l:List Int):zd2 (zae l)=some l:=by
 induction l with
 | nil=>rfl
 | cons n l ih=>
   show(zd2 (zae l)).map (n:: ·)=_;rw[ih];rfl
theorem znX (l:List Int):za9 l=zae l:=by simp[za9,zae]
theorem zni {h:Nat->Option O} {key:Nat} {l:List Int} {K:V->List (Nat×O)->Prop} {w:WK K} (hl:l.length<2^40)
 (hK: ∀v hp,zB1 (At h hp) (key+1) v (zae l)->(∀j,j≠key->At h hp j=h j)->(∀j,j≠key->zbg v j)->(Rg.valOf v=some v/\V.cells v=some [v])->K v hp):zyL (Γ:=Γ) (G:=G) false h key 198 [.t (ints l)] K w:=by
 refine⟨rfl,rfl,[.t (ints l)],rfl,?_⟩
 cases l with
 | nil=>
   refine⟨.t (.sl []),fun _=>none,0,zf6 Γ198 rfl rfl rfl,{ val:=.t (.sl []) },rfl,hK _ _ (.inl ⟨rfl,rfl⟩) (fun j _=>by rw[zaA]) (fun j _ i n h=>by cases h) ⟨rfl,rfl⟩⟩
 | cons a l=>
   have hd:zd3 .cloneI [.t (ints (a::l))] (fun _=>none) 0=some (.ms 0 0 (a::l).length,upd (fun _=>none) 0 (some (.rows 1 (za9 (a::l)) false)),1):=by
    show((zd2 (zae (a::l))).bind fun zs=>if zs.length<1099511627776 then some (V.ms 0 0 zs.length,upd (fun _=>none) 0 (some (O.rows 1 (za9 zs) false)),0+1)else none)=_;rw[zoa,zD,if_pos hl]
   rw[znX]at hd;have Aa:(zae (a::l)).all (fun row=>row.all V.isTr)=true:=by simp[zae,V.isTr]
   refine⟨_,_,_,zf6 Γ198 rfl rfl hd,{ val:=.ms key 0 (zae (a::l)).length,hp:=[(key,.rows 1 (zae (a::l)) false)] },?_,hK _ _ (.inr ⟨key,rfl,by omega,by simp[zaC,zaA,zaa]⟩) (fun j hj=>by simp[zaC,zaA,zaa,hj]) (fun j hj=>za3 (by omega) _ _) ⟨rfl,rfl⟩⟩;simp only[zqm,zaz];rw[if_pos ⟨trivial,by rw[zab],Aa⟩,zab]
theorem zB1.reify {h:Nat->Option O} {x:Nat} {v:V} {l:List Int} (o:zB1 h x v (zae l)):Rg.reify h v=some (.t (ints l)):=by
 rcases o with⟨rfl,he⟩ | ⟨k,rfl,_,hh⟩
 ·have:l=[]:=by
   have:=congrArg List.length he;rw[zab]at this;exact List.eq_nil_of_length_eq_zero this
  subst this;rfl
 ·have:toT h 1000 (.ms k 0 (zae l).length)=some (.sl (l.map fun n=>[ti n])):=zcc (h:=h) (x:=k+1) (es:=l.map fun n=>[ti n]) (.inr ⟨k,rfl,by omega,hh⟩) (zbP _);simp only[Rg.reify,toT1,this,Option.map_some]
structure Shp (l ws:List Int):Prop where
 inc:l.Pairwise (· < ·)
 len:l.length<=32
 shp:zHi l ws=true
 w: ∀n∈ws,0<=n/\n<=8
 sum:0<=zGp ws/\zGp ws<=12
theorem Shp.wl {l ws:List Int} (S:Shp l ws):ws.length=l.length:=by
 have:=S.shp;simp only[zHi,zF,decide_eq_true_eq]at this;exact this.1.symm
structure Elems (ws:List Int) (s:List Nat):Prop where
 inc:s.Pairwise (· < ·)
 lt: ∀n∈s,n<2^(zGp ws).toNat
theorem Elems.lt4 {l ws:List Int} {s:List Nat} (S:Shp l ws) (E:Elems ws s): ∀n∈s,n<4096:=fun n hn=>by
 have h1:=E.lt n hn;have h2:=S.sum;have:(2:Nat)^(zGp ws).toNat<=2^12:=Nat.pow_le_pow_right (by omega) (by omega);omega
theorem Elems.len {l ws:List Int} {s:List Nat} (S:Shp l ws) (E:Elems ws s):s.length<=4096:=by
 have h:=E.lt4 S;have hn:s.Nodup:=E.inc.imp fun h=>by omega
 have D5:s ⊆ List.range 4096:=fun n hn=>List.mem_range.2 (h n hn)
 have:=List.Nodup.length_le_of_subset hn D5;simpa using this
theorem zGV {l ws:List Int} (S:Shp l ws) {s:List Nat} (E:Elems ws s):Den Γ G 546 [zGj l ws (nI s)]=some (vb true):=by
 have a1:=zGX l ws (nI s) S.inc S.len S.shp S.w S.sum.2;have BA:=E.len S;have a2:=zIx (nI s) (by rw[List.pairwise_map];exact E.inc.imp fun h=>by omega) (by simp;omega);have a3:=zG3 ws S.w (by have:=S.wl;have:=S.len;omega);have Hx:(nI s).length=s.length:=by simp
 unfold zGj at a1⊢
 (refine zag Γ546 rfl ?_;dsimp only[zQj])
 by_cases FT:s.length=0
 ·have e0:((s.length:Int)=0)=True:=eq_true (by omega);simp -dsimp -implicitDefEqProofs only[go_sem,seval,a1,a2,Hx,e0]
  done
 ·have e0:((s.length:Int)=0)=False:=eq_false (by omega)
  have e1:IntKind.i64.wrap ((s.length:Int)-1)=((s.length-1:Nat):Int):=by
   rw[show(s.length:Int)-1=((s.length-1:Nat):Int)by omega];exact zaH (by omega)
  obtain⟨n,hn,_⟩:=zai (show 0<s.length by omega);have h0:(nI s)[0]? =some (n:Int):=by rw[zJ,hn];rfl
  obtain⟨z,hz,Mj⟩:=zai (show s.length-1<s.length by omega);have h1:(nI s)[s.length-1]? =some (z:Int):=by rw[zJ,hz];rfl
  have b0:(0<=(n:Int))=True:=eq_true (by omega);have b1:(zGp ws<0)=False:=eq_false (by have:=S.sum;omega)
  have b2:IntKind.i64.wrap (1*2^min (zGp ws).toNat 64)=((2^(zGp ws).toNat:Nat):Int):=by
   have h2:=S.sum;have h3:(2:Nat)^(zGp ws).toNat<=2^12:=Nat.pow_le_pow_right (by omega) (by omega)
   have h4:(1*2^min (zGp ws).toNat 64:Int)=((2^(zGp ws).toNat:Nat):Int):=by
    rw[Nat.min_eq_left (by omega)];push_cast;omega
   rw[h4]
   generalize(2:Nat)^(zGp ws).toNat=q at h3⊢
   exact zaH (by omega)
  have b3:((z:Int)<((2^(zGp ws).toNat:Nat):Int))=True:=eq_true (by exact_mod_cast E.lt z Mj);simp -dsimp -implicitDefEqProofs only[go_sem,seval,a1,a2,a3,Hx,e0,e1,h0,h1,b0,b1,b2,b3]
theorem zHt {h:Nat->Option O} {x:Nat} {v:V} {l:List Int} (o:zB1 h x v (zae l)):toT h 1000 v=some (ints l):=by
 rcases o with⟨rfl,h2⟩ | ⟨k,h1,h2,h3⟩
 ·have:l=[]:=by
   cases l with
   | nil=>rfl
   | cons a l=>simp[zae]at h2
  rw[this];rfl
 ·exact zcc (es:=l.map fun n=>[ti n]) (.inr ⟨k,h1,h2,h3⟩:zaF h x v 1 (zae l)) (zbP _)
theorem zB1.keep {h h':Nat->Option O} {x:Nat} {v:V} {rows:List (List V)} (o:zB1 h x v rows) (hk: ∀j,j<x->h' j=h j):zB1 h' x v rows:=by
 rcases o with o | ⟨k,h1,h2,h3⟩
 ·exact .inl o
 ·exact .inr ⟨k,h1,h2,by rw[hk k h2];exact h3⟩
theorem zB1.le {h:Nat->Option O} {x y:Nat} {v:V} {rows:List (List V)} (o:zB1 h x v rows) (BW:x<=y):zB1 h y v rows:=by
 rcases o with o | ⟨k,h1,h2,h3⟩
 ·exact .inl o
 ·exact .inr ⟨k,h1,by omega,h3⟩
theorem zLc (l ws:List Int) (s:V) (Ua:Rg.valOf s=some s) (Iv:V.cells s=some [s]) (h1:l.length<2^40) (h2:ws.length<2^40) (h0:Nat->Option O) (x0:Nat):
 ∃r h' x',DenR Γ G 530 [.t (ints l),.t (ints ws),s] h0 x0=some (r,h',x')/\ ∃a b,r= .agg [a,b,s]/\zB1 h' x' a (zae l)/\zB1 h' x' b (zae ws)/\(∀j,j<x0->zbg a j/\zbg b j)/\(∀j,j<x0->h' j=h0 j)/\x0<=x'/\
  (Rg.valOf a=some a/\V.cells a=some [a])/\(Rg.valOf b=some b/\V.cells b=some [b]):=by
 (refine zay Γ530 rfl ?_;dsimp only[zQy])
 simp -dsimp -implicitDefEqProofs only[go_sem,seval,Ua];refine zni h1 ?_;rintro v hp hO hf Bn ⟨hv,hc⟩;simp -dsimp -implicitDefEqProofs only[go_sem,seval,hv,hc,Ua];refine zni h2 ?_;rintro v2 D0 Cz Cv Jp ⟨DT,CG⟩;unfold V.cells at hc CG Iv;simp -dsimp -implicitDefEqProofs only[go_sem,seval,hv,hc,DT,CG,Ua,Iv];have o1:=hO.keep (h':=At (At h0 hp) D0) fun j hj=>Cv j (by omega)
 refine⟨v,v2,rfl,o1.le (by simp -dsimp -implicitDefEqProofs only[go_sem,seval];omega),Cz.le (by simp -dsimp -implicitDefEqProofs only[go_sem,seval];omega),fun j hj=>⟨Bn j (by omega),Jp j (by omega)⟩,fun j hj=> ?_,by simp -dsimp -implicitDefEqProofs only[go_sem,seval];omega,⟨hv,hc⟩,⟨DT,CG⟩⟩;rw[Cv j (by omega),hf j (by omega)]
theorem zIX (p:Prog) (l s:List Int) (S:Shp l (wsM p l)) (n:Nat) (hn:n<2^40) (base:List Int) (hb:base.length=32):
 Den Γ G 531 [zGj l (wsM p l) s,vi n,.t (ints base)]=some (.t (ints (stM p l n base))):=by
 have a1:=zGX l (wsM p l) s S.inc S.len S.shp S.w S.sum.2;have FZ:l.length<=32:=S.len;unfold zGj at a1⊢
 (refine zag Γ531 rfl ?_;dsimp only[zPH])
 simp -dsimp -implicitDefEqProofs only[go_sem,seval];refine zni (by omega) ?_;rintro v hp hO hf Bn ⟨hv,hc⟩;rcases hO with⟨_,h0⟩ | ⟨k,rfl,ND,hk⟩
 ·have:=congrArg List.length h0;rw[zab,hb]at this;cases this
 rw[zab,hb]at hv⊢
 have Ad: ∀i c,l[i]? =some c->0<=c/\c<32/\1<=wOf p c/\wOf p c<=8:=fun i c hc=>by
  have h1:=S.shp;simp only[zHi,zF,zN,decide_eq_true_eq]at h1;have h2:=h1.2 (c,(wOf p c:Int)) (zL (i:=i) (by rw[List.getElem?_zip_eq_some];exact⟨hc,by rw[wsM,zJ,hc];rfl⟩));simp only at h2;omega
 simp -dsimp -implicitDefEqProofs only[go_sem,seval,hv,a1];refine zaq 70368743130882 l.length (fun i f h x=>(f 20).v=vi i/\(f 1).v=vi ((n:Int)/ 2^zcD p (l.take i))/\h k=some (.rows 1 (zae (stM p (l.take i) n base)) false)/\k<x) rfl ⟨by simp -dsimp -implicitDefEqProofs only[go_sem,seval],by simp -dsimp -implicitDefEqProofs only[go_sem,seval];simp[zcD],by simp -dsimp -implicitDefEqProofs only[go_sem,seval];exact hk,by simp -dsimp -implicitDefEqProofs only[go_sem,seval];omega⟩ ?_;rintro i f u h x bb hi ⟨g20,g1,hh,hx⟩;have hw:=zan i (by omega)
 by_cases AV:i<l.length
 ·have DB:=eq_true AV;obtain⟨c,hc,_⟩:=zai AV;obtain⟨c0,c1,w0,w1⟩:=Ad i c hc;have FQ:(wsM p l)[i]? =some (wOf p c:Int):=by rw[wsM,zJ,hc];rfl
  have b1:=eq_true c1;have Nt:=zcn (wOf p c);have RF:(2:Int)^wOf p c<=2^8:=by exact_mod_cast Nat.pow_le_pow_right (n:=2) (by omega) w1
  have KN:0<=(n:Int)/ 2^zcD p (l.take i):=Int.ediv_nonneg (by omega) (Int.le_of_lt (zcn _));have Iz:(n:Int)/ 2^zcD p (l.take i)<=n:=Int.ediv_le_self _ (by omega);have s0:((wOf p c:Int)<0)=False:=eq_false (by omega)
  have s1:IntKind.i64.wrap (1*2^min (wOf p c) 64)=2^wOf p c:=by
   rw[Nat.min_eq_left (by omega),Int.one_mul];exact zaH (by omega)
  have s2:IntKind.i64.wrap (2^wOf p c-1)=2^wOf p c-1:=zaH (by omega);have s3:=ziA ((n:Int)/ 2^zcD p (l.take i)) (wOf p c:Int) (by omega);rw[Int.toNat_natCast]at s3
  have s4:((n:Int)/ 2^zcD p (l.take i)).fdiv (2^min (wOf p c) 64)=(n:Int)/ 2^zcD p (l.take i)/ 2^wOf p c:=by
   rw[Nat.min_eq_left (by omega),Int.fdiv_eq_ediv_of_nonneg _ (Int.le_of_lt Nt)]
  have BA:c.toNat<(stM p (l.take i) n base).length:=by rw[zlf];omega
  have B5:=zud BA;simp -dsimp -implicitDefEqProofs only[go_sem,seval,g20,g1,DB,hc,FQ,b1,hh,c0,s0,s1,s2,s3,s4,B5,zuc];refine⟨AV,by simp -dsimp -implicitDefEqProofs only[go_sem,seval,hw],?_,?_,by simp -dsimp -implicitDefEqProofs only[go_sem,seval];omega⟩
  ·simp -dsimp -implicitDefEqProofs only[go_sem,seval,zaf hc,zhF,Int.pow_add];rw[Int.ediv_ediv_of_nonneg (Int.le_of_lt (zcn _))]
  ·simp -dsimp -implicitDefEqProofs only[go_sem,seval,zaf hc,zoQ]
 ·have DB:=eq_false AV;have:i=l.length:=by omega
  subst this;rw[List.take_length]at hh;simp -dsimp -implicitDefEqProofs only[go_sem,seval,g20,DB];have Ac:(zae (stM p l n base)).length=32:=by rw[zab,zlf,hb]
  simp only[hh];rw[if_pos (by omega),zD,List.take_of_length_le (by omega),zHM];rfl
def wsC (cells:List Cell) (l:List Int):List Int:=l.map fun c=>(cells.getD c.toNat ⟨bs [],0,0,0,false,0⟩).w
theorem zJL (cells:List Cell) (l:List Int) (hR:l.Pairwise (· < ·)) (hl:l.length<2^20) (Mv: ∀c∈l,0<=c/\c<cells.length):
 Den Γ G 528 [.t (.sl (cells.map Cell.enc)),.t (ints l)]=some (.tup [.t (ints (wsC cells l)),vb (zHi l (wsC cells l))]):=by
 have a1:=zIx l hR hl;have a2:=zIZ l (wsC cells l) hR hl;have Bb:(cells.map Cell.enc).length=cells.length:=by simp
 (refine zag Γ528 rfl ?_;dsimp only[zQA])
 simp -dsimp -implicitDefEqProofs only[go_sem,seval,a1];refine zaq 34359722352 l.length (fun i f h x=>(f 14).v=vi i/\zaF h x (f 6).v 1 (zae (wsC cells (l.take i)))) rfl ⟨by simp -dsimp -implicitDefEqProofs only[go_sem,seval],.inl ⟨by simp -dsimp -implicitDefEqProofs only[go_sem,seval],rfl⟩⟩ ?_;rintro i f u h x bb hi ⟨g14,hO⟩;have hw:=zan i (by omega)
 by_cases AV:i<l.length
 ·have DB:=eq_true AV;obtain⟨c,hc,BI⟩:=zai AV;obtain⟨c0,c1⟩:=Mv c BI;obtain⟨y,hy,_⟩:=zai (show c.toNat<cells.length by omega);have b0:(c<0)=False:=eq_false (by omega);have b1:(c>=(cells.length:Int))=False:=eq_false (by omega)
  have hs:wsC cells (l.take (i+1))=wsC cells (l.take i)++[y.w]:=by
   rw[zaf hc,wsC,List.map_append];simp only[List.map_cons,List.map_nil,zK,hy,Option.getD_some];rfl
  have v1:=hO.valOf;have v2:=hO.r2;have v3:=hO.r3;have v4:=hO.r4;have v5:=hO.r5;simp -dsimp -implicitDefEqProofs only[go_sem,seval,g14,DB,hc,b0,b1,c0,hy,Bb,v1,v2,v3,v4,v5];refine zav (hO.upd (by omega) _) (by omega) (by rw[zab,wsC,List.length_map,List.length_take];omega) (by decide) rfl (zaQ _) ?_;intro v hp hP Bp Aq;have y1:=hP.valOf;simp -dsimp -implicitDefEqProofs only[go_sem,seval,y1,g14];refine⟨AV,by simp -dsimp -implicitDefEqProofs only[go_sem,seval,hw],?_⟩;simp -dsimp -implicitDefEqProofs only[go_sem,seval];rw[hs,za4];exact hP.le (by omega)
 ·have DB:=eq_false AV;have:i=l.length:=by omega
  subst this;rw[List.take_length]at hO;have v1:=hO.valOf;have Bh:=hO.reify (zbP _);have v5:=hO.resVal;simp only[Rg.resVal]at v5;have ht:toT h 1000 (f 6).v=some (ints (wsC cells l)):=zcc (es:=(wsC cells l).map fun n=>[ti n]) hO (zbP _);rcases hO with⟨e6,er⟩ | ⟨k,e6,hk,hh⟩
  ·have e0:wsC cells l=[]:=by
    cases hq:wsC cells l with
    | nil=>rfl
    | cons a r=>rw[hq]at er;simp[zae]at er
   rw[e0]at a2⊢;have a3:Den Γ G 576 [.t (ints l),.t (.sl [])]=some (vb (zHi l [])):=a2;simp -dsimp -implicitDefEqProofs only[go_sem,seval,g14,DB,e6,a3]
   try rfl
  ·rw[e6]at Bh ht;have tb:((zae (wsC cells l)).length<=(zae (wsC cells l)).length)=True:=eq_true (Nat.le_refl _);have tk:List.take (zae (wsC cells l)).length (zae (wsC cells l))=zae (wsC cells l):=List.take_length;have tt:=zHM h 999 (wsC cells l);have a3:Den Γ G 576 [.t (ints l),.t (.sl ((wsC cells l).map fun n=>[ti n]))]=some (vb (zHi l (wsC cells l))):=a2;simp -dsimp -implicitDefEqProofs only[go_sem,seval,g14,DB,e6,hh,tb,tk,tt,a3]
def cmb (φ:Nat->Nat->Nat) (a b:List Nat):Nat->List Nat
 | 0=>a
 | i+1=>(cmb φ a b i).set i (φ (a.getD i 0) (b.getD i 0))
theorem zH1 (φ:Nat->Nat->Nat) (a b:List Nat): ∀i,(cmb φ a b i).length=a.length
 | 0=>rfl
 | i+1=>by rw[cmb,List.length_set,zH1 φ a b i]
theorem zJE (φ:Nat->Nat->Nat) (a b:List Nat): ∀i j,j<a.length->(cmb φ a b i)[j]? =some (if j<i then φ (a.getD j 0) (b.getD j 0)else a.getD j 0)
 | 0,j,h=>by simp[cmb,zK,zI h]
 | i+1,j,h=>by
   rw[cmb,List.getElem?_set,zH1]
   by_cases q:i=j
   ·subst q;rw[if_pos rfl,if_pos h,if_pos (by omega)]
   ·rw[if_neg q,zJE φ a b i j h]
    by_cases q2:j<i
    ·rw[if_pos q2,if_pos (by omega)]
    ·rw[if_neg q2,if_neg (by omega)]
theorem zux (a b:Nat) (ha:a<2^64) (hb:b<2^64):Den Γ G 559 [vw a,vw b]=some (vw (a&&& b)):=by
 have e:=zLI ha hb
 (refine zag Γ559 rfl ?_;dsimp only[zQg])
 simp -dsimp -implicitDefEqProofs only[go_sem,seval,e]
set_option maxRecDepth 100000
set_option maxHeartbeats 4000000 in
theorem zIH {l ws:List Int} (S:Shp l ws) {s t:List Nat} (Es:Elems ws s) (Et:Elems ws t) (g:Nat) (φ:Nat->Nat->Nat)
 (hφ: ∀a b,a<2^64->b<2^64->φ a b<2^64/\Den Γ G g [vw a,vw b]=some (vw (φ a b))):
 Den Γ G 550 [zGj l ws (nI s),zGj l ws (nI t),.t (.fn g [] [])]=some (.tup [zGj l ws (zHd (cmb φ (zGt s) (zGt t) 64) 64),vi 0]):=by
 have v1:=zGV S Es;have v2:=zGV S Et;have q1:=zJw l (by have:=S.len;omega);have q2:=zJw ws (by have:=S.len;have:=S.wl;omega);have m1:=zJ5 s (Es.lt4 S) (Es.len S);have m2:=zJ5 t (Et.lt4 S) (Et.len S);have B1:=zGB (Es.lt4 S);have B2:=zGB (Et.lt4 S);have l1:(bmV (zGt s)).length=64:=by simp[bmV,B1.len]
 have l2:(bmV (zGt t)).length=64:=by simp[bmV,B2.len]
 generalize zGt s=a at *
 generalize zGt t=b at *
 have b64:(64<=64)=True:=eq_true (by omega);unfold zGj at v1 v2⊢
 (refine zag Γ550 rfl ?_;dsimp only[zQh])
 simp -dsimp -implicitDefEqProofs only[go_sem,seval,v1,v2,q1,q2,m1,m2,l1,l2,b64];refine zaq 72053195991417856 64 (fun i f h x=>(f 42).v=vi i/\h 34=some (.rows 64 [bmV (cmb φ a b i)] false)/\35<=x) rfl ⟨by simp -dsimp -implicitDefEqProofs only[go_sem,seval],by simp -dsimp -implicitDefEqProofs only[go_sem,seval];rfl,by simp -dsimp -implicitDefEqProofs only[go_sem,seval]⟩ ?_;rintro i f u h x bb hi ⟨g42,UJ,hx⟩;have hw:=zan i (by omega);have By:(bmV (cmb φ a b i)).length=64:=by simp[bmV,zH1,B1.len]
 by_cases AV:i<64
 ·have DB:((i:Int)<64)=True:=eq_true (by omega);have Pj:i<a.length:=by rw[B1.len];exact AV
  obtain⟨wa,ha,Cp⟩:=zai Pj;obtain⟨wb,hb,EW⟩:=zai (show i<b.length by rw[B2.len];exact AV);obtain⟨f1,f2⟩:=hφ wa wb (B1.lt wa Cp) (B2.lt wb EW)
  have Id:(cmb φ a b i)[i]? =some wa:=by
   rw[zJE φ a b i i Pj,if_neg (by omega),zK,ha,Option.getD_some]
  have r1:List.take 1 (List.drop (i*1) (bmV (cmb φ a b i)))=[vw wa]:=by
   rw[Nat.mul_one,zdo (l:=bmV (cmb φ a b i)) (x:=vw wa) (by rw[bmV,zJ,Id];rfl)];rfl
  have r2:List.take 1 (List.drop (i*1) (bmV b))=[vw wb]:=by
   rw[Nat.mul_one,zdo (l:=bmV b) (x:=vw wb) (by rw[bmV,zJ,hb];rfl)];rfl
  have c1:(i*1+1<=64)=True:=eq_true (by omega)
  have r3:List.take (i*1) (bmV (cmb φ a b i))++[vw (φ wa wb)]++List.drop (i*1+1) (bmV (cmb φ a b i))=bmV (cmb φ a b (i+1)):=by
   have:i<(cmb φ a b i).length:=by rw[zH1];exact Pj
   rw[Nat.mul_one,bmV,cmb,zK,ha,zK,hb,Option.getD_some,Option.getD_some,bmV,List.map_set,List.set_eq_take_append_cons_drop,if_pos (by simpa using this)];simp
  simp -dsimp -implicitDefEqProofs only[go_sem,seval,g42,DB,UJ,By,l2,c1,r1,r2,r3,f2];refine⟨AV,by simp -dsimp -implicitDefEqProofs only[go_sem,seval,hw],?_,by simp -dsimp -implicitDefEqProofs only[go_sem,seval];omega⟩;simp -dsimp -implicitDefEqProofs only[go_sem,seval]
 ·have DB:((i:Int)<64)=False:=eq_false (by omega);have:i=64:=by omega
  subst this
  have Bc:Bm (cmb φ a b 64):=⟨by rw[zH1,B1.len],fun w hw=>by
   obtain⟨j,hj,rfl⟩:=List.getElem_of_mem hw;have TA:j<a.length:=by rw[zH1]at hj;exact hj
   have h1:=zJE φ a b 64 j TA;rw[if_pos (by rw[B1.len]at TA;exact TA),zI hj,zA]at h1;rw[h1];obtain⟨wa,ha,Cp⟩:=zai TA;obtain⟨wb,hb,EW⟩:=zai (show j<b.length by rw[B2.len,<- B1.len];exact TA);rw[zK,zK,ha,hb]
   exact(hφ wa wb (B1.lt wa Cp) (B2.lt wb EW)).1⟩
  simp -dsimp -implicitDefEqProofs only[go_sem,seval,g42,DB];refine zas (zJ9 _ Bc UJ (by omega)) ?_;rintro r h' n' ⟨hO,Bn,A8,KA⟩;have y1:=hO.valOf;have y2:=hO.cells;simp -dsimp -implicitDefEqProofs only[go_sem,seval,y1];refine zas (zLc l ws r y1 y2 (by have:=S.len;omega) (by have:=S.len;have:=S.wl;omega) _ _) ?_;rintro r2 h2 n2 ⟨a2,b2,rfl,oa,ob,off,keep,ML,⟨va,ca⟩,⟨vb2,cb2⟩⟩;have t1:=zHt oa;have t2:=zHt ob;have Cz:=hO.keep ML fun k hk _=>keep k (by omega)
  have t3:toT h2 1000 r=some (ints (zHd (cmb φ a b 64) 64)):=zcc (es:=(zHd (cmb φ a b 64) 64).map fun n=>[ti n]) Cz (zbP _);simp -dsimp -implicitDefEqProofs only[go_sem,seval,va,vb2,y1];rw[t1,t2,t3];rfl
end Rg
end
section
namespace Rg
open Go
theorem zHk {L:List Nat} (h:L.Pairwise (· < ·)) {N:Nat} (hN: ∀n∈L,n<N) {p:Nat->Bool} (hp: ∀n,n<N->(p n=true<->n∈L)):(List.range N).filter p=L:=by
 have h1:((List.range N).filter p).Pairwise (· < ·):=List.Pairwise.filter _ List.pairwise_lt_range;refine List.Perm.eq_of_pairwise (le:=(· < ·)) (fun a b _ _ h1 h2=>by omega) h1 h ((List.perm_ext_iff_of_nodup (h1.imp fun h=>by omega) (h.imp fun h=>by omega)).2 fun a=> ?_);simp only[List.mem_filter,List.mem_range];exact⟨fun⟨h1,h2⟩=>(hp a h1).1 h2,fun h=>⟨hN a h,(hp a (hN a h)).2 h⟩⟩
theorem zLl {L:List Nat} (h:L.Pairwise (· < ·)) (hN: ∀n∈L,n<4096) {ws:List Nat} (hw: ∀n,n<4096->(zIO ws n=true<->n∈L)):zHd ws 64=nI L:=by
 rw[zIw,zHk (N:=64*64) h (fun n hn=>hN n hn) (fun n hn=>hw n hn)]
theorem zMQ {L:List Nat} (h:L.Pairwise (· < ·)) (hN: ∀n∈L,n<4096):zHd (zGt L) 64=nI L:=
 zLl h hN fun n _=>by rw[zHP hN,List.contains_iff_mem]
def zNk (h h':Nat->Option O):Prop:= ∀j sz rs fz,h j=some (.rows sz rs fz)-> ∃fz',h' j=some (.rows sz rs fz')
theorem zKe {L:List (Nat×O)}: ∀{h:Nat->Option O} {k:Nat},(∀x∈L,x.1≠k)->At h L k=h k:=by
 induction L with
 | nil=>intro h k _;rw[zaA]
 | cons x L ih=>
   intro h k hx;rw[show x=(x.1,x.2)from rfl,zaC,ih fun y hy=>hx y (List.mem_cons_of_mem _ hy),zaa,if_neg (fun e=>hx x List.mem_cons_self e.symm)]
theorem zOX {k:Nat} {o:O}: ∀{L:List (Nat×O)} {h:Nat->Option O},(∀x∈L,x.1=k->x.2=o)->At h L k=h k\/At h L k=some o:=by
 intro L
 induction L with
 | nil=>intro h _;rw[zaA];exact .inl rfl
 | cons x L ih=>
   intro h hx;rw[show x=(x.1,x.2)from rfl,zaC];rcases ih (h:=updC h x.1 (some x.2)) (fun y hy=>hx y (List.mem_cons_of_mem _ hy))with h1 | h1
   ·rw[h1,zaa];split
    ·rename_i he;rw[hx x List.mem_cons_self he.symm];exact .inr rfl
    ·exact .inl rfl
   ·exact .inr h1
theorem zPB (h:Nat->Option O) (L:List Nat):zNk h (At h (freezes h L)):=by
 intro k sz rs f hk
 have:=zOX (k:=k) (o:=.rows sz rs true) (L:=freezes h L) (h:=h) (by
  intro x hx he;simp only[freezes,List.mem_filterMap]at hx;obtain⟨j,_,hj⟩:=hx;split at hj
  ·rename_i sz' rs' f' hq;cases hj;simp only at he;subst he;rw[hk]at hq;cases hq;rfl
  ·cases hj)
 rcases this with h1 | h1
 ·exact⟨f,h1.trans hk⟩
 ·exact⟨true,h1⟩
theorem zGs {r:V} {h:Nat->Option O} {vs:List V} {K:V->(Nat->Option O)->Prop} {w:WK K} (P:Nat->Prop) (hr: ∀j∈vs.flatMap (zba h),P j)
 (hK: ∀h',(∀j,¬P j->h' j=h j)->zNk h h'->K r h'):zlN (some r) false h vs K w:=by
 unfold zlN;simp only;split
 ·exact hK h (fun _ _=>rfl) fun j sz rs fz hj=>⟨fz,hj⟩
 ·refine⟨fun h=>Bool.noConfusion h,hK _ (fun j hj=>zKe fun x hx=> ?_) (zPB h _)⟩;simp only[freezes,List.mem_filterMap]at hx;obtain⟨q,hq,hx⟩:=hx;split at hx
  ·cases hx;rintro rfl;exact hj (hr _ hq)
  ·cases hx
def LsF (h:Nat->Option O) (P:Nat->Prop) (v:V) (l:List Int):Prop:=
 (v= .t (.sl [])/\l=[])\/ ∃k f,v= .ms k 0 l.length/\P k/\h k=some (.rows 1 (zae l) f)
theorem LsF.mono {h h':Nat->Option O} {P:Nat->Prop} {v:V} {l:List Int} (o:LsF h P v l) (hh:zNk h h'):LsF h' P v l:=by
 rcases o with o | ⟨k,f,h1,h2,h3⟩
 ·exact .inl o
 ·obtain⟨f',h4⟩:=hh k _ _ _ h3;exact .inr ⟨k,f',h1,h2,h4⟩
theorem LsF.keep {h h':Nat->Option O} {P:Nat->Prop} {v:V} {l:List Int} (o:LsF h P v l) (hh: ∀j,P j->h' j=h j):LsF h' P v l:=by
 rcases o with o | ⟨k,f,h1,h2,h3⟩
 ·exact .inl o
 ·exact .inr ⟨k,f,h1,h2,by rw[hh k h2];exact h3⟩
theorem LsF.val {h:Nat->Option O} {P:Nat->Prop} {v:V} {l:List Int} (o:LsF h P v l):Rg.valOf v=some v/\V.cells v=some [v]:=by
 rcases o with⟨rfl,_⟩ | ⟨k,f,rfl,_,_⟩<;>exact⟨rfl,rfl⟩
theorem LsF.toT {h:Nat->Option O} {P:Nat->Prop} {v:V} {l:List Int} (o:LsF h P v l):Rg.toT h 1000 v=some (ints l):=by
 rcases o with⟨rfl,rfl⟩ | ⟨k,f,rfl,_,hk⟩
 ·rfl
 ·simp only[Rg.toT,hk,rd];rw[if_pos (by rw[zab];omega),zC,zD,List.drop_zero,List.take_of_length_le (by rw[zab];omega)];have:=zHM h 999 l;rw[this];rfl
theorem zI1 (l:List Int): ∀r∈zae l,∀v∈r,V.tree v=true:=by
 intro r hr v hv;obtain⟨b,hb,rfl⟩:=List.mem_map.1 hr;obtain⟨n,_,rfl⟩:=List.mem_map.1 hb;simp at hv;subst hv;rfl
theorem LsF.reach {h:Nat->Option O} {P:Nat->Prop} {v:V} {l:List Int} (o:LsF h P v l): ∀j∈Rg.reach h 1000 v,P j:=by
 rcases o with⟨rfl,rfl⟩ | ⟨k,f,rfl,hp,hk⟩
 ·intro j hj;simp[Rg.reach]at hj
 ·intro j hj;have:=zo6 (i:=0) (n:=l.length) hk (zI1 l);simp only[List.flatMap_cons,List.flatMap_nil,List.append_nil,zba]at this;rw[this,List.mem_singleton]at hj;subst hj;exact hp
theorem zB1.lsF {h:Nat->Option O} {x:Nat} {v:V} {l:List Int} {P:Nat->Prop} (o:zB1 h x v (zae l)) (hP: ∀k,k<x-> ¬zbg v k->P k):LsF h P v l:=by
 rcases o with⟨h1,h2⟩ | ⟨k,h1,h2,h3⟩
 ·refine .inl ⟨h1,?_⟩;have:=congrArg List.length h2;rw[zab]at this;exact List.eq_nil_of_length_eq_zero this
 ·rw[zab]at h1;exact .inr ⟨k,false,h1,hP k h2 (fun ho=>ho _ _ h1),h3⟩
def pC (cells:List Cell):Prog:=⟨cells,[],[],[]⟩
def zGi:List Int:=List.replicate 32 0
def prL (cells:List Cell) (l:List Int) (e:Expr) (n:Nat):Bool:=decide (e.eval (stM (pC cells) l (n:Int) zGi) (stM (pC cells) l (n:Int) zGi)=1)
def ofR (cells:List Cell) (l:List Int) (e:Expr):V:=
 if zHi l (wsC cells l)=false then .tup [zGj [] [] [],vi 1]else
 if zGp (wsC cells l)>12 then .tup [zGj [] [] [],vi 2]else
 if(e.valid cells false&&decide (e.w=1))=false then .tup [zGj [] [] [],vi 60]else
 .tup [zGj l (wsC cells l) (nI (inL (pC cells) l zGi e)),vi 0]
theorem zGw {cells:List Cell} {l:List Int} (Mv: ∀c∈l,0<=c/\c<cells.length) (h:zHi l (wsC cells l)=true):wsC cells l=wsM (pC cells) l:=by
 simp only[zHi,zF,zN,decide_eq_true_eq]at h;refine List.map_congr_left fun c hc=> ?_
 obtain⟨i,hi,rfl⟩:=List.getElem_of_mem hc;obtain⟨h0,h1⟩:=Mv _ (List.getElem_mem hi);have h2:=h.2 (l[i],(cells.getD l[i].toNat ⟨bs [],0,0,0,false,0⟩).w) (zL (i:=i) (by rw[List.getElem?_zip_eq_some];exact⟨zI hi,by rw[wsC,zJ,zI hi];rfl⟩));simp only at h2;obtain⟨y,hy,_⟩:=zai (show l[i].toNat<cells.length by omega);rw[zK,hy,Option.getD_some]at h2⊢;have:wOf (pC cells) l[i]=y.w.toNat:=by rw[wOf];show(match cells[l[i].toNat]? with | some x=>x.w.toNat | none=>0)=_;rw[hy]
 rw[this];omega
theorem zLb {cells:List Cell} {l:List Int} (hR:l.Pairwise (· < ·)) (Mv: ∀c∈l,0<=c/\c<cells.length) (h:zHi l (wsC cells l)=true) (hs:zGp (wsC cells l)<=12):Shp l (wsM (pC cells) l):=by
 have e:=zGw Mv h;rw[<- e];have h':=h;simp only[zHi,zF,zN,decide_eq_true_eq]at h'
 have hc: ∀c∈l,0<=c/\c<32:=fun c hc=>by
  obtain⟨i,hi,rfl⟩:=List.getElem_of_mem hc;have h2:=h'.2 (l[i],(cells.getD l[i].toNat ⟨bs [],0,0,0,false,0⟩).w) (zL (i:=i) (by rw[List.getElem?_zip_eq_some];exact⟨zI hi,by rw[wsC,zJ,zI hi];rfl⟩));simp only at h2;omega
 have hw: ∀n∈wsC cells l,0<=n/\n<=8:=fun n hn=>by
  obtain⟨i,hi,rfl⟩:=List.getElem_of_mem hn;have AV:i<l.length:=by simpa[wsC]using hi
  have h2:=h'.2 (l[i],(wsC cells l)[i]) (zL (i:=i) (by rw[List.getElem?_zip_eq_some];exact⟨zI AV,zI hi⟩));simp only at h2;omega
 refine⟨hR,?_,h,hw,?_,hs⟩
 ·exact zgX 32 l (hR.imp fun h=>by omega) fun k hk=>by have:=hc k hk;omega
 ·rw[e,zHb];omega
theorem zHp {cells:List Cell} {l:List Int} {e:Expr} (S:Shp l (wsM (pC cells) l)):Elems (wsM (pC cells) l) (inL (pC cells) l zGi e):=by
 refine⟨List.Pairwise.filter _ List.pairwise_lt_range,fun n hn=> ?_⟩;have:=(zHo.1 hn).1;rw[zHb,Int.toNat_natCast];exact this
theorem zIs (cells:List Cell) (l:List Int) (e:Expr) (hR:l.Pairwise (· < ·)) (hl:l.length<2^20) (Mv: ∀c∈l,0<=c/\c<cells.length) (hs:e.valid cells false=true-> ∀c∈e.sup 2,c∈l):
 Den Γ G 509 [.t (.sl (cells.map Cell.enc)),.t (ints l),(.agg [.t (ti (e).op),.t (ti (e).w),.t (ti (e).n),.t (.sl ((e).kids.map (Expr.enc)))])]=some (ofR cells l e):=by
 have a1:=zJL cells l hR hl Mv;have a2:=zfS e cells false
 (refine zag Γ509 rfl ?_;dsimp only[zQL])
 unfold ofR
 by_cases b1:zHi l (wsC cells l)=true
 rotate_left
 ·have b1':zHi l (wsC cells l)=false:=by simpa using b1
  rw[b1']at a1;rw[if_pos b1'];simp -dsimp -implicitDefEqProofs only[go_sem,seval,a1];rfl
 rw[b1]at a1;rw[if_neg (by rw[b1];simp)]
 have Fy: ∀n∈wsC cells l,0<=n/\n<=8:=fun n hn=>by
  have h':=b1;simp only[zHi,zF,zN,decide_eq_true_eq]at h';obtain⟨i,hi,rfl⟩:=List.getElem_of_mem hn;have AV:i<l.length:=by simpa[wsC]using hi
  have h2:=h'.2 (l[i],(wsC cells l)[i]) (zL (i:=i) (by rw[List.getElem?_zip_eq_some];exact⟨zI AV,zI hi⟩));simp only at h2;omega
 have a3:=zG3 (wsC cells l) Fy (by simp[wsC];omega);have IY:zGp (wsC cells l)=(zcD (pC cells) l:Int):=by rw[zGw Mv b1,zHb]
 rw[IY]at a3⊢
 by_cases b2:(zcD (pC cells) l:Int)>12
 ·have b2':=eq_true b2;rw[if_pos b2];simp -dsimp -implicitDefEqProofs only[go_sem,seval,a1,a3,b2'];rfl
 have b2':=eq_false b2;rw[if_neg b2];have S:=zLb hR Mv b1 (by rw[IY];omega)
 cases b3:e.valid cells false with
 | false=>
   rw[b3]at a2;rw[if_pos (by simp)];simp -dsimp -implicitDefEqProofs only[go_sem,seval,a1,a3,b2',a2]
   rfl
 | true=>
 rw[b3]at a2
 by_cases b4:e.w=1
 rotate_left
 ·have b4':=eq_false b4;rw[if_pos (by simp[b4])];simp -dsimp -implicitDefEqProofs only[go_sem,seval,a1,a3,b2',a2,b4'];rfl
 have b4':=eq_true b4;rw[if_neg (by simp[b4])];simp -dsimp -implicitDefEqProofs only[go_sem,seval,a1,a3,b2',a2,b4'];refine zas (zfo e _ _) ?_;rintro r h' n' ⟨v3,v2,rfl,o3,o2,hn,hk⟩;have y1:=o2.valOf;have y2:=o2.lenS;have y3:=o3.valOf;have y4:(zae (e.sup 2)).length=(e.sup 2).length:=zab _;rw[y4]at y2;simp -dsimp -implicitDefEqProofs only[go_sem,seval,y1,y2,y3];refine zaq 575897802350010560 (e.sup 2).length (fun i f h x=>(f 49).v=vi i/\h=h'/\n'<=x/\(f 6).v= .lb/\(f 6).box=some [.t .nils,.t .nils,.t .nils]) rfl ⟨by simp -dsimp -implicitDefEqProofs only[go_sem,seval],rfl,by simp -dsimp -implicitDefEqProofs only[go_sem,seval];omega,by simp -dsimp -implicitDefEqProofs only[go_sem,seval],by simp -dsimp -implicitDefEqProofs only[go_sem,seval]⟩ ?_;rintro i f u h x bb hi ⟨g49,rfl,hx,g6,g6b⟩
 have hw:=zan i (by
  have:=zfp 2 e;omega)
 by_cases AV:i<(e.sup 2).length
 ·have DB:=eq_true AV;obtain⟨c,hc,BI⟩:=zai AV;have Ez:=zff l (e.sup 2)[i] (by omega);rw[show l.contains (e.sup 2)[i]=true from List.contains_iff_mem.2 (hs b3 _ (List.getElem_mem AV))]at Ez;rcases o2 with⟨rfl,e0⟩ | ⟨k2,rfl,AF,Cl⟩
  ·have:=congrArg List.length e0;rw[y4,List.length_nil]at this;omega
  ·rw[y4]at *;have B5:=zud AV;simp -dsimp -implicitDefEqProofs only[go_sem,seval,g49,DB,Cl,B5,hc,Ez];exact⟨AV,by simp -dsimp -implicitDefEqProofs only[go_sem,seval,hw],rfl,by simp -dsimp -implicitDefEqProofs only[go_sem,seval];omega,by simp -dsimp -implicitDefEqProofs only[go_sem,seval,g6],by simp -dsimp -implicitDefEqProofs only[go_sem,seval,g6b]⟩
 have DB:=eq_false AV;simp -dsimp -implicitDefEqProofs only[go_sem,seval,g49,DB];refine zas (zLc l (wsC cells l) (.t .nils) rfl rfl (by omega) (by simp[wsC];omega) _ _) ?_;rintro r2 h2 n2 ⟨va,vb2,rfl,oa,ob,off,keep,ML,⟨z1,z2⟩,⟨z3,z4⟩⟩;unfold V.cells at z2 z4;have hB:zcD (pC cells) l<=12:=by omega
 have s0:((zcD (pC cells) l:Int)<0)=False:=eq_false (by omega);have S1:(2:Nat)^zcD (pC cells) l<=2^12:=Nat.pow_le_pow_right (by omega) (by omega)
 have s1:IntKind.i64.wrap (1*2^min (zcD (pC cells) l) 64)=((2^zcD (pC cells) l:Nat):Int):=by
  have h4:(1*2^min (zcD (pC cells) l) 64:Int)=((2^zcD (pC cells) l:Nat):Int):=by
   rw[Nat.min_eq_left (by omega)];push_cast;omega
  rw[h4]
  generalize(2:Nat)^zcD (pC cells) l=q at S1⊢
  exact zaH (by omega)
 simp -dsimp -implicitDefEqProofs only[go_sem,seval,z1,z2,z3,z4,a3,s0,s1]
 have IF: ∀i,i<=2^zcD (pC cells) l-> ∀n∈(List.range i).filter (prL cells l e),n<4096:=fun i hi n hn=>by
  have:=List.mem_range.1 (List.mem_filter.1 hn).1;omega
 refine zaq 2417777852252963511599104 (2^zcD (pC cells) l) (fun i f h x=>(f 66).v=vi i/\LsF h (· <n2) va l/\LsF h (· <n2) vb2 (wsC cells l)/\(∃fz,h (n2+0)=some (.rows 1 (zae zGi) fz))/\
  h (n2+2+0)=some (.rows 64 [bmV (zGt ((List.range i).filter (prL cells l e)))] false)/\n2+3<=x) rfl ⟨by simp -dsimp -implicitDefEqProofs only[go_sem,seval],?_,?_,⟨false,?_⟩,?_,by simp -dsimp -implicitDefEqProofs only[go_sem,seval];omega⟩ ?_
 ·exact(oa.keep fun j hj=>by rw[zaa,if_neg (by omega),zaa,if_neg (by omega)]).lsF fun k hk _=>hk
 ·exact(ob.keep fun j hj=>by rw[zaa,if_neg (by omega),zaa,if_neg (by omega)]).lsF fun k hk _=>hk
 ·rw[zaa,if_neg (by omega),zaa,if_pos rfl];rfl
 ·rw[zaa,if_pos rfl];rfl
 rintro i f u h x bb hi ⟨g66,la,lb,⟨fz,hb⟩,hm,hx⟩;have hw:=zan i (by omega)
 by_cases AV:i<2^zcD (pC cells) l
 ·have DB:(i<2^zcD (pC cells) l)=True:=eq_true AV;have t1:=la.toT;have t2:=lb.toT;have lz:LsF h (· <n2+1) (.ms (n2+0) 0 32) zGi:=.inr ⟨_,fz,rfl,by omega,hb⟩;have t3:=lz.toT;have t4:toT h 1000 zn=some (ints []):=rfl;have st:=zIX (pC cells) l [] S i (by omega) zGi rfl;rw[<- zGw Mv b1]at st;have ev:=zd4 e (stM (pC cells) l i zGi) (stM (pC cells) l i zGi);unfold zGj at st;simp -dsimp -implicitDefEqProofs only[go_sem,seval,g66,DB,z1,z3,↓t1,↓t2,↓t3,↓t4,st];refine zGs (· <n2+1) ?_ ?_
  ·intro j hj;simp only[List.flatMap_cons,List.flatMap_nil,zba,List.mem_append,List.append_nil]at hj;rcases hj with(hj | hj | hj) | hj | hj
   ·have:=la.reach j hj;omega
   ·have:=lb.reach j hj;omega
   ·simp[reach]at hj
   ·simp[reach]at hj
   ·exact lz.reach j hj
  intro h3 SH AG;obtain⟨fz3,H9⟩:=AG _ _ _ _ hb;have Qu:h3 (n2+2+0)=some (.rows 64 [bmV (zGt ((List.range i).filter (prL cells l e)))] false):=by rw[SH _ (by omega)];exact hm
  have la3:=la.mono AG;have lb3:=lb.mono AG
  by_cases hp:prL cells l e i=true
  ·have c1:=eq_true (of_decide_eq_true hp);simp -dsimp -implicitDefEqProofs only[go_sem,seval,ev,c1];refine zas (zLG _ (zGB (IF i hi)) i (by omega) Qu) ?_;rintro r4 h4 n4 ⟨q1,q2,q3⟩;simp -dsimp -implicitDefEqProofs only[go_sem,seval,g66];refine⟨AV,by simp -dsimp -implicitDefEqProofs only[go_sem,seval,hw],la3.keep fun j hj=>q2 j (by omega),lb3.keep fun j hj=>q2 j (by omega),⟨fz3,?_⟩,?_,by simp -dsimp -implicitDefEqProofs only[go_sem,seval];omega⟩
   ·simp -dsimp -implicitDefEqProofs only[go_sem,seval];rw[q2 _ (by omega)];exact H9
   ·simp -dsimp -implicitDefEqProofs only[go_sem,seval]
    (try rw[List.range_succ])
    rw[List.filter_append,List.filter_cons,if_pos hp,List.filter_nil,zHO];exact q1
  ·have c1:=eq_false (of_decide_eq_false (by simpa[prL]using hp): ¬e.eval (stM (pC cells) l (i:Int) zGi) (stM (pC cells) l (i:Int) zGi)=1);simp -dsimp -implicitDefEqProofs only[go_sem,seval,ev,c1,g66];refine⟨AV,by simp -dsimp -implicitDefEqProofs only[go_sem,seval,hw],la3,lb3,⟨fz3,H9⟩,?_,by simp -dsimp -implicitDefEqProofs only[go_sem,seval];omega⟩
   (try rw[List.range_succ])
   rw[List.filter_append,List.filter_cons,if_neg hp,List.filter_nil,List.append_nil];exact Qu
 ·have DB:(i<2^zcD (pC cells) l)=False:=eq_false AV;have:i=2^zcD (pC cells) l:=by omega
  subst this;have hL:=IF _ (Nat.le_refl _);have Vl:((List.range (2^zcD (pC cells) l)).filter (prL cells l e)).Pairwise (· < ·):=List.Pairwise.filter _ List.pairwise_lt_range;simp -dsimp -implicitDefEqProofs only[go_sem,seval,g66,DB];refine zas (zJ9 _ (zGB hL) hm (by omega)) ?_;rintro r4 h4 n4 ⟨hO,Bn,A8,KA⟩;have y1:=hO.valOf;have y5:=hO.cells;unfold V.cells at y5;have la4:=la.keep fun j hj=>A8 j (by omega)
  have lb4:=lb.keep fun j hj=>A8 j (by omega)
  have t1:=la4.toT;have t2:=lb4.toT;have t3:toT h4 1000 r4=some (ints (zHd (zGt ((List.range (2^zcD (pC cells) l)).filter (prL cells l e))) 64)):=zcc (es:=(zHd (zGt ((List.range (2^zcD (pC cells) l)).filter (prL cells l e))) 64).map fun n=>[ti n]) hO (zbP _);rw[zMQ Vl hL]at t3;simp -dsimp -implicitDefEqProofs only[go_sem,seval,y1,y5,z1,z2,z3,z4,g6,g6b];rw[t1,t2,t3];rfl
theorem zIu {p:Prog} {mem:List Int} (c:Int): ∀l:List Int,zGE p mem (l++[c])=zGE p mem l+2^zcD p l*(atI mem c % 2^wOf p c)
 | []=>by simp[zGE,zcD]
 | d::l=>by
   have hb:zcD p (d::l)=wOf p d+zcD p l:=by simp[zcD]
   rw[List.cons_append,zGE,zIu c l,zGE,hb,Int.mul_add,Int.pow_add,Int.mul_assoc,Int.add_assoc]
end Rg
end
section
namespace Rg
open Go
end Rg
end
section
namespace Rg
open Go
noncomputable def envC:(Nat->Slot)->Nat->V:=(Classical.choice (⟨⟨fun sl t=>(sl t).v,rfl⟩⟩:Nonempty {g:(Nat->Slot)->Nat->V// g=fun sl t=>(sl t).v})).1
theorem zsV:envC=fun sl t=>(sl t).v:=(Classical.choice (⟨⟨fun sl t=>(sl t).v,rfl⟩⟩:Nonempty {g:(Nat->Slot)->Nat->V// g=fun sl t=>(sl t).v})).2
@[go_sem ↓]theorem zBO (sl:Nat->Slot) (t:Nat):envC sl t=(sl t).v:=by rw[zsV]
@[go_sem ↓]theorem zzA (f:Nat->V) (i j:Nat) (v:V):updC f i v j=pk (j==i) v (f j) ⟨0⟩:=by rw[zaL,zql];rfl
def zrK (env:Nat->V) (ps:List Nat) (vs:List V):Nat->Slot:=fun t=>⟨zhB env ps vs t,none,none⟩
noncomputable def rndS:(Nat->V)->List Nat->List V->Nat->Slot:=(Classical.choice (⟨⟨zrK,rfl⟩⟩:Nonempty {g:(Nat->V)->List Nat->List V->Nat->Slot// g=zrK})).1
theorem znO:rndS=zrK:=(Classical.choice (⟨⟨zrK,rfl⟩⟩:Nonempty {g:(Nat->V)->List Nat->List V->Nat->Slot// g=zrK})).2
@[go_sem ↓]theorem zzE (env:Nat->V) (t:Nat):(rndS env [] [] t).v=env t:=by rw[znO];rfl
@[go_sem ↓]theorem zyg (env:Nat->V) (p:Nat) (ps:List Nat) (v:V) (vs:List V) (t:Nat):(rndS env (p::ps) (v::vs) t).v=(rndS (updC env p v) ps vs t).v:=by rw[znO,zaL];rfl
section
variable {Γ:Nat->Option F} {G:Nat->List T}
def zBm (o:Option (V×(Nat->Option O)×Nat)) (k:Nat) (K:Ex->(Nat->Option O)->Nat->Prop) (_:WK K):Prop:=
 ∃r h' n',o=some (r,h',n')/\ ∃env ps bd st e,h' k=some (.loop env ps bd st)/\st.ends=some e/\K e (updC h' k (some .dead)) n'
@[go_sem ↓]theorem zAZ (x:Opd) (ps:List Nat) (bd:C) (Q:Ex->M->Prop) (sl:Nat->Slot) (u:Nat->Bool) (h:Nat->Option O) (n b:Nat) (w:W3 (.rangeF x ps bd) Q ⟨sl,u,h,n,b⟩):
 wC Γ G (.rangeF x ps bd) Q ⟨sl,u,h,n,b⟩ w=fnK (zaW G sl x) (fun g a c=>zBm (DenR Γ G g (a++[V.yl n]++c) (updC h n (some (.loop (envC sl) ps bd .ready))) (n+1)) n (fun e h' n'=>Q e ⟨sl,u,h',n',b⟩) ⟨0⟩) ⟨0⟩:=by
 unfold wC;rw[zbS,zaL,zsV];simp only[wpC,za2]
 cases zaW G sl x with
 | none=>rfl
 | some v=>
   simp only[zD,fnK]
   cases zfC v with
   | none=>rfl
   | some q=>
     obtain⟨g,a,c⟩:=q;simp only[zBm,zaL];apply propext;constructor
     ·rintro⟨r,h',n',hc,_,env',ps',bd',st,e,hl,he,hQ⟩;exact⟨r,h',n',zcI.2 hc,env',ps',bd',st,e,hl,he,hQ⟩
     ·rintro⟨r,h',n',hc,env',ps',bd',st,e,hl,he,hQ⟩;exact⟨r,h',n',zcI.1 hc,zxp (zcI.1 hc),env',ps',bd',st,e,hl,he,hQ⟩
theorem znN {o:Option (V×(Nat->Option O)×Nat)} {k:Nat} {K:Ex->(Nat->Option O)->Nat->Prop} {w:WK K} {P:Ex->(Nat->Option O)->Nat->Prop}
 (h: ∃r h' n',o=some (r,h',n')/\ ∃env ps bd st e,h' k=some (.loop env ps bd st)/\st.ends=some e/\P e h' n') (hk: ∀e h' n',P e h' n'->K e (updC h' k (some .dead)) n'):zBm o k K w:=by
 obtain⟨r,h',n',e1,env,ps,bd,st,e,e2,e3,hp⟩:=h;exact⟨r,h',n',e1,env,ps,bd,st,e,e2,e3,hk e h' n' hp⟩
def FiY (P:Ex->(Nat->Option O)->Nat->Prop) (e:Ex) (m:M):Prop:=P e m.heap m.nxt
@[go_sem ↓]theorem zCV (P:Ex->(Nat->Option O)->Nat->Prop) (e:Ex) (sl:Nat->Slot) (u:Nat->Bool) (h:Nat->Option O) (n b:Nat):FiY P e ⟨sl,u,h,n,b⟩=SpN (P e h n) ⟨0⟩:=rfl
def zy2 (o:Option O) (K:(Nat->V)->List Nat->C->Prop) (_:WK K):Prop:=match o with
 | some (.loop env ps bd .enter)=>K env ps bd
 | _=>False
@[go_sem]theorem zy1 (env:Nat->V) (ps:List Nat) (bd:C) (K:(Nat->V)->List Nat->C->Prop) (w:WK K):zy2 (some (.loop env ps bd .enter)) K w=K env ps bd:=rfl
variable (Γ G) in
def FiA (k:Nat) (cb:C) (Q:Ex->M->Prop):Ex->M->Prop
 | .normal,m=>zy2 (m.heap k) (fun env ps bd=>wC Γ G cb Q ⟨m.sl,m.used,updC m.heap k (some (.loop env ps bd .busy)),m.nxt,m.bas⟩ ⟨0⟩) ⟨0⟩
 | _,_=>False
@[go_sem ↓]theorem zCW (k:Nat) (cb:C) (Q:Ex->M->Prop) (sl:Nat->Slot) (u:Nat->Bool) (h:Nat->Option O) (n b:Nat):
 FiA Γ G k cb Q .normal ⟨sl,u,h,n,b⟩=zy2 (h k) (fun env ps bd=>wC Γ G cb Q ⟨sl,u,updC h k (some (.loop env ps bd .busy)),n,b⟩ ⟨0⟩) ⟨0⟩:=rfl
theorem zjy {k:Nat} {vs:List V} {h:Nat->Option O} {n:Nat} {env:Nat->V} {ps:List Nat} {ca cb:C} {P:Ex->(Nat->Option O)->Nat->Prop} (hk:h k=some (.loop env ps (.round ca cb) .ready)) (hl:vs.length=ps.length)
 (hb: ∀e h' n',P e h' n'-> ∃env' ps' bd',h' k=some (.loop env' ps' bd' .busy))
 (hw:wC Γ G ca (qOf Γ G [] (FiA Γ G k cb (qOf Γ G [] (FiY P)))) ⟨rndS env ps vs,fun _=>false,updC h k (some (.loop env ps (.round ca cb) .enter)),n,n⟩ ⟨0⟩):
 ∃e h' n',P e h' n'/\ ∃env' ps' bd',h' k=some (.loop env' ps' bd' .busy)/\DenY Γ G k vs h n=some (.t (.bool (decide (e=Ex.normal))),updC h' k (some (.loop env' ps' bd' e.toL)),n'):=by
 unfold wC at hw;rw[zbS,zcz,znO,zaL]at hw;obtain⟨e0,m1,hA,hF⟩:=zq7 hw
 cases e0 with
 | exit id=>exact hF.elim
 | ret=>exact hF.elim
 | normal=>
   have K2:zy2 (m1.heap k) (fun env ps bd=>wC Γ G cb (zqi Γ G [] (FiY P)) ⟨m1.sl,m1.used,updC m1.heap k (some (.loop env ps bd .busy)),m1.nxt,m1.bas⟩ ⟨0⟩) ⟨0⟩:=by
    exact hF
   unfold zy2 at K2;split at K2
   ·rename_i env1 ps1 bd1 A3;unfold wC at K2;rw[zbS,zaL]at K2;obtain⟨e,m',hB,hP⟩:=zq7 K2;obtain⟨env',ps',bd',Ah⟩:=hb _ _ _ hP;refine⟨e,m'.heap,m'.nxt,hP,env',ps',bd',Ah,zlM.2 ⟨env,ps,ca,cb,m1.st,env1,ps1,bd1,env',ps',bd',e,m'.st,hk,hl,hA,A3,hB,Ah,rfl,by rw[zaL];rfl,rfl⟩⟩
   ·exact K2.elim
end
end Rg
end
section
namespace Rg
open Go
end Rg
end
section
namespace Rg
open Go
set_option maxRecDepth 10000
end Rg
end
section
namespace Rg
open Go
def zIe (e:Expr):Bool:=decide (e.w=1)&&e.formed
def isC (k:Int) (e:Expr):Bool:=decide (e.op=1)&&decide (e.n=k)
def zGC (e:Expr):Bool:= !isC 0 e&& !isC 1 e
def zIT (k:Int):Expr:=Expr.mk 1 1 k []
def zrE:Expr:=Expr.mk 0 0 0 []
def zGq (a b:Expr):Expr:=Expr.mk 5 1 0 [a,b]
def zKV:List Expr->Expr
 | []=>zrE
 | e::r=>r.foldl zGq e
def zPO (l:List Expr):Expr:=
 if((l.filter zGC).take 41).length=0 then zIT 1 else if((l.filter zGC).take 41).length>40 then zrE else if(zKV ((l.filter zGC).take 41)).formed then zKV ((l.filter zGC).take 41)else zrE
def zHc (l:List Expr):Expr:=if l.all zIe=false then zrE else if l.any (isC 0)=true then zIT 0 else zPO l
theorem zJA (e:Expr):Den Γ G 568 [(.agg [.t (ti (e).op),.t (ti (e).w),.t (ti (e).n),.t (.sl ((e).kids.map (Expr.enc)))])]=some (vb (zIe e)):=by
 have h1:=zeo e;unfold zIe
 (refine zag Γ568 rfl ?_;dsimp only[zP8])
 by_cases c:e.w=1
 ·have c':=eq_true c;simp -dsimp -implicitDefEqProofs only[go_sem,seval,h1,c']
 ·have c':=eq_false c;simp -dsimp -implicitDefEqProofs only[go_sem,seval,h1,c'];rfl
theorem zHY (e:Expr) (k:Int):Den Γ G 569 [(.agg [.t (ti (e).op),.t (ti (e).w),.t (ti (e).n),.t (.sl ((e).kids.map (Expr.enc)))]),vi k]=some (vb (isC k e)):=by
 unfold isC
 (refine zag Γ569 rfl ?_;dsimp only[zP7])
 by_cases c:e.op=1
 ·have c':=eq_true c;simp -dsimp -implicitDefEqProofs only[go_sem,seval,c']
 ·have c':=eq_false c;simp -dsimp -implicitDefEqProofs only[go_sem,seval,c'];rfl
theorem zKY (k:Int):Den Γ G 570 [vi k,vi 1]=some (.agg [.t (ti (zIT k).op),.t (ti (zIT k).w),.t (ti (zIT k).n),.t (.sl ((zIT k).kids.map (Expr.enc)))]):=by
 (refine zag Γ570 rfl ?_;dsimp only[zP6])
 simp -dsimp -implicitDefEqProofs only[go_sem,seval];exact⟨rfl,rfl,rfl,rfl⟩
theorem zIz (e:Expr):Den Γ G 571 [(.agg [.t (ti (e).op),.t (ti (e).w),.t (ti (e).n),.t (.sl ((e).kids.map (Expr.enc)))])]=some (if e.formed then(.agg [.t (ti (e).op),.t (ti (e).w),.t (ti (e).n),.t (.sl ((e).kids.map (Expr.enc)))])else(.agg [.t (ti (zrE).op),.t (ti (zrE).w),.t (ti (zrE).n),.t (.sl ((zrE).kids.map (Expr.enc)))])):=by
 have h1:=zeo e
 (refine zag Γ571 rfl ?_;dsimp only[zP5])
 cases hf:e.formed
 ·rw[hf]at h1;simp -dsimp -implicitDefEqProofs only[go_sem,seval,h1];exact⟨rfl,rfl,rfl,rfl⟩
 ·rw[hf]at h1;simp -dsimp -implicitDefEqProofs only[go_sem,seval,h1]
theorem zN8 (a b:Expr):Den Γ G 574 [(.agg [.t (ti (a).op),.t (ti (a).w),.t (ti (a).n),.t (.sl ((a).kids.map (Expr.enc)))]),(.agg [.t (ti (b).op),.t (ti (b).w),.t (ti (b).n),.t (.sl ((b).kids.map (Expr.enc)))]),.t (.ip [ti 5])]=some (.agg [.t (ti (zGq a b).op),.t (ti (zGq a b).w),.t (ti (zGq a b).n),.t (.sl ((zGq a b).kids.map (Expr.enc)))]):=by
 (refine zag Γ574 rfl ?_;dsimp only[zP2])
 simp -dsimp -implicitDefEqProofs only[go_sem,seval];exact⟨rfl,rfl,rfl,by simp[zGq,Expr.enc_eq,Expr.kids_mk]⟩
theorem zNY (l:List Expr) (e:Expr) (hl:l.length<2^30):Den Γ G 573 [.t (.sl ((e::l).map Expr.enc)),.t (.fn 574 [] [.ip [ti 5]])]=some (.agg [.t (ti (l.foldl zGq e).op),.t (ti (l.foldl zGq e).w),.t (ti (l.foldl zGq e).n),.t (.sl ((l.foldl zGq e).kids.map (Expr.enc)))]):=by
 have Bb:(l.map Expr.enc).length=l.length:=by simp
 rw[List.map_cons];have i1:(1:Int)<=((l.length+1:Nat):Int):=by omega
 have i2:((l.length+1:Nat):Int)<=((l.length+1:Nat):Int):=Int.le_refl _;have i3:(((l.length+1:Nat):Int)-1).toNat=l.length:=by omega
 have i4:((l.map Expr.enc).all fun x=>decide (x.length=4))=true:=by simp[Expr.enc_eq]
 have i5:List.take l.length (l.map Expr.enc)=l.map Expr.enc:=List.take_of_length_le (by simp)
 (refine zag Γ573 rfl ?_;dsimp only[zP3])
 simp -dsimp -implicitDefEqProofs only[go_sem,seval,Bb,i1,i2,i3,i4,i5];refine zaT 8372384 l.length (fun i f=>(f 14).v=vi i/\(f 5).v= .lb/\ ∃y:Expr,y=(l.take i).foldl zGq e/\(f 5).box=some [.t (ti y.op),.t (ti y.w),.t (ti y.n),.t (.sl (y.kids.map Expr.enc))]) rfl rfl ⟨by simp -dsimp -implicitDefEqProofs only[go_sem,seval],by simp -dsimp -implicitDefEqProofs only[go_sem,seval],e,rfl,by simp -dsimp -implicitDefEqProofs only[go_sem,seval]⟩ ?_;rintro i f u x bb hi ⟨g14,g5,y,hy,g5b⟩;have hw:=zan i (by omega)
 by_cases AV:i<l.length
 ·have DB:=eq_true AV;obtain⟨z,hz,_⟩:=zai AV;have ad:=zN8 y z;simp -dsimp -implicitDefEqProofs only[go_sem,seval,g14,g5,g5b,DB,hz,Expr.enc_eq,ad];refine⟨AV,by simp -dsimp -implicitDefEqProofs only[go_sem,seval,hw],by simp -dsimp -implicitDefEqProofs only[go_sem,seval,g5],zGq y z,by rw[zaf hz,List.foldl_append,<- hy];rfl,by simp -dsimp -implicitDefEqProofs only[go_sem,seval]⟩
 ·have DB:=eq_false AV;have:i=l.length:=by omega
  subst this;rw[List.take_length]at hy;subst hy;simp -dsimp -implicitDefEqProofs only[go_sem,seval,g14,g5,g5b,DB]
def rwE (l:List Expr):List (List V):=(l.map Expr.enc).map (·.map V.t)
theorem zGx (l:List Expr):(rwE l).length=l.length:=by simp[rwE]
theorem zJk (l:List Expr):((rwE l).all fun r=>decide (r.length=4))=true:=by simp[rwE,Expr.enc_eq]
theorem zJj (l:List Expr) (e:Expr):rwE (l++[e])=rwE l++[[.t (ti e.op),.t (ti e.w),.t (ti e.n),.t (.sl (e.kids.map Expr.enc))]]:=by simp[rwE,Expr.enc_eq]
theorem zOf {l:List Expr} {i:Nat} {e:Expr} (h:l[i]? =some e):(rwE l)[i]? =some [.t (ti e.op),.t (ti e.w),.t (ti e.n),.t (.sl (e.kids.map Expr.enc))]:=by simp[rwE,h,Expr.enc_eq]
theorem zOF {l:List Expr} {i:Nat} {e:Expr} (h:l[i]? =some e):(rwE l).set i [.t (ti e.op),.t (ti e.w),.t (ti e.n),.t (.sl (e.kids.map Expr.enc))]=rwE l:=by
 refine List.ext_getElem? fun j=> ?_
 rw[List.getElem?_set];split
 ·rename_i Av;subst Av;rw[zOf h];have:i<(rwE l).length:=by rw[zGx];exact(zH.1 h).1
  rw[if_pos this]
 ·rfl
theorem zOe (h:Nat->Option O) (d:Nat) (l:List Expr):(rwE l).mapM (fun row=>row.mapM (toT h d))=some (l.map Expr.enc):=zdJ h d (l.map Expr.enc) (by
 intro e he t ht;obtain⟨x,_,rfl⟩:=List.mem_map.1 he;simp only[Expr.enc_eq,List.mem_cons,List.not_mem_nil,or_false]at ht
 rcases ht with rfl | rfl | rfl | rfl<;>rfl)
theorem zLn (l:List Expr):((l.filter zGC).take 41).length<=41:=by rw[List.length_take];omega
theorem zK0 (l:List Expr) (hl:l.length<2^30):Den Γ G 527 [.t (.sl (l.map Expr.enc)),vi 5,vi 1]=some (.agg [.t (ti (zHc l).op),.t (ti (zHc l).w),.t (ti (zHc l).n),.t (.sl ((zHc l).kids.map (Expr.enc)))]):=by
 have Bb:(l.map Expr.enc).length=l.length:=by simp
 have w0:IntKind.i64.wrap (1-1)=0:=rfl
 (refine zag Γ527 rfl ?_;dsimp only[zQB])
 simp -dsimp -implicitDefEqProofs only[go_sem,seval,Bb]
 refine zaq 8796093007296 l.length (fun i f h x=>(f 14).v=vi i/\(f 8).v=vb ((l.take i).any (isC 0))/\(f 6).v= .lb/\(f 6).box=some [.t (ti 0),.t (ti 0),.t (ti 0),.t .nils]/\zaF h x (f 7).v 4 (rwE (((l.take i).filter zGC).take 41))/\zbg (f 7).v 0/\h 0=some (.rows 1 [[vi 5]] false)/\0<x/\(l.take i).all zIe=true) rfl
  ⟨by simp -dsimp -implicitDefEqProofs only[go_sem,seval],by simp -dsimp -implicitDefEqProofs only[go_sem,seval];rfl,by simp -dsimp -implicitDefEqProofs only[go_sem,seval],by simp -dsimp -implicitDefEqProofs only[go_sem,seval],.inl ⟨by simp -dsimp -implicitDefEqProofs only[go_sem,seval],rfl⟩,by simp -dsimp -implicitDefEqProofs only[go_sem,seval];(intro i n h;cases h),by(try simp -dsimp -implicitDefEqProofs only[go_sem,seval]);(try rfl),by(try simp -dsimp -implicitDefEqProofs only[go_sem,seval]);(try omega),rfl⟩ ?_
 rintro i f u h x bb hi ⟨g14,g8,g6,g6b,hO,Bn,h0,hx,Aa⟩;have hw:=zan i (by omega)
 by_cases AV:i<l.length
 ·have DB:=eq_true AV;obtain⟨e,he,Cn⟩:=zai AV;have a1:=zJA e;have a2:=zHY e 0;have a3:=zHY e 1;have OU: ∀p:Expr->Bool,(l.take (i+1)).any p=((l.take i).any p||p e):=fun p=>by rw[zaf he,List.any_append];simp
  cases c1:zIe e
  ·rw[c1]at a1;have hz:zHc l=zrE:=by rw[zHc,if_pos (List.all_eq_false.2 ⟨e,Cn,by rw[c1];simp⟩)]
   rw[hz];simp -dsimp -implicitDefEqProofs only[go_sem,seval,g14,DB,he,Expr.enc_eq,a1,g6,g6b];exact⟨rfl,rfl,rfl,rfl⟩
  rw[c1]at a1;have S9:(l.take (i+1)).all zIe=true:=by rw[zaf he,List.all_append,Aa];simp[c1]
  have H5:(l.take (i+1)).filter zGC=(l.take i).filter zGC++(if zGC e then [e]else []):=by
   rw[zaf he,List.filter_append,List.filter_cons,List.filter_nil]
  cases c2:isC 0 e
  ·rw[c2]at a2;cases c3:isC 1 e
   ·rw[c3]at a3;have Ej:zGC e=true:=by simp[zGC,c2,c3]
    rw[Ej,if_pos rfl]at H5;have y1:=hO.valOf;have y2:=hO.lenS;rw[zGx]at y2;have T7:=zLn (l.take i)
    by_cases c4:(((l.take i).filter zGC).take 41).length<=40
    ·have c4':((((((l.take i).filter zGC).take 41).length:Nat):Int)<=40)=True:=eq_true (by omega);have v6: ∀b,rowsS (updC h (x+1+4+4+5+10+2) b) (f 7).v=some (rwE (((l.take i).filter zGC).take 41)):=fun b=>(hO.upd (q:=x+1+4+4+5+10+2) (by omega) b).rowsS
     simp -dsimp -implicitDefEqProofs only[go_sem,seval,g14,DB,he,Expr.enc_eq,a1,w0,a2,a3,y1,y2,c4',v6];refine zav (hO.upd (by omega) _) (by omega) (by rw[zGx];omega) (by decide) rfl (zJk _) ?_;intro v hp hP Bp Aq;have z1:=hP.valOf;have Vb:((l.take i).filter zGC).length<=40:=by rw[List.length_take]at c4;omega
     simp -dsimp -implicitDefEqProofs only[go_sem,seval,z1,g14];refine⟨AV,by simp -dsimp -implicitDefEqProofs only[go_sem,seval,hw],?_,by simp -dsimp -implicitDefEqProofs only[go_sem,seval,g6],by simp -dsimp -implicitDefEqProofs only[go_sem,seval,g6b],?_,?_,?_,by simp -dsimp -implicitDefEqProofs only[go_sem,seval];omega,S9⟩
     ·rw[OU,c2,Bool.or_false];simp -dsimp -implicitDefEqProofs only[go_sem,seval,g8]
     ·simp -dsimp -implicitDefEqProofs only[go_sem,seval];rw[H5,List.take_of_length_le (by rw[zM,List.length_singleton];omega),zJj];rw[List.take_of_length_le (by omega)]at hP;exact hP.le (by omega)
     ·simp -dsimp -implicitDefEqProofs only[go_sem,seval];exact Bp 0 (by omega)
     ·simp -dsimp -implicitDefEqProofs only[go_sem,seval];rw[Aq 0 (by omega) Bn,zaa,if_neg (by omega)];exact h0
    ·have c4':((((((l.take i).filter zGC).take 41).length:Nat):Int)<=40)=False:=eq_false (by omega);have Up:41<=((l.take i).filter zGC).length:=by rw[List.length_take]at c4;omega
     simp -dsimp -implicitDefEqProofs only[go_sem,seval,g14,DB,he,Expr.enc_eq,a1,w0,a2,a3,y1,y2,c4'];refine⟨AV,by simp -dsimp -implicitDefEqProofs only[go_sem,seval,hw],?_,by simp -dsimp -implicitDefEqProofs only[go_sem,seval,g6],by simp -dsimp -implicitDefEqProofs only[go_sem,seval,g6b],?_,by simp -dsimp -implicitDefEqProofs only[go_sem,seval];exact Bn,h0,by simp -dsimp -implicitDefEqProofs only[go_sem,seval];omega,S9⟩
     ·rw[OU,c2,Bool.or_false];simp -dsimp -implicitDefEqProofs only[go_sem,seval,g8]
     ·simp -dsimp -implicitDefEqProofs only[go_sem,seval];rw[H5,List.take_append_of_le_length Up];exact hO.le (by omega)
   ·rw[c3]at a3;have Ej:zGC e=false:=by simp[zGC,c3]
    rw[Ej,if_neg (by simp),List.append_nil]at H5;simp -dsimp -implicitDefEqProofs only[go_sem,seval,g14,DB,he,Expr.enc_eq,a1,w0,a2,a3];refine⟨AV,by simp -dsimp -implicitDefEqProofs only[go_sem,seval,hw],?_,by simp -dsimp -implicitDefEqProofs only[go_sem,seval,g6],by simp -dsimp -implicitDefEqProofs only[go_sem,seval,g6b],?_,by simp -dsimp -implicitDefEqProofs only[go_sem,seval];exact Bn,h0,by simp -dsimp -implicitDefEqProofs only[go_sem,seval];omega,S9⟩
    ·rw[OU,c2,Bool.or_false];simp -dsimp -implicitDefEqProofs only[go_sem,seval,g8]
    ·simp -dsimp -implicitDefEqProofs only[go_sem,seval];rw[H5];exact hO.le (by omega)
  ·rw[c2]at a2;have Ej:zGC e=false:=by simp[zGC,c2]
   rw[Ej,if_neg (by simp),List.append_nil]at H5;simp -dsimp -implicitDefEqProofs only[go_sem,seval,g14,DB,he,Expr.enc_eq,a1,w0,a2];refine⟨AV,by simp -dsimp -implicitDefEqProofs only[go_sem,seval,hw],?_,by simp -dsimp -implicitDefEqProofs only[go_sem,seval,g6],by simp -dsimp -implicitDefEqProofs only[go_sem,seval,g6b],?_,by simp -dsimp -implicitDefEqProofs only[go_sem,seval];exact Bn,h0,by simp -dsimp -implicitDefEqProofs only[go_sem,seval];omega,S9⟩
   ·rw[OU,c2,Bool.or_true];simp -dsimp -implicitDefEqProofs only[go_sem,seval]
   ·simp -dsimp -implicitDefEqProofs only[go_sem,seval];rw[H5];exact hO.le (by omega)
 have DB:=eq_false AV;have:i=l.length:=by omega
 subst this;rw[List.take_length]at g8 hO Aa;have hz:zHc l=if l.any (isC 0)=true then zIT 0 else zPO l:=by rw[zHc,if_neg (by rw[Aa];simp)]
 rw[hz];cases c5:l.any (isC 0)
 rotate_left
 ·have cd:=zKY 0;rw[c5]at g8;rw[if_pos rfl];simp -dsimp -implicitDefEqProofs only[go_sem,seval,g14,DB,g8,w0,cd,g6,g6b]
 rw[if_neg (by simp)];rw[c5]at g8;have T7:=zLn l
 have Q0: ∀e∈(l.filter zGC).take 41,e.formed=true:=fun e he=>by
  have h1:=zN.1 Aa e (List.mem_filter.1 (List.mem_of_mem_take he)).1;simp only[zIe,zF]at h1;exact h1.2
 unfold zPO;have y1:=hO.valOf;have y2:=hO.lenS;rw[zGx]at y2
 generalize(l.filter zGC).take 41=kp at *
 by_cases c6:kp.length=0
 ·have c6':((kp.length:Int)=0)=True:=eq_true (by omega);have cd:=zKY 1;rw[if_pos c6];simp -dsimp -implicitDefEqProofs only[go_sem,seval,g14,DB,g8,y1,y2,c6',cd,g6,g6b]
 have c6':((kp.length:Int)=0)=False:=eq_false (by omega);rw[if_neg c6]
 by_cases c7:kp.length>40
 ·have c7':((kp.length:Int)>40)=True:=eq_true (by omega);rw[if_pos c7];simp -dsimp -implicitDefEqProofs only[go_sem,seval,g14,DB,g8,y1,y2,c6',c7',g6,g6b];exact⟨rfl,rfl,rfl,rfl⟩
 have c7':((kp.length:Int)>40)=False:=eq_false (by omega);rw[if_neg c7];simp -dsimp -implicitDefEqProofs only[go_sem,seval,g14,DB,g8,y1,y2,c6',c7'];rcases hO with⟨_,e0⟩ | ⟨k,e7,hk,hh⟩
 ·have:=congrArg List.length e0;rw[zGx,List.length_nil]at this;omega
 rw[zGx]at e7;have CK:k≠0:=fun e=>by subst e;exact Bn _ _ e7
 refine zaq 9442427122730076735488 kp.length (fun i f h x=>(f 61).v=vi i/\h k=some (.rows 4 (rwE kp) false)/\h 0=some (.rows 1 [[vi 5]] false)/\k<x) rfl ⟨by simp -dsimp -implicitDefEqProofs only[go_sem,seval],hh,h0,by simp -dsimp -implicitDefEqProofs only[go_sem,seval];omega⟩ ?_;rintro i f1 u1 h1 x1 bb1 B8 ⟨g61,A3,UL,KA⟩;have Cj:=zan i (by omega)
 by_cases A4:i<kp.length
 ·have LF:=eq_true A4;obtain⟨e,he,Cn⟩:=zai A4;have B5:=zOf he;have AE:=zOF he;have cl:=zIJ e (Q0 e Cn);simp -dsimp -implicitDefEqProofs only[go_sem,seval,g61,LF,e7,A3,B5,cl,AE];refine⟨A4,by simp -dsimp -implicitDefEqProofs only[go_sem,seval,Cj],?_,?_,by simp -dsimp -implicitDefEqProofs only[go_sem,seval];omega⟩
  ·simp only[zaC,zaA];rw[zaa,if_pos rfl]
  ·simp only[zaC,zaA];rw[zaa,if_neg (Ne.symm CK)];exact UL
 have LF:=eq_false A4;have:i=kp.length:=by omega
 subst this
 obtain⟨e,r,rfl⟩: ∃e r,kp=e::r:=by
  cases kp with
  | nil=>simp at c6
  | cons e r=>exact⟨e,r,rfl⟩
 have t1:toT1 h1 (.ms k 0 (r.length+1))=some (.t (.sl ([ti e.op,ti e.w,ti e.n,.sl (e.kids.map Expr.enc)]::r.map Expr.enc))):=by
  rw[show r.length+1=(e::r).length from rfl,<- Expr.enc_eq,<- List.map_cons];simp only[toT1,toT,A3,rd];rw[if_pos (by rw[zGx];omega),List.drop_zero,List.take_of_length_le (by rw[zGx];omega)];simp only[zC,zD];rw[zOe];rfl
 have t2:toT1 h1 (.fn 574 [] [.mp 0 0 0])=some (.t (.fn 574 [] [.ip [ti 5]])):=by
  simp only[toT1,toT,UL,List.mapM_cons,List.mapM_nil];rfl
 have fd:=zNY r e (by simp at T7;omega);rw[List.map_cons,Expr.enc_eq]at fd;have fe:=zIz (zKV (e::r));have EI:(r.length+1<r.length+1)=False:=eq_false (by omega);simp -dsimp -implicitDefEqProofs only[go_sem,seval,g61,EI,e7,↓t1,↓t2,fd];refine zGs (fun _=>True) (fun _ _=>trivial) fun h2 _ _=> ?_
 have TN:zKV (e::r)=r.foldl zGq e:=rfl;rw[TN]at fe⊢;cases U7:(r.foldl zGq e).formed
 ·rw[U7,if_neg (by simp)]at fe;rw[if_neg (by simp)];simp -dsimp -implicitDefEqProofs only[go_sem,seval,fe,g6,g6b]
 ·rw[U7,if_pos rfl]at fe;rw[if_pos rfl];simp -dsimp -implicitDefEqProofs only[go_sem,seval,fe,g6,g6b]
theorem zIh {op:Int} {e x:Expr} (hf:e.formed=true) (hx:x∈e.lv) (ho:x.op=op) (h0:0<=x.n) (h1:x.n<32):x.n∈e.sup op:=by
 rw[Expr.sup,if_pos hf];have:=(zHw (e.occ op) 32 x.n.toNat).2 ⟨by omega,zIB op e.lv _ (by simp;omega) ⟨x,hx,ho,rfl⟩⟩;rwa[show((x.n.toNat:Nat):Int)=x.n by omega]at this
theorem zIN {a b:Expr} (h:(zGq a b).formed=true):a.formed=true/\b.formed=true/\a.w=1/\b.w=1:=by
 simp only[Expr.formed,zF,decide_eq_true_eq]at h⊢;obtain⟨h1,h2⟩:=h;have ka:a∈(zGq a b).kids:=by simp[zGq,Expr.kids_mk]
 have kb:b∈(zGq a b).kids:=by simp[zGq,Expr.kids_mk]
 have hn:zbk (zGq a b)=true:=by
  simp only[Expr.deep,zF]at h2;exact h2.1
 have sa:=Expr.size_kid ka;have sb:=Expr.size_kid kb;refine⟨⟨by omega,zHq (by omega) (zc7 h2 ka)⟩,⟨by omega,zHq (by omega) (zc7 h2 kb)⟩,?_⟩;simp[zbk,zGq,Expr.op_mk,Expr.kids_mk,Expr.w_mk,Expr.n_mk,Expr.kw,zcO]at hn;exact hn
theorem zGJ {e:Expr} (hf:e.formed=true) (hw:e.w=1) (o m:List Int):e.eval o m=0\/e.eval o m=1:=by
 have h1:=zI7 e o m;have h3:=h1.2 hf;rw[hw]at h3;have:(2:Int)^(1:Int).toNat=2:=rfl;have:=h1.1;omega
theorem zNi {a b:Expr} (h:(zGq a b).formed=true) (o m:List Int):(zGq a b).eval o m=1<->a.eval o m=1/\b.eval o m=1:=by
 obtain⟨ha,hb,aw,bw⟩:=zIN h;have h1:=zGJ ha aw o m;have h2:=zGJ hb bw o m
 have e1:(zGq a b).eval o m=(((a.eval o m).toNat&&& (b.eval o m).toNat:Nat):Int):=by
  rw[Expr.eval,if_pos h,Expr.ev_eq,Expr.eval,if_pos ha,Expr.eval,if_pos hb];simp[zGq,Expr.op_mk,Expr.kids_mk,opv]
 rw[e1];rcases h1 with h1 | h1<;>rcases h2 with h2 | h2<;>rw[h1,h2]<;>decide
theorem zKf {o m:List Int}: ∀{r:List Expr} {e:Expr},(r.foldl zGq e).formed=true->e.formed=true/\((r.foldl zGq e).eval o m=1<->e.eval o m=1/\ ∀x∈r,x.eval o m=1)
 | [],e,h=>⟨h,by simp⟩
 | x::r,e,h=>by
   obtain⟨h1,h2⟩:=zKf (o:=o) (m:=m) (r:=r) (e:=zGq e x) h;refine⟨(zIN h1).1,?_⟩;rw[List.foldl_cons,h2,zNi h1];simp[and_assoc]
theorem zM2: ∀{r:List Expr} {e x:Expr},x∈(r.foldl zGq e).lv->x∈e.lv\/ ∃y∈r,x∈y.lv
 | [],e,x,h=> .inl h
 | y::r,e,x,h=>by
   rcases zM2 (r:=r) (e:=zGq e y) h with h1 | ⟨z,hz,h1⟩
   ·rw[Expr.lv_eq,if_neg (by simp[zGq,Expr.kids_mk])]at h1;simp only[zGq,Expr.kids_mk,List.flatMap_cons,List.flatMap_nil,List.append_nil,List.mem_append]at h1;rcases h1 with h1 | h1
    ·exact .inl h1
    ·exact .inr ⟨y,by simp,h1⟩
   ·exact .inr ⟨z,by simp[hz],h1⟩
theorem zOq: ∀{r:List Expr} {e:Expr},e.w=1->(r.foldl zGq e).w=1
 | [],e,h=>h
 | y::r,e,h=>zOq (r:=r) (e:=zGq e y) rfl
theorem zG6 {e:Expr} (hf:e.formed=true) {k:Int} (h:isC k e=true) (o m:List Int):e.eval o m=k:=by
 simp only[isC,zF,decide_eq_true_eq]at h;rw[Expr.eval,if_pos hf,Expr.ev_eq,if_pos h.1,h.2]
theorem zHx {k:Int} (h:k=0\/k=1):(zIT k).formed=true:=by rcases h with rfl | rfl<;>decide
theorem zJy {k:Int} (h:k=0\/k=1) (o m:List Int):(zIT k).eval o m=k:=zG6 (zHx h) (by simp[isC,zIT,Expr.op_mk,Expr.n_mk]) o m
theorem zIE {k:Int} (h:k=0\/k=1) (cells:List Cell) (pair:Bool):(zIT k).valid cells pair=true:=by
 rw[Expr.valid,zHx h,Bool.true_and,Expr.allE_eq];simp[zIT,Expr.kids_mk,zb3,Expr.op_mk]
theorem zKX {k:Int} (op:Int) (Ao:op=2\/op=3):(zIT k).sup op=[]:=by
 cases hs:(zIT k).sup op with
 | nil=>rfl
 | cons c r=>
   exfalso;obtain⟨h0,hf,x,hx,h1,h2⟩:=zrn (e:=zIT k) (op:=op) (c:=c) (by rw[hs];simp);rw[Expr.lv_eq,if_pos (by simp[zIT,Expr.kids_mk])]at hx;simp only[List.mem_singleton]at hx;subst hx;simp only[zIT,Expr.op_mk]at h1;omega
structure AndOk (l:List Expr) (x:Expr):Prop where
 formed:x.formed=true
 w:x.w=1
 eval: ∀o m,x.eval o m=1<-> ∀e∈l,e.eval o m=1
 valid: ∀cells pair,(∀e∈l,e.valid cells pair=true)->x.valid cells pair=true
 sup: ∀op,op=2\/op=3-> ∀c∈x.sup op,∃e∈l,c∈e.sup op
theorem zJJ {l:List Expr} (hz:(zHc l).op≠0):AndOk l (zHc l):=by
 unfold zHc at hz⊢
 by_cases h1:l.all zIe=false
 ·rw[if_pos h1]at hz;exact absurd rfl hz
 rw[if_neg h1]at hz⊢
 have hc: ∀e∈l,e.w=1/\e.formed=true:=fun e he=>by
  have:=zN.1 (by simpa using h1) e he;simpa[zIe]using this
 by_cases h2:l.any (isC 0)=true
 ·rw[if_pos h2];obtain⟨e,he,h3⟩:=List.any_eq_true.1 h2;refine⟨zHx (.inl rfl),rfl,fun o m=> ?_,fun cells pair _=>zIE (.inl rfl) cells pair,fun op Ao c AL=>by rw[zKX op Ao]at AL;simp at AL⟩;rw[zJy (.inl rfl)];refine⟨fun h=>absurd h (by decide),fun h=> ?_⟩;have:=h e he;rw[zG6 (hc e he).2 h3]at this;exact absurd this (by decide)
 rw[if_neg h2]at hz⊢
 have EY: ∀e∈l,isC 0 e=false:=fun e he=>by
  cases h:isC 0 e with
  | false=>rfl
  | true=>exact absurd (List.any_eq_true.2 ⟨e,he,h⟩) h2
 unfold zPO at hz⊢
 have Aq: ∀o m,(∀e∈l.filter zGC,e.eval o m=1)<-> ∀e∈l,e.eval o m=1:=fun o m=>by
  refine⟨fun h e he=> ?_,fun h e he=>h e (List.mem_filter.1 he).1⟩
  cases h3:isC 1 e with
  | true=>exact zG6 (hc e he).2 h3 o m
  | false=>exact h e (List.mem_filter.2 ⟨he,by simp[zGC,EY e he,h3]⟩)
 have Ad:((l.filter zGC).take 41).length<=40->(l.filter zGC).take 41=l.filter zGC:=fun h=>by
  rw[List.length_take]at h;exact List.take_of_length_le (by omega)
 split at hz
 ·rename_i h3;rw[if_pos h3];have h4:=Ad (by omega);rw[h4]at h3;have h5:l.filter zGC=[]:=List.eq_nil_of_length_eq_zero h3;refine⟨zHx (.inr rfl),rfl,fun o m=> ?_,fun cells pair _=>zIE (.inr rfl) cells pair,fun op Ao c AL=>by rw[zKX op Ao]at AL;simp at AL⟩;rw[zJy (.inr rfl),<- Aq,h5];simp
 ·rename_i h3;rw[if_neg h3];split at hz
  ·exact absurd rfl hz
  rename_i h4;rw[if_neg h4];split at hz
  ·rename_i h5;rw[if_pos h5];have h6:=Ad (by omega);rw[h6]at h5 h3⊢
   cases h7:l.filter zGC with
   | nil=>rw[h7]at h3;simp at h3
   | cons e r=>
     rw[h7]at h5;have Ce: ∀x∈e::r,x∈l:=fun x hx=>by rw[<- h7]at hx;exact(List.mem_filter.1 hx).1
     have F8: ∀{x},x∈(zKV (e::r)).lv-> ∃y∈l,x∈y.lv:=fun{x} hx=>by
      rcases zM2 hx with h8 | ⟨y,hy,h8⟩
      ·exact⟨e,Ce e (by simp),h8⟩
      ·exact⟨y,Ce y (by simp[hy]),h8⟩
     refine⟨h5,zOq (hc e (Ce e (by simp))).1,fun o m=> ?_,fun cells pair hv=> ?_,fun op Ao c AL=> ?_⟩
     ·rw[<- Aq,h7];have:=(zKf (o:=o) (m:=m) h5).2;rw[show zKV (e::r)=r.foldl zGq e from rfl,this];simp
     ·rw[Expr.valid,h5,Bool.true_and,zvP (fun x=>zje cells pair) 40 _ (zcp h5)];refine zN.2 fun x hx=> ?_
      obtain⟨y,hy,BW⟩:=F8 hx;have:=hv y hy;rw[Expr.valid,(hc y hy).2,Bool.true_and,zvP (fun x=>zje cells pair) 40 _ (zcp (hc y hy).2)]at this;exact zN.1 this x BW
     ·obtain⟨h0,hf,x,hx,h8,h9⟩:=zrn AL;obtain⟨y,hy,BW⟩:=F8 hx;have Tu:=zKJ (zcp (hc y hy).2) BW;have PE:=zLk BW;refine⟨y,hy,?_⟩
      have hb:0<=x.n/\x.n<32:=by
       unfold zbk at Tu;split at Tu
       ·cases Tu
       ·rw[if_neg (by omega),if_pos (by omega)]at Tu;simpa using Tu
      have:c=x.n:=by omega
      rw[this];exact zIh (hc y hy).2 BW h8 hb.1 hb.2
  ·exact absurd rfl hz
theorem zK4 (l:List Expr) (hl:l.length<2^30):Den Γ G 508 [.t (.sl (l.map Expr.enc))]=some (.agg [.t (ti (zHc l).op),.t (ti (zHc l).w),.t (ti (zHc l).n),.t (.sl ((zHc l).kids.map (Expr.enc)))]):=by
 have h1:=zK0 l hl
 (refine zag Γ508 rfl ?_;dsimp only[zQM])
 simp -dsimp -implicitDefEqProofs only[go_sem,seval,h1]
end Rg
end
section
namespace Rg
open Go
theorem zM1 {φ:Nat->Nat->Nat} {ψ:Bool->Bool->Bool} {a b:List Nat} (B1:Bm a) (B2:Bm b) (hφ: ∀x y j,x<2^64->y<2^64->j<64->(φ x y).testBit j=ψ (x.testBit j) (y.testBit j)) (n:Nat) (hn:n<4096):
 zIO (cmb φ a b 64) n=ψ (zIO a n) (zIO b n):=by
 have h1:=zJE φ a b 64 (n/ 64) (by rw[B1.len];omega);rw[if_pos (by omega)]at h1
 have hb: ∀{c:List Nat},Bm c->c.getD (n/ 64) 0<2^64:=fun{c} B=>by
  obtain⟨w,hw,FP⟩:=zai (show n/ 64<c.length by rw[B.len];omega);rw[zK,hw,Option.getD_some];exact B.lt w FP
 rw[zIO,zK,h1,Option.getD_some,hφ _ _ _ (hb B1) (hb B2) (by omega),zIO,zIO]
section
variable {l ws:List Int} {s t:List Nat}
theorem zLy (S:Shp l ws) (Es:Elems ws s) (Et:Elems ws t) {φ:Nat->Nat->Nat} {ψ:Bool->Bool->Bool} (hφ: ∀x y j,x<2^64->y<2^64->j<64->(φ x y).testBit j=ψ (x.testBit j) (y.testBit j)) (h0:ψ false true=false/\ψ false false=false):
 zHd (cmb φ (zGt s) (zGt t) 64) 64=nI (s.filter fun n=>ψ true (t.contains n)):=by
 refine zLl (Es.inc.filter _) (fun n hn=>Es.lt4 S n (List.mem_filter.1 hn).1) fun n hn=> ?_
 rw[zM1 (zGB (Es.lt4 S)) (zGB (Et.lt4 S)) hφ n hn,zHP (Es.lt4 S),zHP (Et.lt4 S),List.mem_filter]
 by_cases h:n∈s
 ·rw[List.contains_iff_mem.2 h];simp[h]
 ·have:s.contains n=false:=by rw[Bool.eq_false_iff,Ne,List.contains_iff_mem];exact h
  rw[this];cases t.contains n<;>simp[h,h0]
theorem zGR (S:Shp l ws) (Es:Elems ws s) (Et:Elems ws t):Den Γ G 520 [zGj l ws (nI s),zGj l ws (nI t)]=some (.tup [zGj l ws (nI (s.filter fun n=>t.contains n)),vi 0]):=by
 have h1:=zIH S Es Et 559 (fun a b=>a&&& b) fun a b ha hb=>⟨Nat.and_lt_two_pow _ hb,zux a b ha hb⟩
 rw[zLy S Es Et (ψ:=fun x y=>x&&y) (fun x y j _ _ _=>by rw[Nat.testBit_and]) ⟨rfl,rfl⟩]at h1;simp only[Bool.true_and]at h1;unfold zGj at h1⊢
 (refine zag Γ520 rfl ?_;dsimp only[zQF])
 simp -dsimp -implicitDefEqProofs only[go_sem,seval,h1]
end
theorem Elems.filter {ws:List Int} {s:List Nat} (E:Elems ws s) (p:Nat->Bool):Elems ws (s.filter p):=⟨E.inc.filter _,fun n hn=>E.lt n (List.mem_filter.1 hn).1⟩
end Rg
end

/- Part of the proof of laws of relyguardtop. No condition. -/
import Derived.Test.YtoidcnbdndioaaaGreatDoorJartAK
import Derived.Lib.ItoaLen
import Derived.Test.YtoidcnbdndioaaaGreatDoorJartAJ
set_option linter.unusedSimpArgs false
set_option linter.unusedVariables false
section
namespace Rg
open Go
abbrev vw (n:Nat):V:=.t (.int .u64 (n:Int))
theorem zKy {x:Nat} (hx:x<2^64):(BitVec.ofInt 64 (x:Int)).toNat=x:=by simp[BitVec.toNat_ofInt];omega
theorem zHj {x:Nat} (hx:x<2^64):IntKind.u64.wrap (x:Int)=(x:Int):=by
 unfold IntKind.wrap;simp[IntKind.bits,IntKind.signed];omega
theorem zLL {x:Nat} (h0:x≠0) (hx:x<2^64):IntKind.u64.wrap (0-(x:Int))=((2^64-x:Nat):Int):=by
 unfold IntKind.wrap;simp[IntKind.bits,IntKind.signed];omega
theorem zKE {x:Nat} (h0:x≠0) (hx:x<2^64):IntKind.u64.wrap ((x:Int)-1)=((x-1:Nat):Int):=by
 rw[show(x:Int)-1=((x-1:Nat):Int)by omega];exact zHj (by omega)
theorem zJE {a b:Nat} (ha:a<2^64) (hb:b<2^64):IntKind.u64.wrap ((BitVec.ofInt IntKind.u64.bits (a:Int)&&& BitVec.ofInt IntKind.u64.bits (b:Int)).toNat:Int)=((a&&& b:Nat):Int):=by
 show IntKind.u64.wrap ((BitVec.ofInt 64 (a:Int)&&& BitVec.ofInt 64 (b:Int)).toNat:Int)=_;rw[BitVec.toNat_and,zKy ha,zKy hb,zHj (Nat.and_lt_two_pow _ hb)]
theorem zMn {a b:Nat} (ha:a<2^64) (hb:b<2^64):IntKind.u64.wrap ((BitVec.ofInt IntKind.u64.bits (a:Int) ||| BitVec.ofInt IntKind.u64.bits (b:Int)).toNat:Int)=((a ||| b:Nat):Int):=by
 show IntKind.u64.wrap ((BitVec.ofInt 64 (a:Int) ||| BitVec.ofInt 64 (b:Int)).toNat:Int)=_;rw[BitVec.toNat_or,zKy ha,zKy hb,zHj (Nat.or_lt_two_pow ha hb)]
theorem zLK {a b:Nat} (ha:a<2^64) (hb:b<2^64):IntKind.u64.wrap ((BitVec.ofInt IntKind.u64.bits (a:Int)&&& ~~~BitVec.ofInt IntKind.u64.bits (b:Int)).toNat:Int)=((a&&& (2^64-1-b):Nat):Int):=by
 show IntKind.u64.wrap ((BitVec.ofInt 64 (a:Int)&&& ~~~BitVec.ofInt 64 (b:Int)).toNat:Int)=_;rw[BitVec.toNat_and,BitVec.toNat_not,zKy ha,zKy hb,zHj (Nat.and_lt_two_pow _ (by omega))]
def tzI (t:Nat):Int:=(IntKind.u64.wrap (((2^t:Nat):Int)*285870213051353865)).fdiv (2^min 58 64)
def tzT:List Nat:=[0,1,56,2,57,49,28,3,61,58,42,50,38,29,17,4,62,47,59,36,45,43,51,22,53,39,33,30,24,18,12,5,63,55,48,27,60,41,37,16,46,35,44,21,52,32,23,11,54,26,40,15,34,20,31,10,25,14,19,9,13,8,7,6]
theorem zMo:G 3=tzT.map fun n:Nat=>T.int .u8 (n:Int):=rfl
theorem zKG: ∀t,t<64->0<=tzI t/\tzI t<64/\tzT[(tzI t).toNat]? =some t:=by decide+kernel
theorem zKH (t m:Nat) (ht:t<64) (hn:2^t*(2*m+1)<2^64):Den Γ G 280 [vw (2^t*(2*m+1))]=some (vi t):=by
 have h1:=zKv t m ht hn;have hp:=Nat.two_pow_pos t
 have h0:2^t*(2*m+1)≠0:=by
  have:=Nat.mul_pos hp (show 0<2*m+1 by omega);omega
 obtain⟨k1,k2,k3⟩:=zKG t ht
 generalize 2^t*(2*m+1)=n at *
 have e0:((n:Int)=0)=False:=eq_false (by omega);have e1:=zLL h0 hn;have e2:=zJE hn (show 2^64-n<2^64 by omega);rw[h1]at e2
 have k4:List.drop ((tzI t).toNat*1) (G 3)=T.int .u8 (t:Int)::List.drop ((tzI t).toNat+1) (G 3):=by
  rw[Nat.mul_one];exact zdo (by rw[zMo,zJ,k3];rfl)
 unfold tzI at k1 k2 k4;have e3:IntKind.i64.wrap (t:Int)=(t:Int):=zaH (by omega)
 (refine zag Γ280 rfl ?_;dsimp only[zLE])
 simp -dsimp -implicitDefEqProofs only[go_sem,seval,e0,e1,e2,k1,k2,k4,e3]
def bmV (ws:List Nat):List V:=ws.map vw
structure Bm (ws:List Nat):Prop where
 len:ws.length=64
 lt: ∀w∈ws,w<2^64
def zIZ (ws:List Nat) (n:Nat):List Nat:=ws.set (n/ 64) (ws.getD (n/ 64) 0 ||| 1<<< (n % 64))
theorem zIH (ws:List Nat) (B:Bm ws) (n:Nat) (hn:n<4096) {h:Nat->Option O} {k x:Nat} (hk:h k=some (.rows 64 [bmV ws] false)):
 ∃r h' x',DenR Γ G 532 [.mp k 0 0,vi n] h x=some (r,h',x')/\h' k=some (.rows 64 [bmV (zIZ ws n)] false)/\(∀j,j≠k->h' j=h j)/\x<=x':=by
 have hq:n/ 64<ws.length:=by rw[B.len];omega
 obtain⟨w,hw,FP⟩:=zai hq;have It:=B.lt w FP;have e1:(n:Int).tdiv 64=((n/ 64:Nat):Int):=by rw[Int.tdiv_eq_ediv_of_nonneg (by omega)];omega
 have e1':IntKind.i64.wrap ((n/ 64:Nat):Int)=((n/ 64:Nat):Int):=zaH (by omega);have e2:(n:Int).tmod 64=((n % 64:Nat):Int):=by rw[Int.tmod_eq_emod_of_nonneg (by omega)];omega
 have b1:(((n/ 64:Nat):Int)<64)=True:=eq_true (by omega);have hl:=B.len;have F8:(bmV ws).length=64:=by simp[bmV,hl]
 have b2:(n/ 64*1+1<=(bmV ws).length)=True:=eq_true (by rw[F8];omega)
 have BK:List.take 1 (List.drop (n/ 64*1) (bmV ws))=[vw w]:=by
  rw[Nat.mul_one,zdo (l:=bmV ws) (x:=vw w) (by rw[bmV,zJ,hw];rfl)];rfl
 have e3:IntKind.u64.wrap (1*2^min (n % 64) 64)=((1<<< (n % 64):Nat):Int):=by
  have:(1*2^min (n % 64) 64:Int)=((1<<< (n % 64):Nat):Int):=by
   rw[Nat.min_eq_left (by omega),Nat.one_shiftLeft];push_cast;omega
  rw[this];exact zHj (by rw[Nat.one_shiftLeft];exact Nat.pow_lt_pow_right (by omega) (by omega))
 have e4:=zMn It (show 1<<< (n % 64)<2^64 by rw[Nat.one_shiftLeft];exact Nat.pow_lt_pow_right (by omega) (by omega))
 have Mn:List.take (n/ 64*1) (bmV ws)++[vw (w ||| 1<<< (n % 64))]++List.drop (n/ 64*1+1) (bmV ws)=bmV (zIZ ws n):=by
  rw[Nat.mul_one,bmV,zIZ,zK,hw,Option.getD_some,bmV,List.map_set,List.set_eq_take_append_cons_drop,if_pos (by simp;omega)];simp
 have b4:(((n % 64:Nat):Int)<0)=False:=eq_false (by omega)
 (refine zay Γ532 rfl ?_;dsimp only[zLo])
 simp -dsimp -implicitDefEqProofs only[go_sem,seval,hk,e1,e1',e2,b1,b2,b4,BK,e3,e4,Mn];refine⟨?_,fun j hj=> ?_,by simp -dsimp -implicitDefEqProofs only[go_sem,seval];omega⟩
 ·simp only[zaC,zaA];rw[zaa,if_pos rfl]
 ·simp only[zaC,zaA];rw[zaa,if_neg hj]
theorem zJA {ws:List Nat} (B:Bm ws) {n:Nat} (hn:n<4096):Bm (zIZ ws n):=by
 refine⟨by rw[zIZ,List.length_set,B.len],fun w hw=> ?_⟩;rw[zIZ]at hw;rcases List.mem_or_eq_of_mem_set hw with h | rfl
 ·exact B.lt w h
 ·refine Nat.or_lt_two_pow ?_ (by rw[Nat.one_shiftLeft];exact Nat.pow_lt_pow_right (by omega) (by omega));obtain⟨w,hw,FP⟩:=zai (show n/ 64<ws.length by rw[B.len];omega);rw[zK,hw,Option.getD_some];exact B.lt w FP
def zHH (ws:List Nat) (n:Nat):Bool:=(ws.getD (n/ 64) 0).testBit (n % 64)
theorem zJL {ws:List Nat} (B:Bm ws) {n:Nat} (hn:n<4096) (j:Nat):zHH (zIZ ws n) j=(zHH ws j||decide (j=n)):=by
 have hq:n/ 64<ws.length:=by rw[B.len];omega
 rw[zHH,zIZ,zHH]
 by_cases q:j/ 64=n/ 64
 ·rw[q,zK,List.getElem?_set,if_pos rfl,if_pos hq,Option.getD_some,Nat.testBit_or,Nat.one_shiftLeft,Nat.testBit_two_pow]
  congr 1
  rw[decide_eq_decide];omega
 ·rw[zK,List.getElem?_set,if_neg (Ne.symm q),<- zK];have:j≠n:=by rintro rfl;exact q rfl
  simp[this]
def zGw (ws:List Nat):Nat->List Int
 | 0=>[]
 | i+1=>zGw ws i++(zHU (ws.getD i 0) 64).map fun t:Nat=>((64*i+t:Nat):Int)
theorem zG5 (ws:List Nat): ∀i,zGw ws i=((List.range (64*i)).filter fun n=>zHH ws n).map fun n:Nat=>(n:Int)
 | 0=>rfl
 | i+1=>by
   rw[zGw,zG5 ws i,zHU,show 64*(i+1)=64*i+64 by omega,List.range_add,List.filter_append,List.map_append]
   congr 1
   rw[List.filter_map,List.map_map]
   have:(List.range 64).filter ((fun n=>zHH ws n)∘fun x=>64*i+x)=(List.range 64).filter fun j=>(ws.getD i 0).testBit j:=by
    refine List.filter_congr fun t ht=> ?_
    have:=List.mem_range.1 ht;simp only[Function.comp,zHH];rw[show(64*i+t)/ 64=i by omega,show(64*i+t) % 64=t by omega]
   rw[this];rfl
end Rg
end
section
namespace Rg
open Go
def zjP (h:Nat->Option O) (lo x:Nat) (v:V) (l:List Int) (room:Nat):Prop:= ∃k,v= .ms k 0 l.length/\lo<=k/\k<x/\h k=some (.rows 1 (zae l++List.replicate room [zi]) false)
theorem zjP.valOf {h:Nat->Option O} {lo x:Nat} {v:V} {l:List Int} {room:Nat} (o:zjP h lo x v l room):valOf v=some v:=by obtain⟨k,rfl,_,_,_⟩:=o;rfl
theorem zjP.rows {h:Nat->Option O} {lo x:Nat} {v:V} {l:List Int} {room:Nat} (o:zjP h lo x v l room):Rg.rowsS h v=some (zae l):=by
 obtain⟨k,rfl,_,_,hk⟩:=o;unfold Rg.rowsS;simp only[hk,rd,Nat.zero_add,List.drop_zero];rw[if_pos (by simp[zab]),List.take_append_of_le_length (by rw[zab];exact Nat.le_refl _),List.take_of_length_le (by rw[zab];exact Nat.le_refl _)]
theorem zjP.resVal {h:Nat->Option O} {lo x:Nat} {v:V} {l:List Int} {room:Nat} (o:zjP h lo x v l room):Rg.resVal v=some v:=by obtain⟨k,rfl,_,_,_⟩:=o;rfl
theorem zjP.reify {h:Nat->Option O} {lo x:Nat} {v:V} {l:List Int} {room:Nat} (o:zjP h lo x v l room):Rg.reify h v=some (.t (ints l)):=by
 obtain⟨k,rfl,_,_,hk⟩:=o;have h1:=zdJ h 999 (l.map fun n=>[ti n]) (zbP _)
 have h2:toT h 1000 (.ms k 0 l.length)=some (ints l):=by
  rw[toT,hk];simp only[rd,Nat.zero_add,List.drop_zero];rw[if_pos (by simp[zab]),List.take_append_of_le_length (by rw[zab];exact Nat.le_refl _),List.take_of_length_le (by rw[zab];exact Nat.le_refl _)];simp only[zC,zD];rw[show zae l=(l.map fun n=>[ti n]).map (·.map V.t)from rfl,h1];rfl
 simp only[Rg.reify,toT1,h2,Option.map_some]
theorem zmE {h:Nat->Option O} {lo x q room:Nat} {v:V} {l m:List Int} {K:V->List (Nat×O)->Prop} {w:WK K} (hv:zjP h lo x v l (m.length+room)) (hx:x<=q) (hl:l.length+m.length<=2^32)
 (hK: ∀v' hp,zjP (At h hp) lo (q+1) v' (l++m) room->(∀j,j<lo->At h hp j=h j)->K v' hp):ziX false (zck h q 1 8 v (zae l) (zae m)) K w:=by
 unfold zck;rw[if_pos ⟨⟨by rw[zab,zab];exact hl,by decide⟩,zaQ _,zaQ _⟩]
 cases m with
 | nil=>
   simp only[zae,List.map_nil,List.isEmpty_nil,if_true,zcb];refine hK v [] ?_ (fun j _=>by rw[zaA]);rw[List.append_nil];obtain⟨k,rfl,CK,hk,hh⟩:=hv
   exact⟨k,rfl,CK,by omega,by simpa[zaA]using hh⟩
 | cons y m=>
   obtain⟨k,rfl,CK,hk,hh⟩:=hv;have he:(zae (y::m)).isEmpty=false:=rfl;simp only[he,hh,zG,if_false,and_self,if_true,zcb]
   have Oo:zbU (zae l) (zae (y::m)) (zae l++List.replicate ((y::m).length+room) [zi])=zae (l++y::m)++List.replicate room [zi]:=by
    have e1:zae (l++y::m)=zae l++zae (y::m):=by simp[zae]
    rw[e1];unfold zbU;split
    ·rename_i A5;simp only[zM,zab,List.length_replicate]at A5;have:room=0:=by omega
     subst this;simp
    ·rw[List.drop_append,List.drop_of_length_le (by rw[zab,zab];omega),List.drop_replicate,zab,zab];rw[show(y::m).length+room-(l.length+(y::m).length-l.length)=room by omega,List.nil_append]
   refine hK _ [(k,.dead),(q,.rows 1 (zbU (zae l) (zae (y::m)) (zae l++List.replicate ((y::m).length+room) [zi])) false)] ⟨q,?_,by omega,by omega,?_⟩ (fun j hj=> ?_)
   ·rw[zab,zab,zM]
   ·rw[Oo];have:q≠k:=by omega
    simp[zaC,zaA,zaa]
   ·have h1:j≠q:=by omega
    have h2:j≠k:=by omega
    simp[zaC,zaA,zaa,h1,h2]
theorem zuW (m:Nat) (h0:0<m) (h1:m<=2^31) (H:Nat->Option O) (n:Nat): ∃r h' n',DenR Γ G 368 [.t .nils,vi m] H n=some (r,h',n')/\(zjP h' n n' r [] m/\ ∀j,j<n->h' j=H j):=by
 have e1: ¬((m:Int)<0):=by omega
 have e2:(0:Int)<m:=by omega
 have e3:(m:Int)<=4294967296:=by omega
 have hw:IntKind.i64.wrap ((m:Int)-0)=m:=by rw[Int.sub_zero];exact zaH (by omega)
 have e4:(1:Int)<=m:=by omega
 (refine zay Γ368 rfl ?_;dsimp only[zyQ])
 simp -dsimp -implicitDefEqProofs only[go_sem,seval,e1,e2,e3,e4,hw];refine⟨⟨_,rfl,by omega,by simp -dsimp -implicitDefEqProofs only[go_sem];omega,by simp[zaC,zaA,zaa,zae]⟩,fun j hj=> ?_⟩;have:j≠n+1+2+8+2+5:=by omega
 simp[zaC,zaA,zaa,this]
theorem zsB (n:Nat) (H:Nat->Option O): ∃r h' n',DenR Γ G 368 [.t .nils,vi 0] H n=some (r,h',n')/\(r= .t .nils/\h'=H):=by
 have hw:IntKind.i64.wrap (0-0)=0:=rfl
 (refine zay Γ368 rfl ?_;dsimp only[zyQ])
 simp -dsimp -implicitDefEqProofs only[go_sem,seval,hw];exact⟨rfl,rfl⟩
def zKC (H:Nat->Option O) (n:Nat) (v:V) (l:List Int):Prop:=Rg.valOf v=some v/\ ∀h':Nat->Option O,(∀j,j<n->h' j=H j)->lenS h' v=some l.length/\Rg.rowsS h' v=some (zae l)
theorem zKC.tree (H:Nat->Option O) (n:Nat) (l:List Int):zKC H n (.t (ints l)) l:=⟨rfl,fun h' _=>⟨by simp[lenS],rfl⟩⟩
theorem zIo (a b:List Int) (ha:a.length<2^20) (hb:b.length<2^20) (H:Nat->Option O) (n k:Nat) (va vb:V) (hk:H k=some (.rows 1 [[va],[vb]] false)) (EK:k<n)
 (oa:zKC H n va a) (ob:zKC H n vb b): ∃r h' n',DenR Γ G 350 [.ms k 0 2] H n=some (r,h',n')/\zaF h' n' r 1 (zae (a++b)):=by
 have w1:IntKind.i64.wrap (0+(a.length:Int))=a.length:=by rw[Int.zero_add];exact zaH (by omega)
 have w2:IntKind.i64.wrap ((a.length:Int)+b.length)=((a.length+b.length:Nat):Int):=by rw[Int.natCast_add];exact zaH (by omega)
 have e1: ¬((a.length:Int)<0):=by omega
 have e2: ¬(((a.length+b.length:Nat):Int)<0):=by omega
 have v1:=oa.1;have v2:=ob.1;have l1:=(oa.2 H fun _ _=>rfl).1;have l2:=(ob.2 H fun _ _=>rfl).1
 (refine zay Γ350 rfl ?_;dsimp only[zAp])
 simp -dsimp -implicitDefEqProofs only[go_sem,seval,hk];refine zaD ?_;simp -dsimp -implicitDefEqProofs only[go_sem,seval,hk,v1,l1,w1,e1];refine zaD ?_;simp -dsimp -implicitDefEqProofs only[go_sem,seval,hk,v2,l2,w2,e2];refine zaD ?_;simp -dsimp -implicitDefEqProofs only[go_sem,seval]
 by_cases h0:a.length+b.length=0
 ·rw[h0];have DH:a=[]:=List.eq_nil_of_length_eq_zero (by omega);have Co:b=[]:=List.eq_nil_of_length_eq_zero (by omega);subst DH Co;refine zas (zsB _ _) ?_;rintro r h' n' ⟨rfl,rfl⟩;have r1:=(oa.2 _ fun _ _=>rfl).2;have r2:=(ob.2 _ fun _ _=>rfl).2;have e3:zae []=[]:=rfl;simp -dsimp -implicitDefEqProofs only[go_sem,seval,hk];refine zaD ?_;simp -dsimp -implicitDefEqProofs only[go_sem,seval,hk,v1,r1,e3,zck];refine zaD ?_;simp -dsimp -implicitDefEqProofs only[go_sem,seval,hk,v2,r2,e3,zck];refine zaD ?_;simp -dsimp -implicitDefEqProofs only[go_sem,seval];exact .inl ⟨rfl,rfl⟩
 ·refine zas (zuW _ (by omega) (by omega) _ _) ?_;rintro r h' n' ⟨hP,Aq⟩;have q1:=hP.valOf;have q2:=hP.rows;have A3:h' k=some (.rows 1 [[va],[vb]] false):=by rw[Aq k (by omega)];exact hk
  have r1:=(oa.2 h' fun j hj=>Aq j (by omega)).2;simp -dsimp -implicitDefEqProofs only[go_sem,seval,q1,A3];refine zaD ?_;simp -dsimp -implicitDefEqProofs only[go_sem,seval,A3,v1,q1,q2,r1];refine zmE hP (by omega) (by simp;omega) ?_;rintro v' hp Ge GM;rw[List.nil_append]at Ge;have q3:=Ge.valOf;have q4:=Ge.rows;have AF:At h' hp k=some (.rows 1 [[va],[vb]] false):=by rw[GM k (by omega)];exact A3
  have r2:=(ob.2 (At h' hp) fun j hj=>(GM j (by omega)).trans (Aq j (by omega))).2;simp -dsimp -implicitDefEqProofs only[go_sem,seval,q3,AF];refine zaD ?_;simp -dsimp -implicitDefEqProofs only[go_sem,seval,AF,v2,q3,q4,r2];refine zmE (room:=0) Ge (by omega) (by omega) ?_;rintro v' G6 Ow NG;have q5:=Ow.valOf;have q6:=Ow.resVal;simp only[Rg.resVal]at q6;simp -dsimp -implicitDefEqProofs only[go_sem,seval,q5];refine zaD ?_;simp -dsimp -implicitDefEqProofs only[go_sem,seval,q5,q6];obtain⟨kk,rfl,h1,h2,h3⟩:=Ow;exact .inr ⟨kk,by rw[zab];rfl,by simp -dsimp -implicitDefEqProofs only[go_sem];omega,by simpa using h3⟩
end Rg
end
section
namespace Rg
open Go
abbrev num (z:Int):List UInt8:=Go.Lib.itoa z
def zyt (op:Int):List UInt8:=
 if op=4 then [110,111,116]else if op=5 then [97,110,100]else if op=6 then [111,114]else if op=7 then [120,111,114]else if op=8 then [97,100,100]
 else if op=9 then [115,117,98]else if op=10 then [109,117,108]else if op=11 then [101,113]else if op=12 then [108,116]else if op=13 then [108,101]else [105,116,101]
def zyD (op:Int):List UInt8:=if op=2 then [99]else if op=3 then [111]else []
def zv4:List (List UInt8)->List UInt8
 | []=>[]
 | [x]=>x
 | x::r=>x++44::zv4 r
namespace Expr
mutual
def txt:Expr->List UInt8
 | .mk op w n ks=>if op=1\/op=2\/op=3 then zyD op++num n++[58]++num w else zyt op++[40]++zv4 (zCs ks)++[41]
def zCs:List Expr->List (List UInt8)
 | []=>[]
 | e::r=>txt e::zCs r
end
end Expr
abbrev Prog.ok (p:Prog):Prop:=(zbM p).1=0
end Rg
end
section
set_option maxRecDepth 100000
namespace Rg
open Go
def Expr.text (e:Expr):List UInt8:=if e.formed then e.txt else []
end Rg
end
section
set_option maxRecDepth 100000
namespace Rg
open Go
end Rg
end
section
set_option maxRecDepth 100000
namespace Rg
open Go
def zBB (ws:List (List UInt8)):List UInt8:=Go.Lib.join ws [32]++[10]
end Rg
end
section
set_option maxRecDepth 100000
namespace Rg
open Go
def zBz (l:Loop):List (List UInt8):=[[108,111,111,112],num l.head,l.variant.text]
def loopX (l:Loop):List UInt8:=zBB (zBz l++l.body.map num)
end Rg
end
section
set_option maxRecDepth 100000
namespace Rg
open Go
end Rg
end
section
set_option maxRecDepth 100000
namespace Rg
open Go
end Rg
end
section
namespace Rg
open Go
end Rg
end
section
set_option maxRecDepth 100000
namespace Rg
open Go
end Rg
end
section
namespace Rg
open Go
theorem zij (zs:List Int) (hs:zs.Pairwise (· <= ·)) (m:Nat) (hm:m<=zs.length):(Go.Lib.compactUpTo zs.toArray m).Pairwise (· < ·):=by
 have Ag: ∀i j:Nat,i<=j->j<zs.length->zs.toArray[i]! <=zs.toArray[j]! :=by
  intro i j Av hj;rw[getElem!_pos zs.toArray i (by simp;omega),getElem!_pos zs.toArray j (by simp;omega)];simp only[List.getElem_toArray];rcases Nat.lt_or_eq_of_le Av with h | h
  ·exact List.pairwise_iff_getElem.1 hs i j (by omega) hj h
  ·subst h;exact Int.le_refl _
 unfold Go.Lib.compactUpTo;rw[List.pairwise_map];have h0:=(List.pairwise_lt_range (n:=m)).filter (Go.Lib.keeps zs.toArray);refine h0.imp_of_mem ?_;intro a b ha hb Ca;have Cx:=List.mem_range.1 (List.mem_filter.1 hb).1;have hk:=(List.mem_filter.1 hb).2;have h1:=Ag a (b-1) (by omega) (by omega);have h2:=Ag (b-1) b (by omega) (by omega);simp only[Go.Lib.keeps,Bool.or_eq_true,decide_eq_true_eq,bne_iff_ne,ne_eq]at hk;rcases hk with hk | hk
 ·omega
 ·omega
theorem zjV (l:List Int):(zhp l).Pairwise (· < ·):=by
 unfold zhp Go.Lib.compact;refine zij _ ?_ _ (Nat.le_refl _);have:=List.pairwise_mergeSort (le:=fun x y:Int=>decide (x<=y)) (by intro a b c h1 h2;simp at *;omega) (by intro a b;simp;omega) l;exact this.imp (by intro a b h;simpa using h)
theorem zhF (p:Prog) (l:List Int) (c:Int):zcD p (l++[c])=zcD p l+wOf p c:=by simp[zcD]
theorem zoQ (p:Prog) (c:Int): ∀(l:List Int) (n:Int) (s:List Int),stM p (l++[c]) n s=(stM p l n s).set c.toNat (n/ 2^zcD p l % 2^wOf p c)
 | [],n,s=>by simp[stM,zcD]
 | x::l,n,s=>by
   rw[List.cons_append,stM,zoQ p c l,stM];have:zcD p (x::l)=wOf p x+zcD p l:=by simp[zcD]
   rw[this,Int.pow_add,<- Int.ediv_ediv_of_nonneg (Int.le_of_lt (zcn _))]
end Rg
end
section
namespace Rg
open Go
end Rg
end
section
namespace Rg
open Go
end Rg
end
section
set_option maxRecDepth 10000
namespace Rg
open Go
end Rg
end
section
namespace Rg
open Go
end Rg
end
section
set_option maxRecDepth 10000
namespace Rg
open Go
end Rg
end
section
namespace Rg
open Go
theorem zgX: ∀(n:Nat) (l:List Int),l.Nodup->(∀x∈l,0<=x/\x<n)->l.length<=n
 | 0,[],_,_=>Nat.le_refl _
 | 0,x::l,_,hl=>by have:=hl x List.mem_cons_self;omega
 | n+1,l,Bt,hl=>by
   have h:=zgX n (l.erase (n:Int)) (Bt.erase _) fun x hx=>by
    have h1:=Bt.mem_erase_iff.1 hx;have h2:=hl x h1.2;have h3:=h1.1;omega
   rw[List.length_erase]at h;split at h<;>omega
end Rg
end
section
namespace Rg
open Go
end Rg
end
section
namespace Rg
open Go
section
end
end Rg
end
section
namespace Rg
open Go
structure Vis where
 c:Config
 fr:Int
 x:Choice
 deriving Inhabited
def v0 (p:Prog):Vis:=⟨zcm p,-1,⟨0,0,0⟩⟩
end Rg
end
section
namespace Rg
open Go
def zqa (l:List Int):List Int:=l.mergeSort fun x y=>decide (x<=y)
theorem zrw (H:Nat->Option O) (x n:Nat) (v:V) (l:List Int) (ho:zaF H x v 1 (zae l)) (hl:l.length<2^40):
 ∃r h' n',DenR Γ G 74 [v] H n=some (r,h',n')/\r= .tup []/\zaF h' x v 1 (zae (zqa l))/\n'=n:=by
 rcases ho with⟨rfl,hr⟩ | ⟨k,rfl,hk,hh⟩
 ·have K0:l=[]:=by
   have:=congrArg List.length hr;rw[zab]at this;exact List.eq_nil_of_length_eq_zero this
  subst K0;exact⟨_,_,_,zf6 Γ74 rfl rfl rfl,rfl,.inl ⟨rfl,by rw[zqa,List.mergeSort_nil];rfl⟩,rfl⟩
 ·rw[zab]
  refine⟨_,upd H k (some (.rows 1 (zae (zqa l)) false)),n,zf6 Γ74 rfl rfl (by
   simp only[zd3,hh,zfy,zD,zhQ]
   rw[if_pos (by exact⟨trivial,by omega⟩)];rfl),rfl,.inr ⟨k,by rw[zab,zqa,List.length_mergeSort],hk,by rw[zaz]⟩,rfl⟩
theorem zng (H:Nat->Option O) (x n:Nat) (v:V) (l:List Int) (ho:zaF H x v 1 (zae l)) (hl:l.length<2^40):
 ∃r h' n',DenR Γ G 75 [v] H n=some (r,h',n')/\r= .t (ints (Go.Lib.compact l))/\n'=n:=by
 rcases ho with⟨rfl,hr⟩ | ⟨k,rfl,hk,hh⟩
 ·have K0:l=[]:=by
   have:=congrArg List.length hr;rw[zab]at this;exact List.eq_nil_of_length_eq_zero this
  subst K0;exact⟨_,_,_,zf6 Γ75 rfl rfl rfl,rfl,rfl⟩
 ·rw[zab]
  exact⟨_,_,_,zf6 Γ75 rfl rfl (by
   simp only[zd3,hh,zfy,zD,zhQ]
   rw[if_pos ⟨trivial,by omega⟩]),rfl,rfl⟩
theorem zud {s:List Int} {c:Nat} (h:c<s.length):(zae s)[c]? =some [vi s[c]]:=by simp[zae,h]
theorem zuc (s:List Int) (c:Nat) (v:Int):(zae s).set c [.t (.int .i64 v)]=zae (s.set c v):=by simp[zae,List.map_set]
theorem zp6 {h:Nat->Option O} {k len:Nat} {s:List Int} {fz:Bool} (hk:h k=some (.rows 1 (zae s) fz)) (hl:len=s.length):toT1 h (.ms k 0 len)=some (.t (ints s)):=by
 have h1:=zdJ h 999 (s.map fun n=>[ti n]) (zbP _)
 have h2:toT h 1000 (.ms k 0 len)=some (ints s):=by
  rw[toT,hk];simp only[rd,Nat.zero_add,List.drop_zero];rw[if_pos (by rw[zab];omega),List.take_of_length_le (by rw[zab];omega)];simp only[zC,zD];rw[show zae s=(s.map fun n=>[ti n]).map (·.map V.t)from rfl,h1];rfl
 simp only[toT1,h2,Option.map_some]
def zGv (l:List Int):Int:=l.foldl (· + ·) 0
theorem zGN (l:List Int) (x:Int):zGv (l++[x])=zGv l+x:=by simp[zGv]
def wsM (p:Prog) (l:List Int):List Int:=l.map fun c=>(wOf p c:Int)
theorem zG8: ∀(l:List Int) (a:Int),l.foldl (· + ·) a=a+l.foldl (· + ·) 0
 | [],a=>by simp
 | x::l,a=>by
   rw[List.foldl_cons,List.foldl_cons,zG8 l (a+x),zG8 l (0+x)];omega
theorem zHm (p:Prog): ∀l:List Int,zGv (wsM p l)=zcD p l
 | []=>by simp[wsM,zGv,zcD]
 | c::l=>by
   have ih:=zHm p l
   have e:zGv (wsM p (c::l))=wOf p c+zGv (wsM p l):=by
    rw[wsM,List.map_cons,zGv,List.foldl_cons,zG8];rw[zGv,wsM];omega
   rw[e,ih];simp[zcD]
end Rg
end
section
namespace Rg
open Go
def bmT (ws:List Nat):T:=.ip (ws.map fun w:Nat=>T.int .u64 (w:Int))
theorem zHZ (ws:List Nat) (B:Bm ws) {h0:Nat->Option O} {x0 kb:Nat} {fz:Bool} (hk:h0 kb=some (.rows 64 [bmV ws] fz)) (ND:kb<x0):
 ∃r h' x',DenR Γ G 533 [.mp kb 0 0] h0 x0=some (r,h',x')/\zaF h' x' r 1 (zae (zGw ws 64))/\(∀j,j<x0->zbg r j)/\(∀j,j<x0->h' j=h0 j)/\x0<=x':=by
 have hl:=B.len
 have FZ: ∀i,(zGw ws i).length<=64*i:=fun i=>by
  rw[zG5,List.length_map];exact Nat.le_trans (List.length_filter_le _ _) (by simp)
 have F8:(bmV ws).length=64:=by simp[bmV,hl]
 (refine zay Γ533 rfl ?_;dsimp only[zLn])
 simp -dsimp -implicitDefEqProofs only[go_sem,seval];refine zaq 268435384 64 (fun i f h x=>(f 7).v=vi i/\zaF h x (f 3).v 1 (zae (zGw ws i))/\(∀j,j<x0->zbg (f 3).v j)/\(∀j,j<x0->h j=h0 j)/\x0<=x) rfl ⟨by simp -dsimp -implicitDefEqProofs only[go_sem,seval],.inl ⟨by simp -dsimp -implicitDefEqProofs only[go_sem,seval],rfl⟩,(fun j hj=>by simp -dsimp -implicitDefEqProofs only[go_sem,seval];intro i n h;cases h),(fun j hj=>rfl),by simp -dsimp -implicitDefEqProofs only[go_sem,seval];omega⟩ ?_;rintro i f u h x bb hi ⟨g7,hO,Bn,A8,PF⟩;have hw:=zan i (by omega)
 by_cases AV:i<64
 ·have DB:((i:Int)<64)=True:=eq_true (by omega);obtain⟨w,IM,FP⟩:=zai (show i<ws.length by omega);have It:=B.lt w FP;have Do:h kb=some (.rows 64 [bmV ws] fz):=by rw[A8 kb ND];exact hk
  have r1:List.take 1 (List.drop (i*1) (bmV ws))=[vw w]:=by
   rw[Nat.mul_one,zdo (l:=bmV ws) (x:=vw w) (by rw[bmV,zJ,IM];rfl)];rfl
  have c1:(i*1+1<=64)=True:=eq_true (by omega)
  have Tg:zGw ws (i+1)=zGw ws i++(zHU w 64).map fun t:Nat=>((64*i+t:Nat):Int):=by
   rw[zGw,zK,IM,Option.getD_some]
  simp -dsimp -implicitDefEqProofs only[go_sem,seval,g7,DB,Do,F8,r1,c1];refine zaq 134209576 64 (fun q f h x=> ∃k,q<=k/\k<=64/\(f 5).v=vw (hiB w k)/\zaF h x (f 3).v 1 (zae (zGw ws i++(zHU w k).map fun t:Nat=>((64*i+t:Nat):Int)))/\(∀j,j<x0->zbg (f 3).v j)/\(∀j,j<x0->h j=h0 j)/\x0<=x) rfl ⟨0,Nat.le_refl _,by omega,by simp -dsimp -implicitDefEqProofs only[go_sem,seval,zJK],by simp -dsimp -implicitDefEqProofs only[go_sem,seval];simp only[zHU,List.range_zero,List.filter_nil,List.map_nil,List.append_nil];exact hO.le (by omega),by simp -dsimp -implicitDefEqProofs only[go_sem,seval];exact Bn,A8,by simp -dsimp -implicitDefEqProofs only[go_sem,seval];omega⟩ ?_;rintro q f1 u1 h1 x1 bb1 hq ⟨k,k0,k1,g5,O0,Jq,J3,KA⟩
  by_cases hz:hiB w k=0
  ·have z1:((hiB w k:Nat):Int)=0:=by omega
   rw[hz]at g5;simp -dsimp -implicitDefEqProofs only[go_sem,seval,g5,g7];refine⟨AV,by simp -dsimp -implicitDefEqProofs only[go_sem,seval,hw],?_,fun j hj=>by simp -dsimp -implicitDefEqProofs only[go_sem,seval];exact Jq j hj,fun j hj=>by simp -dsimp -implicitDefEqProofs only[go_sem,seval];exact J3 j hj,by simp -dsimp -implicitDefEqProofs only[go_sem,seval];omega⟩;simp -dsimp -implicitDefEqProofs only[go_sem,seval];rw[Tg,zJI k1 hz];exact O0.le (by omega)
  ·obtain⟨t,m,t0,t1,t2,t3,t4⟩:=zI8 It hz;have Ad:hiB w k<2^64:=Nat.lt_of_le_of_lt (zKP w k) It;have PM:=zKH t m t1 (by rw[<- t2];exact Ad);rw[<- t2]at PM;have z1:(((hiB w k:Nat):Int)=0)=False:=eq_false (by omega);have p1:=zKE hz Ad;have p2:=zJE Ad (show hiB w k-1<2^64 by omega);have p3:hiB w k&&& (hiB w k-1)=hiB w (t+1):=by rw[t3,t2];exact zJT t m
   rw[p3]at p2;have m1:IntKind.i64.wrap (64*(i:Int))=((64*i:Nat):Int):=by rw[zaH (by omega)];omega
   have m2:IntKind.i64.wrap (((64*i:Nat):Int)+(t:Int))=((64*i+t:Nat):Int):=by rw[zaH (by omega)];omega
   have v1:=O0.valOf;have v2:=O0.r2;have v3:=O0.r3;have v4:=O0.r4;have v5:=O0.r5;simp -dsimp -implicitDefEqProofs only[go_sem,seval,g5,z1,PM,p1,p2,m1,m2,v1,v2,v3,v4,v5]
   have Mq:(zHU w k).length<=64:=by
    rw[zHU];exact Nat.le_trans (List.length_filter_le _ _) (by simp;omega)
   have Kn:=FZ i;refine zav (O0.upd (by omega) _) (by omega) (by rw[zab,zM,List.length_map];omega) (by decide) rfl (zaQ _) ?_;intro v hp hP Bp Aq;have y1:=hP.valOf;simp -dsimp -implicitDefEqProofs only[go_sem,seval,y1,g5,p1,p2];refine⟨by omega,t+1,by omega,by omega,by simp -dsimp -implicitDefEqProofs only[go_sem,seval],?_,fun j hj=>by simp -dsimp -implicitDefEqProofs only[go_sem,seval];exact Bp j (by omega),fun j hj=>by simp -dsimp -implicitDefEqProofs only[go_sem,seval];rw[Aq j (by omega) (Jq j hj),zaa,if_neg (by omega)];exact J3 j hj,by simp -dsimp -implicitDefEqProofs only[go_sem,seval];omega⟩;simp -dsimp -implicitDefEqProofs only[go_sem,seval];rw[t4,List.map_append,<- zQ];simp only[List.map_cons,List.map_nil];rw[za4];exact hP.le (by omega)
 ·have DB:((i:Int)<64)=False:=eq_false (by omega);have:i=64:=by omega
  subst this;have v1:=hO.valOf;have v5:=hO.resVal;simp only[Rg.resVal]at v5;simp -dsimp -implicitDefEqProofs only[go_sem,seval,g7,v1,v5];exact⟨hO.le (by simp -dsimp -implicitDefEqProofs only[go_sem,seval];omega),Bn,A8,by simp -dsimp -implicitDefEqProofs only[go_sem,seval];omega⟩
theorem zHB (l:List Int) (h: ∀n∈l,0<=n/\n<=8) (hl:l.length<=2^20):Den Γ G 529 [.t (ints l)]=some (vi (zGv l)):=by
 have hb: ∀i,0<=zGv (l.take i)/\zGv (l.take i)<=8*i:=by
  intro i
  induction i with
  | zero=>simp[zGv]
  | succ i ih=>
    by_cases hi:i<l.length
    ·obtain⟨n,hn,hm⟩:=zai hi;have:=h n hm;rw[zaf hn,zGN];omega
    ·rw[List.take_of_length_le (by omega)]at ih⊢;omega
 (refine zag Γ529 rfl ?_;dsimp only[zLr])
 simp -dsimp -implicitDefEqProofs only[go_sem,seval];refine zaT 65320 l.length (fun i f=>(f 8).v=vi i/\(f 3).v=vi (zGv (l.take i))) rfl rfl ⟨by simp -dsimp -implicitDefEqProofs only[go_sem,seval],by simp -dsimp -implicitDefEqProofs only[go_sem,seval];rfl⟩ ?_;rintro i f u x bs hi ⟨h4,h3⟩;have hw:=zan i (by omega);simp -dsimp -implicitDefEqProofs only[go_sem,seval,h4];refine zac (fun h=> ?_) (fun h=> ?_)<;>(try rw[h])<;>(try simp only[zah]at h)<;>(try simp -dsimp -implicitDefEqProofs only[go_sem,seval,h4])
 ·obtain⟨n,hn,hm⟩:=zai ‹i<l.length›;have h1:=hb i;have h2:=hb (i+1);rw[zaf hn,zGN]at h2;have Ht:IntKind.i64.wrap (zGv (l.take i)+n)=zGv (l.take i)+n:=zaH (by omega);simp -dsimp -implicitDefEqProofs only[go_sem,seval,h4,h3,hn,Ht];refine⟨by omega,by simp -dsimp -implicitDefEqProofs only[go_sem,seval,hw],by simp -dsimp -implicitDefEqProofs only[go_sem,seval,zaf hn,zGN]⟩
 ·have:i=l.length:=by omega
  subst this;rw[List.take_length]at h3;simp -dsimp -implicitDefEqProofs only[go_sem,seval,h3]
theorem zG6 (l:List Int) (hR:l.Pairwise (· < ·)) (hl:l.length<2^20):Den Γ G 575 [.t (ints l)]=some (vb true):=by
 (refine zag Γ575 rfl ?_;dsimp only[zK4])
 simp -dsimp -implicitDefEqProofs only[go_sem,seval];refine zaT 1048572 l.length (fun i f=>(f 3).v=vi ((i+1:Nat):Int)) rfl rfl (by simp -dsimp -implicitDefEqProofs only[go_sem,seval]) ?_;rintro i f u x bs hi h3;have hw:IntKind.i64.wrap (((i+1:Nat):Int)+1)=((i+1+1:Nat):Int):=zan (i+1) (by omega)
 by_cases AV:i+1<l.length
 ·have DB:(((i+1:Nat):Int)<(l.length:Int))=True:=eq_true (by omega);obtain⟨n,hn,hm⟩:=zai AV;obtain⟨m,EG,_⟩:=zai (show i<l.length by omega)
  have Ad:m<n:=by
   have:=List.pairwise_iff_getElem.1 hR i (i+1) (by omega) AV (by omega);rw[(zH.1 hn).2,(zH.1 EG).2]at this;exact this
  have e4:(n<=m)=False:=eq_false (by omega);have e5:IntKind.i64.wrap (((i+1:Nat):Int)-1)=(i:Int):=by rw[show(((i+1:Nat):Int)-1)=(i:Int)by omega];exact zaH (by omega)
  simp -dsimp -implicitDefEqProofs only[go_sem,seval,h3,DB,hn,EG,e4,e5];exact⟨by omega,by simp -dsimp -implicitDefEqProofs only[go_sem,seval,hw]⟩
 ·have DB:(((i+1:Nat):Int)<(l.length:Int))=False:=eq_false (by omega);simp -dsimp -implicitDefEqProofs only[go_sem,seval,h3,DB]
def zG1 (l ws:List Int):Bool:=decide (l.length=ws.length)&&(l.zip ws).all fun q=>decide (0<=q.1)&&decide (q.1<32)&&decide (1<=q.2)&&decide (q.2<=8)
theorem zHn (l ws:List Int) (hR:l.Pairwise (· < ·)) (hl:l.length<2^20):Den Γ G 576 [.t (ints l),.t (ints ws)]=some (vb (zG1 l ws)):=by
 have hi:=zG6 l hR hl
 (refine zag Γ576 rfl ?_;dsimp only[zK3])
 by_cases Ac:l.length=ws.length
 rotate_left
 ·have e1:((l.length:Int)=(ws.length:Int))=False:=eq_false (by omega);simp -dsimp -implicitDefEqProofs only[go_sem,seval,e1];simp[zG1,Ac]
 have e1:((l.length:Int)=(ws.length:Int))=True:=eq_true (by omega);simp -dsimp -implicitDefEqProofs only[go_sem,seval,e1,hi];refine zaT 35184371564656 l.length (fun i f=>(f 19).v=vi i/\zG1 l ws=((l.zip ws).drop i).all fun q=>decide (0<=q.1)&&decide (q.1<32)&&decide (1<=q.2)&&decide (q.2<=8)) rfl rfl ⟨by simp -dsimp -implicitDefEqProofs only[go_sem,seval],by simp[zG1,Ac]⟩ ?_;rintro i f u x bs AV ⟨EZ,hq⟩;have hw:=zan i (by omega)
 by_cases B8:i<l.length
 ·have Cq:=eq_true B8;obtain⟨c,hc,_⟩:=zai B8;obtain⟨w,IM,_⟩:=zai (show i<ws.length by omega);have hz:(l.zip ws)[i]? =some (c,w):=by rw[List.getElem?_zip_eq_some];exact⟨hc,IM⟩
  have hd:=zdo hz;rw[hd,List.all_cons]at hq
  by_cases b1:c<0
  ·have b1':=eq_true b1;rw[hq,decide_eq_false (show ¬0<=c by omega)];simp -dsimp -implicitDefEqProofs only[go_sem,seval,EZ,Cq,hc,IM,b1'];rfl
  have b1':=eq_false b1
  by_cases b2:c>=32
  ·have b2':=eq_true b2;rw[hq,decide_eq_false (show ¬c<32 by omega)];simp -dsimp -implicitDefEqProofs only[go_sem,seval,EZ,Cq,hc,IM,b1',b2'];simp
  have b2':=eq_false b2
  by_cases b3:w<1
  ·have b3':=eq_true b3;rw[hq,decide_eq_false (show ¬1<=w by omega)];simp -dsimp -implicitDefEqProofs only[go_sem,seval,EZ,Cq,hc,IM,b1',b2',b3'];simp
  have b3':=eq_false b3
  by_cases b4:w>8
  ·have b4':=eq_true b4;rw[hq,decide_eq_false (show ¬w<=8 by omega)];simp -dsimp -implicitDefEqProofs only[go_sem,seval,EZ,Cq,hc,IM,b1',b2',b3',b4'];simp
  have b4':=eq_false b4;rw[decide_eq_true (show 0<=c by omega),decide_eq_true (show c<32 by omega),decide_eq_true (show 1<=w by omega),decide_eq_true (show w<=8 by omega)]at hq;simp -dsimp -implicitDefEqProofs only[go_sem,seval,EZ,Cq,hc,IM,b1',b2',b3',b4'];exact⟨B8,by simp -dsimp -implicitDefEqProofs only[go_sem,seval,hw],by rw[hq];rfl⟩
 ·have Cq:=eq_false B8;have:i=l.length:=by omega
  subst this;simp -dsimp -implicitDefEqProofs only[go_sem,seval,EZ,Cq];rw[hq,List.drop_of_length_le (by rw[List.length_zip];omega)];rfl
def zI0:List Nat:=List.replicate 64 0
theorem zIq:Bm zI0:=⟨by simp[zI0],fun w hw=>by rw[List.eq_of_mem_replicate hw];omega⟩
def zGX (l:List Nat):List Nat:=l.foldl zIZ zI0
theorem zHY (l:List Nat) (n:Nat):zGX (l++[n])=zIZ (zGX l) n:=by simp[zGX]
theorem zIy: ∀(l:List Nat) (ws:List Nat),Bm ws->(∀n∈l,n<4096)->Bm (l.foldl zIZ ws)
 | [],ws,B,_=>B
 | n::l,ws,B,h=>zIy l _ (zJA B (h n (by simp))) fun x hx=>h x (by simp[hx])
theorem zGJ {l:List Nat} (h: ∀n∈l,n<4096):Bm (zGX l):=zIy l _ zIq h
theorem zH3: ∀(l:List Nat) (ws:List Nat),Bm ws->(∀n∈l,n<4096)-> ∀j,zHH (l.foldl zIZ ws) j=(zHH ws j||l.contains j)
 | [],ws,B,_,j=>by simp
 | n::l,ws,B,h,j=>by
   rw[List.foldl_cons,zH3 l _ (zJA B (h n (by simp))) (fun x hx=>h x (by simp[hx])) j,zJL B (h n (by simp)),List.contains_cons,Bool.or_assoc]
   congr 2
theorem zHF {l:List Nat} (h: ∀n∈l,n<4096) (j:Nat):zHH (zGX l) j=l.contains j:=by
 rw[zGX,zH3 l _ zIq h]
 have:zHH zI0 j=false:=by
  rw[zHH,zI0,zK,List.getElem?_replicate];split<;>simp
 rw[this,Bool.false_or]
abbrev nI (l:List Nat):List Int:=l.map fun n:Nat=>(n:Int)
theorem zJ6 (h:Nat->Option O) (d:Nat): ∀ws:List Nat,(bmV ws).mapM (toT h d)=some (ws.map fun w:Nat=>T.int .u64 (w:Int))
 | []=>rfl
 | w::ws=>by
   have e1:toT h d (vw w)=some (T.int .u64 (w:Int)):=by cases d<;>rfl
   have:=zJ6 h d ws;rw[bmV]at this;rw[bmV,List.map_cons,List.mapM_cons,e1,this];rfl
theorem zHX (l:List Nat) (hl: ∀n∈l,n<4096) (Ac:l.length<=4096):Den Γ G 582 [.t (ints (nI l))]=some (.agg (bmV (zGX l))):=by
 have Hx:(nI l).length=l.length:=by simp
 (refine zag Γ582 rfl ?_;dsimp only[zK0])
 simp -dsimp -implicitDefEqProofs only[go_sem,seval,Hx];refine zaq 32544 l.length (fun i f h x=>(f 8).v=vi i/\h 1=some (.rows 64 [bmV (zGX (l.take i))] false)/\2<=x) rfl ⟨by simp -dsimp -implicitDefEqProofs only[go_sem,seval],by simp -dsimp -implicitDefEqProofs only[go_sem,seval];rfl,by simp -dsimp -implicitDefEqProofs only[go_sem,seval]⟩ ?_;rintro i f u h x bb hi ⟨g8,h3,hx⟩;have hw:=zan i (by omega);have hB:=zGJ (l:=l.take i) fun n hn=>hl n (List.mem_of_mem_take hn)
 by_cases AV:i<l.length
 ·have DB:=eq_true AV;obtain⟨n,hn,GE⟩:=zai AV;have Su:(nI l)[i]? =some (n:Int):=by rw[zJ,hn];rfl
  simp -dsimp -implicitDefEqProofs only[go_sem,seval,g8,DB,Su];refine zas (zIH _ hB n (hl n GE) h3) ?_;rintro r h' n' ⟨q1,q2,q3⟩;simp -dsimp -implicitDefEqProofs only[go_sem,seval,g8];refine⟨AV,by simp -dsimp -implicitDefEqProofs only[go_sem,seval,hw],?_,by(try simp -dsimp -implicitDefEqProofs only[go_sem,seval]);(try omega)⟩
  (try simp -dsimp -implicitDefEqProofs only[go_sem,seval])
  rw[zaf hn,zHY];exact q1
 ·have DB:=eq_false AV;have:i=l.length:=by omega
  subst this;rw[List.take_length]at h3 hB;have F8:(bmV (zGX l)).length=64:=by simp[bmV,hB.len]
  have b64:(64<=64)=True:=eq_true (by omega);have ht:List.take 64 (bmV (zGX l))=bmV (zGX l):=List.take_of_length_le (by omega);simp -dsimp -implicitDefEqProofs only[go_sem,seval,g8,DB,h3,F8,b64,ht];rw[zJ6,Option.map_some,List.map_map];rfl
theorem zJq (l:List Int) (hl:l.length<2^30):Den Γ G 524 [.t (ints l),.t (ints l)]=some (vb true):=by
 (refine zag Γ524 rfl ?_;dsimp only[zLu])
 simp -dsimp -implicitDefEqProofs only[go_sem,seval,bne_self_eq_false];refine zaT 67100720 l.length (fun i f=>(f 13).v=vi i) rfl rfl (by simp -dsimp -implicitDefEqProofs only[go_sem,seval]) ?_;rintro i f u x bs hi Du;have hw:=zan i (by omega)
 by_cases AV:i<l.length
 ·have DB:=eq_true AV;obtain⟨n,hn,_⟩:=zai AV;simp -dsimp -implicitDefEqProofs only[go_sem,seval,Du,DB,hn,bne_self_eq_false];exact⟨AV,by simp -dsimp -implicitDefEqProofs only[go_sem,seval,hw]⟩
 ·have DB:=eq_false AV;simp -dsimp -implicitDefEqProofs only[go_sem,seval,Du,DB]
theorem zGR (l:List Int) (hl:l.length<2^30):Den Γ G 522 [.t (ints l),.t (ints l)]=some (vb true):=by
 (refine zag Γ522 rfl ?_;dsimp only[zLv])
 simp -dsimp -implicitDefEqProofs only[go_sem,seval,bne_self_eq_false];refine zaT 67106864 l.length (fun i f=>(f 5).v=vi i) rfl rfl (by simp -dsimp -implicitDefEqProofs only[go_sem,seval]) ?_;rintro i f u x bs hi Du;have hw:=zan i (by omega)
 by_cases AV:i<l.length
 ·have DB:=eq_true AV;obtain⟨n,hn,_⟩:=zai AV;simp -dsimp -implicitDefEqProofs only[go_sem,seval,Du,DB,hn,bne_self_eq_false];exact⟨AV,by simp -dsimp -implicitDefEqProofs only[go_sem,seval,hw]⟩
 ·have DB:=eq_false AV;simp -dsimp -implicitDefEqProofs only[go_sem,seval,Du,DB]
def zGs (l ws s:List Int):V:=.agg [.t (ints l),.t (ints ws),.t (ints s)]
theorem zIK (l ws s:List Int) (h1:l.length<2^30) (h2:ws.length<2^30) (h3:s.length<2^30):Den Γ G 513 [zGs l ws s,zGs l ws s]=some (vb true):=by
 have a1:=zGR l h1;have a2:=zGR ws h2;have a3:=zGR s h3;unfold zGs
 (refine zag Γ513 rfl ?_;dsimp only[zLA])
 simp -dsimp -implicitDefEqProofs only[go_sem,seval,a1,a2,a3]
theorem zGA (l ws s:List Int) (hR:l.Pairwise (· < ·)) (hl:l.length<=32) (hs:zG1 l ws=true) (hw: ∀n∈ws,0<=n/\n<=8) (hb:zGv ws<=12):Den Γ G 577 [zGs l ws s]=some (vb true):=by
 have a1:=zHn l ws hR (by omega);rw[hs]at a1;have Er:ws.length=l.length:=by simp only[zG1,zF,decide_eq_true_eq]at hs;exact hs.1.symm
 have a2:=zHB ws hw (by omega);have b1:=eq_true hb;unfold zGs
 (refine zag Γ577 rfl ?_;dsimp only[zK2])
 simp -dsimp -implicitDefEqProofs only[go_sem,seval,a1,a2,b1]
def zwW (l:List Int) (v:Int):Int:=match l.findIdx? (fun x=>decide (x=v))with
 | some i=>i
 | none=> -1
theorem zwT {l:List Int} {v:Int} {i:Nat} (h:l[i]? =some v) (hn: ∀j,j<i->l[j]? ≠some v):zwW l v=i:=by
 have hi:=(zH.1 h).1
 have:l.findIdx? (fun x=>decide (x=v))=some i:=by
  rw[List.findIdx?_eq_some_iff_getElem];refine⟨hi,by simpa using(zH.1 h).2,fun j hj=> ?_⟩;have:=hn j hj;rw[zI (by omega)]at this;simpa using this
 rw[zwW,this]
theorem zuT {l:List Int} {v:Int} (hn: ∀j,j<l.length->l[j]? ≠some v):zwW l v= -1:=by
 have:l.findIdx? (fun x=>decide (x=v))=none:=by
  rw[List.findIdx?_eq_none_iff];intro x hx;obtain⟨j,hj⟩:=List.getElem?_of_mem hx;have:=hn j (zH.1 hj).1;rw[hj]at this;simpa using this
 rw[zwW,this]
theorem zwU (l:List Int) (v:Int):decide (zwW l v>=0)=l.contains v:=by
 unfold zwW
 cases h:l.findIdx? (fun x=>decide (x=v))with
 | some i=>
   have hm:v∈l:=by
    rw[List.findIdx?_eq_some_iff_getElem]at h;obtain⟨h1,h2,_⟩:=h;exact(by simpa using h2:l[i]=v)▸List.getElem_mem h1
   simp[hm]
 | none=>
   have hm:v∉ l:=by
    intro hm;rw[List.findIdx?_eq_none_iff]at h;have:=h v hm;simp at this
   simp[hm]
theorem zq0 (l:List Int) (v:Int) (hl:l.length<2^48):Den Γ G 207 [.t (ints l),vi v]=some (vi (zwW l v)):=by
 (refine zag Γ207 rfl ?_;dsimp only[zLF])
 simp -dsimp -implicitDefEqProofs only[go_sem,seval];refine zaT 524080 l.length (fun i f=>(f 8).v=vi i/\ ∀j,j<i->l[j]? ≠some v) rfl rfl ⟨by simp -dsimp -implicitDefEqProofs only[go_sem,seval],fun j hj=>by omega⟩ ?_;rintro i f u kk bb hi ⟨h8,hn⟩;have hw:=zan i (by omega);simp -dsimp -implicitDefEqProofs only[go_sem,seval,h8];refine zac (fun h=> ?_) (fun h=> ?_)<;>(try rw[h])<;>(try simp only[zah]at h)<;>(try simp -dsimp -implicitDefEqProofs only[go_sem,seval,h8])
 ·obtain⟨y,hy,_⟩:=zai ‹i<l.length›;simp -dsimp -implicitDefEqProofs only[go_sem,seval,h8,hy];refine zac (fun h=> ?_) (fun h=> ?_)<;>(try rw[h])<;>(try simp only[zah]at h)<;>(try simp -dsimp -implicitDefEqProofs only[go_sem,seval,h8])
  ·rw[zwT (by rw[hy,h]) hn]
  ·refine⟨by omega,by simp -dsimp -implicitDefEqProofs only[go_sem,seval,hw],fun j hj=> ?_⟩;rcases Nat.lt_or_ge j i with h1 | h1
   ·exact hn j h1
   ·have:j=i:=by omega
    subst this;rw[hy];intro he;cases he;exact absurd rfl h
 ·have:i=l.length:=by omega
  subst this;rw[zuT hn]
theorem zff (l:List Int) (v:Int) (hl:l.length<2^48):Den Γ G 206 [.t (ints l),vi v]=some (vb (l.contains v)):=by
 (refine zag Γ206 rfl ?_;dsimp only[zLG])
 have h1:=zq0 l v hl;have h2:=zwU l v;simp -dsimp -implicitDefEqProofs only[go_sem,seval,h1,h2]
def zB1 (h:Nat->Option O) (x:Nat) (v:V) (rows:List (List V)):Prop:=
 (v= .t (.sl [])/\rows=[])\/ ∃k,v= .ms k 0 rows.length/\k<x/\h k=some (.rows 1 rows false)
theorem zoa (l:List Int):zd2 (zae l)=some l:=by
 induction l with
 | nil=>rfl
 | cons n l ih=>
   show(zd2 (zae l)).map (n:: ·)=_;rw[ih];rfl
theorem znX (l:List Int):za9 l=zae l:=by simp[za9,zae]
theorem zni {h:Nat->Option O} {key:Nat} {l:List Int} {K:V->List (Nat×O)->Prop} {w:WK K} (hl:l.length<2^40)
 (hK: ∀v hp,zB1 (At h hp) (key+1) v (zae l)->(∀j,j≠key->At h hp j=h j)->(∀j,j≠key->zbg v j)->(Rg.valOf v=some v/\V.cells v=some [v])->K v hp):zyL (Γ:=Γ) (G:=G) false h key 198 [.t (ints l)] K w:=by
 refine⟨rfl,rfl,[.t (ints l)],rfl,?_⟩
 cases l with
 | nil=>
   refine⟨.t (.sl []),fun _=>none,0,zf6 Γ198 rfl rfl rfl,{ val:=.t (.sl []) },rfl,hK _ _ (.inl ⟨rfl,rfl⟩) (fun j _=>by rw[zaA]) (fun j _ i n h=>by cases h) ⟨rfl,rfl⟩⟩
 | cons a l=>
   have hd:zd3 .cloneI [.t (ints (a::l))] (fun _=>none) 0=some (.ms 0 0 (a::l).length,upd (fun _=>none) 0 (some (.rows 1 (za9 (a::l)) false)),1):=by
    show((zd2 (zae (a::l))).bind fun zs=>if zs.length<1099511627776 then some (V.ms 0 0 zs.length,upd (fun _=>none) 0 (some (O.rows 1 (za9 zs) false)),0+1)else none)=_;rw[zoa,zD,if_pos hl]
   rw[znX]at hd;have Aa:(zae (a::l)).all (fun row=>row.all V.isTr)=true:=by simp[zae,V.isTr]
   refine⟨_,_,_,zf6 Γ198 rfl rfl hd,{ val:=.ms key 0 (zae (a::l)).length,hp:=[(key,.rows 1 (zae (a::l)) false)] },?_,hK _ _ (.inr ⟨key,rfl,by omega,by simp[zaC,zaA,zaa]⟩) (fun j hj=>by simp[zaC,zaA,zaa,hj]) (fun j hj=>za3 (by omega) _ _) ⟨rfl,rfl⟩⟩;simp only[zqm,zaz];rw[if_pos ⟨trivial,by rw[zab],Aa⟩,zab]
theorem zB1.reify {h:Nat->Option O} {x:Nat} {v:V} {l:List Int} (o:zB1 h x v (zae l)):Rg.reify h v=some (.t (ints l)):=by
 rcases o with⟨rfl,he⟩ | ⟨k,rfl,_,hh⟩
 ·have:l=[]:=by
   have:=congrArg List.length he;rw[zab]at this;exact List.eq_nil_of_length_eq_zero this
  subst this;rfl
 ·have:toT h 1000 (.ms k 0 (zae l).length)=some (.sl (l.map fun n=>[ti n])):=zcc (h:=h) (x:=k+1) (es:=l.map fun n=>[ti n]) (.inr ⟨k,rfl,by omega,hh⟩) (zbP _);simp only[Rg.reify,toT1,this,Option.map_some]
structure Shp (l ws:List Int):Prop where
 inc:l.Pairwise (· < ·)
 len:l.length<=32
 shp:zG1 l ws=true
 w: ∀n∈ws,0<=n/\n<=8
 sum:0<=zGv ws/\zGv ws<=12
theorem Shp.wl {l ws:List Int} (S:Shp l ws):ws.length=l.length:=by
 have:=S.shp;simp only[zG1,zF,decide_eq_true_eq]at this;exact this.1.symm
structure Elems (ws:List Int) (s:List Nat):Prop where
 inc:s.Pairwise (· < ·)
 lt: ∀n∈s,n<2^(zGv ws).toNat
theorem Elems.lt4 {l ws:List Int} {s:List Nat} (S:Shp l ws) (E:Elems ws s): ∀n∈s,n<4096:=fun n hn=>by
 have h1:=E.lt n hn;have h2:=S.sum;have:(2:Nat)^(zGv ws).toNat<=2^12:=Nat.pow_le_pow_right (by omega) (by omega);omega
theorem Elems.len {l ws:List Int} {s:List Nat} (S:Shp l ws) (E:Elems ws s):s.length<=4096:=by
 have h:=E.lt4 S;have hn:s.Nodup:=E.inc.imp fun h=>by omega
 have D5:s ⊆ List.range 4096:=fun n hn=>List.mem_range.2 (h n hn)
 have:=List.Nodup.length_le_of_subset hn D5;simpa using this
theorem zGz {l ws:List Int} (S:Shp l ws) {s:List Nat} (E:Elems ws s):Den Γ G 546 [zGs l ws (nI s)]=some (vb true):=by
 have a1:=zGA l ws (nI s) S.inc S.len S.shp S.w S.sum.2;have BA:=E.len S;have a2:=zG6 (nI s) (by rw[List.pairwise_map];exact E.inc.imp fun h=>by omega) (by simp;omega);have a3:=zHB ws S.w (by have:=S.wl;have:=S.len;omega);have Hx:(nI s).length=s.length:=by simp
 unfold zGs at a1⊢
 (refine zag Γ546 rfl ?_;dsimp only[zLl])
 by_cases FT:s.length=0
 ·have e0:((s.length:Int)=0)=True:=eq_true (by omega);simp -dsimp -implicitDefEqProofs only[go_sem,seval,a1,a2,Hx,e0]
  done
 ·have e0:((s.length:Int)=0)=False:=eq_false (by omega)
  have e1:IntKind.i64.wrap ((s.length:Int)-1)=((s.length-1:Nat):Int):=by
   rw[show(s.length:Int)-1=((s.length-1:Nat):Int)by omega];exact zaH (by omega)
  obtain⟨n,hn,_⟩:=zai (show 0<s.length by omega);have h0:(nI s)[0]? =some (n:Int):=by rw[zJ,hn];rfl
  obtain⟨z,hz,Mj⟩:=zai (show s.length-1<s.length by omega);have h1:(nI s)[s.length-1]? =some (z:Int):=by rw[zJ,hz];rfl
  have b0:(0<=(n:Int))=True:=eq_true (by omega);have b1:(zGv ws<0)=False:=eq_false (by have:=S.sum;omega)
  have b2:IntKind.i64.wrap (1*2^min (zGv ws).toNat 64)=((2^(zGv ws).toNat:Nat):Int):=by
   have h2:=S.sum;have h3:(2:Nat)^(zGv ws).toNat<=2^12:=Nat.pow_le_pow_right (by omega) (by omega)
   have h4:(1*2^min (zGv ws).toNat 64:Int)=((2^(zGv ws).toNat:Nat):Int):=by
    rw[Nat.min_eq_left (by omega)];push_cast;omega
   rw[h4]
   generalize(2:Nat)^(zGv ws).toNat=q at h3⊢
   exact zaH (by omega)
  have b3:((z:Int)<((2^(zGv ws).toNat:Nat):Int))=True:=eq_true (by exact_mod_cast E.lt z Mj);simp -dsimp -implicitDefEqProofs only[go_sem,seval,a1,a2,a3,Hx,e0,e1,h0,h1,b0,b1,b2,b3]
theorem zGW {h:Nat->Option O} {x:Nat} {v:V} {l:List Int} (o:zB1 h x v (zae l)):toT h 1000 v=some (ints l):=by
 rcases o with⟨rfl,h2⟩ | ⟨k,h1,h2,h3⟩
 ·have:l=[]:=by
   cases l with
   | nil=>rfl
   | cons a l=>simp[zae]at h2
  rw[this];rfl
 ·exact zcc (es:=l.map fun n=>[ti n]) (.inr ⟨k,h1,h2,h3⟩:zaF h x v 1 (zae l)) (zbP _)
theorem zB1.keep {h h':Nat->Option O} {x:Nat} {v:V} {rows:List (List V)} (o:zB1 h x v rows) (hk: ∀j,j<x->h' j=h j):zB1 h' x v rows:=by
 rcases o with o | ⟨k,h1,h2,h3⟩
 ·exact .inl o
 ·exact .inr ⟨k,h1,h2,by rw[hk k h2];exact h3⟩
theorem zB1.le {h:Nat->Option O} {x y:Nat} {v:V} {rows:List (List V)} (o:zB1 h x v rows) (BW:x<=y):zB1 h y v rows:=by
 rcases o with o | ⟨k,h1,h2,h3⟩
 ·exact .inl o
 ·exact .inr ⟨k,h1,by omega,h3⟩
theorem zIr (l ws:List Int) (s:V) (SE:Rg.valOf s=some s) (Iv:V.cells s=some [s]) (h1:l.length<2^40) (h2:ws.length<2^40) (h0:Nat->Option O) (x0:Nat):
 ∃r h' x',DenR Γ G 530 [.t (ints l),.t (ints ws),s] h0 x0=some (r,h',x')/\ ∃a b,r= .agg [a,b,s]/\zB1 h' x' a (zae l)/\zB1 h' x' b (zae ws)/\(∀j,j<x0->zbg a j/\zbg b j)/\(∀j,j<x0->h' j=h0 j)/\x0<=x'/\
  (Rg.valOf a=some a/\V.cells a=some [a])/\(Rg.valOf b=some b/\V.cells b=some [b]):=by
 (refine zay Γ530 rfl ?_;dsimp only[zLq])
 simp -dsimp -implicitDefEqProofs only[go_sem,seval,SE];refine zni h1 ?_;rintro v hp hO hf Bn ⟨hv,hc⟩;simp -dsimp -implicitDefEqProofs only[go_sem,seval,hv,hc,SE];refine zni h2 ?_;rintro v2 D0 Cz Cv Jp ⟨DT,CG⟩;unfold V.cells at hc CG Iv;simp -dsimp -implicitDefEqProofs only[go_sem,seval,hv,hc,DT,CG,SE,Iv];have o1:=hO.keep (h':=At (At h0 hp) D0) fun j hj=>Cv j (by omega)
 refine⟨v,v2,rfl,o1.le (by simp -dsimp -implicitDefEqProofs only[go_sem,seval];omega),Cz.le (by simp -dsimp -implicitDefEqProofs only[go_sem,seval];omega),fun j hj=>⟨Bn j (by omega),Jp j (by omega)⟩,fun j hj=> ?_,by simp -dsimp -implicitDefEqProofs only[go_sem,seval];omega,⟨hv,hc⟩,⟨DT,CG⟩⟩;rw[Cv j (by omega),hf j (by omega)]
theorem zII (p:Prog) (l s:List Int) (S:Shp l (wsM p l)) (n:Nat) (hn:n<2^40) (base:List Int) (hb:base.length=32):
 Den Γ G 531 [zGs l (wsM p l) s,vi n,.t (ints base)]=some (.t (ints (stM p l n base))):=by
 have a1:=zGA l (wsM p l) s S.inc S.len S.shp S.w S.sum.2;have FZ:l.length<=32:=S.len;unfold zGs at a1⊢
 (refine zag Γ531 rfl ?_;dsimp only[zLp])
 simp -dsimp -implicitDefEqProofs only[go_sem,seval];refine zni (by omega) ?_;rintro v hp hO hf Bn ⟨hv,hc⟩;rcases hO with⟨_,h0⟩ | ⟨k,rfl,ND,hk⟩
 ·have:=congrArg List.length h0;rw[zab,hb]at this;cases this
 rw[zab,hb]at hv⊢
 have Ad: ∀i c,l[i]? =some c->0<=c/\c<32/\1<=wOf p c/\wOf p c<=8:=fun i c hc=>by
  have h1:=S.shp;simp only[zG1,zF,zN,decide_eq_true_eq]at h1;have h2:=h1.2 (c,(wOf p c:Int)) (zL (i:=i) (by rw[List.getElem?_zip_eq_some];exact⟨hc,by rw[wsM,zJ,hc];rfl⟩));simp only at h2;omega
 simp -dsimp -implicitDefEqProofs only[go_sem,seval,hv,a1];refine zaq 70368743130882 l.length (fun i f h x=>(f 20).v=vi i/\(f 1).v=vi ((n:Int)/ 2^zcD p (l.take i))/\h k=some (.rows 1 (zae (stM p (l.take i) n base)) false)/\k<x) rfl ⟨by simp -dsimp -implicitDefEqProofs only[go_sem,seval],by simp -dsimp -implicitDefEqProofs only[go_sem,seval];simp[zcD],by simp -dsimp -implicitDefEqProofs only[go_sem,seval];exact hk,by simp -dsimp -implicitDefEqProofs only[go_sem,seval];omega⟩ ?_;rintro i f u h x bb hi ⟨g20,g1,hh,hx⟩;have hw:=zan i (by omega)
 by_cases AV:i<l.length
 ·have DB:=eq_true AV;obtain⟨c,hc,_⟩:=zai AV;obtain⟨c0,c1,w0,w1⟩:=Ad i c hc;have FQ:(wsM p l)[i]? =some (wOf p c:Int):=by rw[wsM,zJ,hc];rfl
  have b1:=eq_true c1;have Nt:=zcn (wOf p c);have RF:(2:Int)^wOf p c<=2^8:=by exact_mod_cast Nat.pow_le_pow_right (n:=2) (by omega) w1
  have KN:0<=(n:Int)/ 2^zcD p (l.take i):=Int.ediv_nonneg (by omega) (Int.le_of_lt (zcn _));have Iz:(n:Int)/ 2^zcD p (l.take i)<=n:=Int.ediv_le_self _ (by omega);have s0:((wOf p c:Int)<0)=False:=eq_false (by omega)
  have s1:IntKind.i64.wrap (1*2^min (wOf p c) 64)=2^wOf p c:=by
   rw[Nat.min_eq_left (by omega),Int.one_mul];exact zaH (by omega)
  have s2:IntKind.i64.wrap (2^wOf p c-1)=2^wOf p c-1:=zaH (by omega);have s3:=ziA ((n:Int)/ 2^zcD p (l.take i)) (wOf p c:Int) (by omega);rw[Int.toNat_natCast]at s3
  have s4:((n:Int)/ 2^zcD p (l.take i)).fdiv (2^min (wOf p c) 64)=(n:Int)/ 2^zcD p (l.take i)/ 2^wOf p c:=by
   rw[Nat.min_eq_left (by omega),Int.fdiv_eq_ediv_of_nonneg _ (Int.le_of_lt Nt)]
  have BA:c.toNat<(stM p (l.take i) n base).length:=by rw[zlf];omega
  have B5:=zud BA;simp -dsimp -implicitDefEqProofs only[go_sem,seval,g20,g1,DB,hc,FQ,b1,hh,c0,s0,s1,s2,s3,s4,B5,zuc];refine⟨AV,by simp -dsimp -implicitDefEqProofs only[go_sem,seval,hw],?_,?_,by simp -dsimp -implicitDefEqProofs only[go_sem,seval];omega⟩
  ·simp -dsimp -implicitDefEqProofs only[go_sem,seval,zaf hc,zhF,Int.pow_add];rw[Int.ediv_ediv_of_nonneg (Int.le_of_lt (zcn _))]
  ·simp -dsimp -implicitDefEqProofs only[go_sem,seval,zaf hc,zoQ]
 ·have DB:=eq_false AV;have:i=l.length:=by omega
  subst this;rw[List.take_length]at hh;simp -dsimp -implicitDefEqProofs only[go_sem,seval,g20,DB];have Ac:(zae (stM p l n base)).length=32:=by rw[zab,zlf,hb]
  simp only[hh];rw[if_pos (by omega),zD,List.take_of_length_le (by omega),zHD];rfl
def wsC (cells:List Cell) (l:List Int):List Int:=l.map fun c=>(cells.getD c.toNat ⟨bs [],0,0,0,false,0⟩).w
theorem zHP (cells:List Cell) (l:List Int) (hR:l.Pairwise (· < ·)) (hl:l.length<2^20) (Mv: ∀c∈l,0<=c/\c<cells.length):
 Den Γ G 528 [.t (.sl (cells.map Cell.enc)),.t (ints l)]=some (.tup [.t (ints (wsC cells l)),vb (zG1 l (wsC cells l))]):=by
 have a1:=zG6 l hR hl;have a2:=zHn l (wsC cells l) hR hl;have Bb:(cells.map Cell.enc).length=cells.length:=by simp
 (refine zag Γ528 rfl ?_;dsimp only[zLs])
 simp -dsimp -implicitDefEqProofs only[go_sem,seval,a1];refine zaq 34359722352 l.length (fun i f h x=>(f 14).v=vi i/\zaF h x (f 6).v 1 (zae (wsC cells (l.take i)))) rfl ⟨by simp -dsimp -implicitDefEqProofs only[go_sem,seval],.inl ⟨by simp -dsimp -implicitDefEqProofs only[go_sem,seval],rfl⟩⟩ ?_;rintro i f u h x bb hi ⟨g14,hO⟩;have hw:=zan i (by omega)
 by_cases AV:i<l.length
 ·have DB:=eq_true AV;obtain⟨c,hc,BI⟩:=zai AV;obtain⟨c0,c1⟩:=Mv c BI;obtain⟨y,hy,_⟩:=zai (show c.toNat<cells.length by omega);have b0:(c<0)=False:=eq_false (by omega);have b1:(c>=(cells.length:Int))=False:=eq_false (by omega)
  have hs:wsC cells (l.take (i+1))=wsC cells (l.take i)++[y.w]:=by
   rw[zaf hc,wsC,List.map_append];simp only[List.map_cons,List.map_nil,zK,hy,Option.getD_some];rfl
  have v1:=hO.valOf;have v2:=hO.r2;have v3:=hO.r3;have v4:=hO.r4;have v5:=hO.r5;simp -dsimp -implicitDefEqProofs only[go_sem,seval,g14,DB,hc,b0,b1,c0,hy,Bb,v1,v2,v3,v4,v5];refine zav (hO.upd (by omega) _) (by omega) (by rw[zab,wsC,List.length_map,List.length_take];omega) (by decide) rfl (zaQ _) ?_;intro v hp hP Bp Aq;have y1:=hP.valOf;simp -dsimp -implicitDefEqProofs only[go_sem,seval,y1,g14];refine⟨AV,by simp -dsimp -implicitDefEqProofs only[go_sem,seval,hw],?_⟩;simp -dsimp -implicitDefEqProofs only[go_sem,seval];rw[hs,za4];exact hP.le (by omega)
 ·have DB:=eq_false AV;have:i=l.length:=by omega
  subst this;rw[List.take_length]at hO;have v1:=hO.valOf;have Bh:=hO.reify (zbP _);have v5:=hO.resVal;simp only[Rg.resVal]at v5;have ht:toT h 1000 (f 6).v=some (ints (wsC cells l)):=zcc (es:=(wsC cells l).map fun n=>[ti n]) hO (zbP _);rcases hO with⟨e6,er⟩ | ⟨k,e6,hk,hh⟩
  ·have e0:wsC cells l=[]:=by
    cases hq:wsC cells l with
    | nil=>rfl
    | cons a r=>rw[hq]at er;simp[zae]at er
   rw[e0]at a2⊢;have a3:Den Γ G 576 [.t (ints l),.t (.sl [])]=some (vb (zG1 l [])):=a2;simp -dsimp -implicitDefEqProofs only[go_sem,seval,g14,DB,e6,a3]
   try rfl
  ·rw[e6]at Bh ht;have tb:((zae (wsC cells l)).length<=(zae (wsC cells l)).length)=True:=eq_true (Nat.le_refl _);have tk:List.take (zae (wsC cells l)).length (zae (wsC cells l))=zae (wsC cells l):=List.take_length;have tt:=zHD h 999 (wsC cells l);have a3:Den Γ G 576 [.t (ints l),.t (.sl ((wsC cells l).map fun n=>[ti n]))]=some (vb (zG1 l (wsC cells l))):=a2;simp -dsimp -implicitDefEqProofs only[go_sem,seval,g14,DB,e6,hh,tb,tk,tt,a3]
def cmb (φ:Nat->Nat->Nat) (a b:List Nat):Nat->List Nat
 | 0=>a
 | i+1=>(cmb φ a b i).set i (φ (a.getD i 0) (b.getD i 0))
theorem zGS (φ:Nat->Nat->Nat) (a b:List Nat): ∀i,(cmb φ a b i).length=a.length
 | 0=>rfl
 | i+1=>by rw[cmb,List.length_set,zGS φ a b i]
theorem zHN (φ:Nat->Nat->Nat) (a b:List Nat): ∀i j,j<a.length->(cmb φ a b i)[j]? =some (if j<i then φ (a.getD j 0) (b.getD j 0)else a.getD j 0)
 | 0,j,h=>by simp[cmb,zK,zI h]
 | i+1,j,h=>by
   rw[cmb,List.getElem?_set,zGS]
   by_cases q:i=j
   ·subst q;rw[if_pos rfl,if_pos h,if_pos (by omega)]
   ·rw[if_neg q,zHN φ a b i j h]
    by_cases q2:j<i
    ·rw[if_pos q2,if_pos (by omega)]
    ·rw[if_neg q2,if_neg (by omega)]
theorem zJb (a b:Nat) (ha:a<2^64) (hb:b<2^64):Den Γ G 551 [vw a,vw b]=some (vw (a&&& (2^64-1-b))):=by
 have e:=zLK ha hb
 (refine zag Γ551 rfl ?_;dsimp only[zLj])
 simp -dsimp -implicitDefEqProofs only[go_sem,seval,e]
theorem zux (a b:Nat) (ha:a<2^64) (hb:b<2^64):Den Γ G 559 [vw a,vw b]=some (vw (a&&& b)):=by
 have e:=zJE ha hb
 (refine zag Γ559 rfl ?_;dsimp only[zLb])
 simp -dsimp -implicitDefEqProofs only[go_sem,seval,e]
set_option maxRecDepth 100000
set_option maxHeartbeats 4000000 in
theorem zHb {l ws:List Int} (S:Shp l ws) {s t:List Nat} (Es:Elems ws s) (Et:Elems ws t) (g:Nat) (φ:Nat->Nat->Nat)
 (hφ: ∀a b,a<2^64->b<2^64->φ a b<2^64/\Den Γ G g [vw a,vw b]=some (vw (φ a b))):
 Den Γ G 550 [zGs l ws (nI s),zGs l ws (nI t),.t (.fn g [] [])]=some (.tup [zGs l ws (zGw (cmb φ (zGX s) (zGX t) 64) 64),vi 0]):=by
 have v1:=zGz S Es;have v2:=zGz S Et;have q1:=zJq l (by have:=S.len;omega);have q2:=zJq ws (by have:=S.len;have:=S.wl;omega);have m1:=zHX s (Es.lt4 S) (Es.len S);have m2:=zHX t (Et.lt4 S) (Et.len S);have B1:=zGJ (Es.lt4 S);have B2:=zGJ (Et.lt4 S);have l1:(bmV (zGX s)).length=64:=by simp[bmV,B1.len]
 have l2:(bmV (zGX t)).length=64:=by simp[bmV,B2.len]
 generalize zGX s=a at *
 generalize zGX t=b at *
 have b64:(64<=64)=True:=eq_true (by omega);unfold zGs at v1 v2⊢
 (refine zag Γ550 rfl ?_;dsimp only[zLk])
 simp -dsimp -implicitDefEqProofs only[go_sem,seval,v1,v2,q1,q2,m1,m2,l1,l2,b64];refine zaq 72053195991417856 64 (fun i f h x=>(f 42).v=vi i/\h 34=some (.rows 64 [bmV (cmb φ a b i)] false)/\35<=x) rfl ⟨by simp -dsimp -implicitDefEqProofs only[go_sem,seval],by simp -dsimp -implicitDefEqProofs only[go_sem,seval];rfl,by simp -dsimp -implicitDefEqProofs only[go_sem,seval]⟩ ?_;rintro i f u h x bb hi ⟨g42,SX,hx⟩;have hw:=zan i (by omega);have By:(bmV (cmb φ a b i)).length=64:=by simp[bmV,zGS,B1.len]
 by_cases AV:i<64
 ·have DB:((i:Int)<64)=True:=eq_true (by omega);have Pj:i<a.length:=by rw[B1.len];exact AV
  obtain⟨wa,ha,Cp⟩:=zai Pj;obtain⟨wb,hb,EW⟩:=zai (show i<b.length by rw[B2.len];exact AV);obtain⟨f1,f2⟩:=hφ wa wb (B1.lt wa Cp) (B2.lt wb EW)
  have Id:(cmb φ a b i)[i]? =some wa:=by
   rw[zHN φ a b i i Pj,if_neg (by omega),zK,ha,Option.getD_some]
  have r1:List.take 1 (List.drop (i*1) (bmV (cmb φ a b i)))=[vw wa]:=by
   rw[Nat.mul_one,zdo (l:=bmV (cmb φ a b i)) (x:=vw wa) (by rw[bmV,zJ,Id];rfl)];rfl
  have r2:List.take 1 (List.drop (i*1) (bmV b))=[vw wb]:=by
   rw[Nat.mul_one,zdo (l:=bmV b) (x:=vw wb) (by rw[bmV,zJ,hb];rfl)];rfl
  have c1:(i*1+1<=64)=True:=eq_true (by omega)
  have r3:List.take (i*1) (bmV (cmb φ a b i))++[vw (φ wa wb)]++List.drop (i*1+1) (bmV (cmb φ a b i))=bmV (cmb φ a b (i+1)):=by
   have:i<(cmb φ a b i).length:=by rw[zGS];exact Pj
   rw[Nat.mul_one,bmV,cmb,zK,ha,zK,hb,Option.getD_some,Option.getD_some,bmV,List.map_set,List.set_eq_take_append_cons_drop,if_pos (by simpa using this)];simp
  simp -dsimp -implicitDefEqProofs only[go_sem,seval,g42,DB,SX,By,l2,c1,r1,r2,r3,f2];refine⟨AV,by simp -dsimp -implicitDefEqProofs only[go_sem,seval,hw],?_,by simp -dsimp -implicitDefEqProofs only[go_sem,seval];omega⟩;simp -dsimp -implicitDefEqProofs only[go_sem,seval]
 ·have DB:((i:Int)<64)=False:=eq_false (by omega);have:i=64:=by omega
  subst this
  have Bc:Bm (cmb φ a b 64):=⟨by rw[zGS,B1.len],fun w hw=>by
   obtain⟨j,hj,rfl⟩:=List.getElem_of_mem hw;have S3:j<a.length:=by rw[zGS]at hj;exact hj
   have h1:=zHN φ a b 64 j S3;rw[if_pos (by rw[B1.len]at S3;exact S3),zI hj,zA]at h1;rw[h1];obtain⟨wa,ha,Cp⟩:=zai S3;obtain⟨wb,hb,EW⟩:=zai (show j<b.length by rw[B2.len,<- B1.len];exact S3);rw[zK,zK,ha,hb]
   exact(hφ wa wb (B1.lt wa Cp) (B2.lt wb EW)).1⟩
  simp -dsimp -implicitDefEqProofs only[go_sem,seval,g42,DB];refine zas (zHZ _ Bc SX (by omega)) ?_;rintro r h' n' ⟨hO,Bn,A8,KA⟩;have y1:=hO.valOf;have y2:=hO.cells;simp -dsimp -implicitDefEqProofs only[go_sem,seval,y1];refine zas (zIr l ws r y1 y2 (by have:=S.len;omega) (by have:=S.len;have:=S.wl;omega) _ _) ?_;rintro r2 h2 n2 ⟨a2,b2,rfl,oa,ob,off,keep,ML,⟨va,ca⟩,⟨vb2,cb2⟩⟩;have t1:=zGW oa;have t2:=zGW ob;have Cz:=hO.keep ML fun k hk _=>keep k (by omega)
  have t3:toT h2 1000 r=some (ints (zGw (cmb φ a b 64) 64)):=zcc (es:=(zGw (cmb φ a b 64) 64).map fun n=>[ti n]) Cz (zbP _);simp -dsimp -implicitDefEqProofs only[go_sem,seval,va,vb2,y1];rw[t1,t2,t3];rfl
end Rg
end
section
namespace Rg
open Go
theorem zHT {L:List Nat} (h:L.Pairwise (· < ·)) {N:Nat} (hN: ∀n∈L,n<N) {p:Nat->Bool} (hp: ∀n,n<N->(p n=true<->n∈L)):(List.range N).filter p=L:=by
 have h1:((List.range N).filter p).Pairwise (· < ·):=List.Pairwise.filter _ List.pairwise_lt_range;refine List.Perm.eq_of_pairwise (le:=(· < ·)) (fun a b _ _ h1 h2=>by omega) h1 h ((List.perm_ext_iff_of_nodup (h1.imp fun h=>by omega) (h.imp fun h=>by omega)).2 fun a=> ?_);simp only[List.mem_filter,List.mem_range];exact⟨fun⟨h1,h2⟩=>(hp a h1).1 h2,fun h=>⟨hN a h,(hp a (hN a h)).2 h⟩⟩
theorem zIv {L:List Nat} (h:L.Pairwise (· < ·)) (hN: ∀n∈L,n<4096) {ws:List Nat} (hw: ∀n,n<4096->(zHH ws n=true<->n∈L)):zGw ws 64=nI L:=by
 rw[zG5,zHT (N:=64*64) h (fun n hn=>hN n hn) (fun n hn=>hw n hn)]
theorem zJf {L:List Nat} (h:L.Pairwise (· < ·)) (hN: ∀n∈L,n<4096):zGw (zGX L) 64=nI L:=
 zIv h hN fun n _=>by rw[zHF hN,List.contains_iff_mem]
def zJW (h h':Nat->Option O):Prop:= ∀j sz rs fz,h j=some (.rows sz rs fz)-> ∃fz',h' j=some (.rows sz rs fz')
theorem zJm {L:List (Nat×O)}: ∀{h:Nat->Option O} {k:Nat},(∀x∈L,x.1≠k)->At h L k=h k:=by
 induction L with
 | nil=>intro h k _;rw[zaA]
 | cons x L ih=>
   intro h k hx;rw[show x=(x.1,x.2)from rfl,zaC,ih fun y hy=>hx y (List.mem_cons_of_mem _ hy),zaa,if_neg (fun e=>hx x List.mem_cons_self e.symm)]
theorem zKq {k:Nat} {o:O}: ∀{L:List (Nat×O)} {h:Nat->Option O},(∀x∈L,x.1=k->x.2=o)->At h L k=h k\/At h L k=some o:=by
 intro L
 induction L with
 | nil=>intro h _;rw[zaA];exact .inl rfl
 | cons x L ih=>
   intro h hx;rw[show x=(x.1,x.2)from rfl,zaC];rcases ih (h:=updC h x.1 (some x.2)) (fun y hy=>hx y (List.mem_cons_of_mem _ hy))with h1 | h1
   ·rw[h1,zaa];split
    ·rename_i he;rw[hx x List.mem_cons_self he.symm];exact .inr rfl
    ·exact .inl rfl
   ·exact .inr h1
theorem zKQ (h:Nat->Option O) (L:List Nat):zJW h (At h (freezes h L)):=by
 intro k sz rs f hk
 have:=zKq (k:=k) (o:=.rows sz rs true) (L:=freezes h L) (h:=h) (by
  intro x hx he;simp only[freezes,List.mem_filterMap]at hx;obtain⟨j,_,hj⟩:=hx;split at hj
  ·rename_i sz' rs' f' hq;cases hj;simp only at he;subst he;rw[hk]at hq;cases hq;rfl
  ·cases hj)
 rcases this with h1 | h1
 ·exact⟨f,h1.trans hk⟩
 ·exact⟨true,h1⟩
theorem zGr {r:V} {h:Nat->Option O} {vs:List V} {K:V->(Nat->Option O)->Prop} {w:WK K} (P:Nat->Prop) (hr: ∀j∈vs.flatMap (zba h),P j)
 (hK: ∀h',(∀j,¬P j->h' j=h j)->zJW h h'->K r h'):zlN (some r) false h vs K w:=by
 unfold zlN;simp only;split
 ·exact hK h (fun _ _=>rfl) fun j sz rs fz hj=>⟨fz,hj⟩
 ·refine⟨fun h=>Bool.noConfusion h,hK _ (fun j hj=>zJm fun x hx=> ?_) (zKQ h _)⟩;simp only[freezes,List.mem_filterMap]at hx;obtain⟨q,hq,hx⟩:=hx;split at hx
  ·cases hx;rintro rfl;exact hj (hr _ hq)
  ·cases hx
def LsF (h:Nat->Option O) (P:Nat->Prop) (v:V) (l:List Int):Prop:=
 (v= .t (.sl [])/\l=[])\/ ∃k f,v= .ms k 0 l.length/\P k/\h k=some (.rows 1 (zae l) f)
theorem LsF.mono {h h':Nat->Option O} {P:Nat->Prop} {v:V} {l:List Int} (o:LsF h P v l) (hh:zJW h h'):LsF h' P v l:=by
 rcases o with o | ⟨k,f,h1,h2,h3⟩
 ·exact .inl o
 ·obtain⟨f',h4⟩:=hh k _ _ _ h3;exact .inr ⟨k,f',h1,h2,h4⟩
theorem LsF.keep {h h':Nat->Option O} {P:Nat->Prop} {v:V} {l:List Int} (o:LsF h P v l) (hh: ∀j,P j->h' j=h j):LsF h' P v l:=by
 rcases o with o | ⟨k,f,h1,h2,h3⟩
 ·exact .inl o
 ·exact .inr ⟨k,f,h1,h2,by rw[hh k h2];exact h3⟩
theorem LsF.val {h:Nat->Option O} {P:Nat->Prop} {v:V} {l:List Int} (o:LsF h P v l):Rg.valOf v=some v/\V.cells v=some [v]:=by
 rcases o with⟨rfl,_⟩ | ⟨k,f,rfl,_,_⟩<;>exact⟨rfl,rfl⟩
theorem LsF.toT {h:Nat->Option O} {P:Nat->Prop} {v:V} {l:List Int} (o:LsF h P v l):Rg.toT h 1000 v=some (ints l):=by
 rcases o with⟨rfl,rfl⟩ | ⟨k,f,rfl,_,hk⟩
 ·rfl
 ·simp only[Rg.toT,hk,rd];rw[if_pos (by rw[zab];omega),zC,zD,List.drop_zero,List.take_of_length_le (by rw[zab];omega)];have:=zHD h 999 l;rw[this];rfl
theorem zIM (l:List Int): ∀r∈zae l,∀v∈r,V.tree v=true:=by
 intro r hr v hv;obtain⟨b,hb,rfl⟩:=List.mem_map.1 hr;obtain⟨n,_,rfl⟩:=List.mem_map.1 hb;simp at hv;subst hv;rfl
theorem LsF.reach {h:Nat->Option O} {P:Nat->Prop} {v:V} {l:List Int} (o:LsF h P v l): ∀j∈Rg.reach h 1000 v,P j:=by
 rcases o with⟨rfl,rfl⟩ | ⟨k,f,rfl,hp,hk⟩
 ·intro j hj;simp[Rg.reach]at hj
 ·intro j hj;have:=zo6 (i:=0) (n:=l.length) hk (zIM l);simp only[List.flatMap_cons,List.flatMap_nil,List.append_nil,zba]at this;rw[this,List.mem_singleton]at hj;subst hj;exact hp
theorem zB1.lsF {h:Nat->Option O} {x:Nat} {v:V} {l:List Int} {P:Nat->Prop} (o:zB1 h x v (zae l)) (hP: ∀k,k<x-> ¬zbg v k->P k):LsF h P v l:=by
 rcases o with⟨h1,h2⟩ | ⟨k,h1,h2,h3⟩
 ·refine .inl ⟨h1,?_⟩;have:=congrArg List.length h2;rw[zab]at this;exact List.eq_nil_of_length_eq_zero this
 ·rw[zab]at h1;exact .inr ⟨k,false,h1,hP k h2 (fun ho=>ho _ _ h1),h3⟩
def pC (cells:List Cell):Prog:=⟨cells,[],[],[]⟩
def zGl:List Int:=List.replicate 32 0
def prL (cells:List Cell) (l:List Int) (e:Expr) (n:Nat):Bool:=decide (e.eval (stM (pC cells) l (n:Int) zGl) (stM (pC cells) l (n:Int) zGl)=1)
def ofR (cells:List Cell) (l:List Int) (e:Expr):V:=
 if zG1 l (wsC cells l)=false then .tup [zGs [] [] [],vi 1]else
 if zGv (wsC cells l)>12 then .tup [zGs [] [] [],vi 2]else
 if(e.valid cells false&&decide (e.w=1))=false then .tup [zGs [] [] [],vi 60]else
 .tup [zGs l (wsC cells l) (nI (inL (pC cells) l zGl e)),vi 0]
theorem zGZ {cells:List Cell} {l:List Int} (Mv: ∀c∈l,0<=c/\c<cells.length) (h:zG1 l (wsC cells l)=true):wsC cells l=wsM (pC cells) l:=by
 simp only[zG1,zF,zN,decide_eq_true_eq]at h;refine List.map_congr_left fun c hc=> ?_
 obtain⟨i,hi,rfl⟩:=List.getElem_of_mem hc;obtain⟨h0,h1⟩:=Mv _ (List.getElem_mem hi);have h2:=h.2 (l[i],(cells.getD l[i].toNat ⟨bs [],0,0,0,false,0⟩).w) (zL (i:=i) (by rw[List.getElem?_zip_eq_some];exact⟨zI hi,by rw[wsC,zJ,zI hi];rfl⟩));simp only at h2;obtain⟨y,hy,_⟩:=zai (show l[i].toNat<cells.length by omega);rw[zK,hy,Option.getD_some]at h2⊢;have:wOf (pC cells) l[i]=y.w.toNat:=by rw[wOf];show(match cells[l[i].toNat]? with | some x=>x.w.toNat | none=>0)=_;rw[hy]
 rw[this];omega
theorem zJY {cells:List Cell} {l:List Int} (hR:l.Pairwise (· < ·)) (Mv: ∀c∈l,0<=c/\c<cells.length) (h:zG1 l (wsC cells l)=true) (hs:zGv (wsC cells l)<=12):Shp l (wsM (pC cells) l):=by
 have e:=zGZ Mv h;rw[<- e];have h':=h;simp only[zG1,zF,zN,decide_eq_true_eq]at h'
 have hc: ∀c∈l,0<=c/\c<32:=fun c hc=>by
  obtain⟨i,hi,rfl⟩:=List.getElem_of_mem hc;have h2:=h'.2 (l[i],(cells.getD l[i].toNat ⟨bs [],0,0,0,false,0⟩).w) (zL (i:=i) (by rw[List.getElem?_zip_eq_some];exact⟨zI hi,by rw[wsC,zJ,zI hi];rfl⟩));simp only at h2;omega
 have hw: ∀n∈wsC cells l,0<=n/\n<=8:=fun n hn=>by
  obtain⟨i,hi,rfl⟩:=List.getElem_of_mem hn;have AV:i<l.length:=by simpa[wsC]using hi
  have h2:=h'.2 (l[i],(wsC cells l)[i]) (zL (i:=i) (by rw[List.getElem?_zip_eq_some];exact⟨zI AV,zI hi⟩));simp only at h2;omega
 refine⟨hR,?_,h,hw,?_,hs⟩
 ·exact zgX 32 l (hR.imp fun h=>by omega) fun k hk=>by have:=hc k hk;omega
 ·rw[e,zHm];omega
theorem zH0 {cells:List Cell} {l:List Int} {e:Expr} (S:Shp l (wsM (pC cells) l)):Elems (wsM (pC cells) l) (inL (pC cells) l zGl e):=by
 refine⟨List.Pairwise.filter _ List.pairwise_lt_range,fun n hn=> ?_⟩;have:=(zG7.1 hn).1;rw[zHm,Int.toNat_natCast];exact this
theorem zIt (cells:List Cell) (l:List Int) (e:Expr) (hR:l.Pairwise (· < ·)) (hl:l.length<2^20) (Mv: ∀c∈l,0<=c/\c<cells.length) (hs:e.valid cells false=true-> ∀c∈e.sup 2,c∈l):
 Den Γ G 509 [.t (.sl (cells.map Cell.enc)),.t (ints l),(.agg [.t (ti (e).op),.t (ti (e).w),.t (ti (e).n),.t (.sl ((e).kids.map (Expr.enc)))])]=some (ofR cells l e):=by
 have a1:=zHP cells l hR hl Mv;have a2:=zfS e cells false
 (refine zag Γ509 rfl ?_;dsimp only[zLB])
 unfold ofR
 by_cases b1:zG1 l (wsC cells l)=true
 rotate_left
 ·have b1':zG1 l (wsC cells l)=false:=by simpa using b1
  rw[b1']at a1;rw[if_pos b1'];simp -dsimp -implicitDefEqProofs only[go_sem,seval,a1];rfl
 rw[b1]at a1;rw[if_neg (by rw[b1];simp)]
 have Fy: ∀n∈wsC cells l,0<=n/\n<=8:=fun n hn=>by
  have h':=b1;simp only[zG1,zF,zN,decide_eq_true_eq]at h';obtain⟨i,hi,rfl⟩:=List.getElem_of_mem hn;have AV:i<l.length:=by simpa[wsC]using hi
  have h2:=h'.2 (l[i],(wsC cells l)[i]) (zL (i:=i) (by rw[List.getElem?_zip_eq_some];exact⟨zI AV,zI hi⟩));simp only at h2;omega
 have a3:=zHB (wsC cells l) Fy (by simp[wsC];omega);have IY:zGv (wsC cells l)=(zcD (pC cells) l:Int):=by rw[zGZ Mv b1,zHm]
 rw[IY]at a3⊢
 by_cases b2:(zcD (pC cells) l:Int)>12
 ·have b2':=eq_true b2;rw[if_pos b2];simp -dsimp -implicitDefEqProofs only[go_sem,seval,a1,a3,b2'];rfl
 have b2':=eq_false b2;rw[if_neg b2];have S:=zJY hR Mv b1 (by rw[IY];omega)
 cases b3:e.valid cells false with
 | false=>
   rw[b3]at a2;rw[if_pos (by simp)];simp -dsimp -implicitDefEqProofs only[go_sem,seval,a1,a3,b2',a2]
   rfl
 | true=>
 rw[b3]at a2
 by_cases b4:e.w=1
 rotate_left
 ·have b4':=eq_false b4;rw[if_pos (by simp[b4])];simp -dsimp -implicitDefEqProofs only[go_sem,seval,a1,a3,b2',a2,b4'];rfl
 have b4':=eq_true b4;rw[if_neg (by simp[b4])];simp -dsimp -implicitDefEqProofs only[go_sem,seval,a1,a3,b2',a2,b4'];refine zas (zfo e _ _) ?_;rintro r h' n' ⟨v3,v2,rfl,o3,o2,hn,hk⟩;have y1:=o2.valOf;have y2:=o2.lenS;have y3:=o3.valOf;have y4:(zae (e.sup 2)).length=(e.sup 2).length:=zab _;rw[y4]at y2;simp -dsimp -implicitDefEqProofs only[go_sem,seval,y1,y2,y3];refine zaq 575897802350010560 (e.sup 2).length (fun i f h x=>(f 49).v=vi i/\h=h'/\n'<=x/\(f 6).v= .lb/\(f 6).box=some [.t .nils,.t .nils,.t .nils]) rfl ⟨by simp -dsimp -implicitDefEqProofs only[go_sem,seval],rfl,by simp -dsimp -implicitDefEqProofs only[go_sem,seval];omega,by simp -dsimp -implicitDefEqProofs only[go_sem,seval],by simp -dsimp -implicitDefEqProofs only[go_sem,seval]⟩ ?_;rintro i f u h x bb hi ⟨g49,rfl,hx,g6,g6b⟩
 have hw:=zan i (by
  have:=zfp 2 e;omega)
 by_cases AV:i<(e.sup 2).length
 ·have DB:=eq_true AV;obtain⟨c,hc,BI⟩:=zai AV;have Ez:=zff l (e.sup 2)[i] (by omega);rw[show l.contains (e.sup 2)[i]=true from List.contains_iff_mem.2 (hs b3 _ (List.getElem_mem AV))]at Ez;rcases o2 with⟨rfl,e0⟩ | ⟨k2,rfl,AF,Cl⟩
  ·have:=congrArg List.length e0;rw[y4,List.length_nil]at this;omega
  ·rw[y4]at *;have B5:=zud AV;simp -dsimp -implicitDefEqProofs only[go_sem,seval,g49,DB,Cl,B5,hc,Ez];exact⟨AV,by simp -dsimp -implicitDefEqProofs only[go_sem,seval,hw],rfl,by simp -dsimp -implicitDefEqProofs only[go_sem,seval];omega,by simp -dsimp -implicitDefEqProofs only[go_sem,seval,g6],by simp -dsimp -implicitDefEqProofs only[go_sem,seval,g6b]⟩
 have DB:=eq_false AV;simp -dsimp -implicitDefEqProofs only[go_sem,seval,g49,DB];refine zas (zIr l (wsC cells l) (.t .nils) rfl rfl (by omega) (by simp[wsC];omega) _ _) ?_;rintro r2 h2 n2 ⟨va,vb2,rfl,oa,ob,off,keep,ML,⟨z1,z2⟩,⟨z3,z4⟩⟩;unfold V.cells at z2 z4;have hB:zcD (pC cells) l<=12:=by omega
 have s0:((zcD (pC cells) l:Int)<0)=False:=eq_false (by omega);have SK:(2:Nat)^zcD (pC cells) l<=2^12:=Nat.pow_le_pow_right (by omega) (by omega)
 have s1:IntKind.i64.wrap (1*2^min (zcD (pC cells) l) 64)=((2^zcD (pC cells) l:Nat):Int):=by
  have h4:(1*2^min (zcD (pC cells) l) 64:Int)=((2^zcD (pC cells) l:Nat):Int):=by
   rw[Nat.min_eq_left (by omega)];push_cast;omega
  rw[h4]
  generalize(2:Nat)^zcD (pC cells) l=q at SK⊢
  exact zaH (by omega)
 simp -dsimp -implicitDefEqProofs only[go_sem,seval,z1,z2,z3,z4,a3,s0,s1]
 have IF: ∀i,i<=2^zcD (pC cells) l-> ∀n∈(List.range i).filter (prL cells l e),n<4096:=fun i hi n hn=>by
  have:=List.mem_range.1 (List.mem_filter.1 hn).1;omega
 refine zaq 2417777852252963511599104 (2^zcD (pC cells) l) (fun i f h x=>(f 66).v=vi i/\LsF h (· <n2) va l/\LsF h (· <n2) vb2 (wsC cells l)/\(∃fz,h (n2+0)=some (.rows 1 (zae zGl) fz))/\
  h (n2+2+0)=some (.rows 64 [bmV (zGX ((List.range i).filter (prL cells l e)))] false)/\n2+3<=x) rfl ⟨by simp -dsimp -implicitDefEqProofs only[go_sem,seval],?_,?_,⟨false,?_⟩,?_,by simp -dsimp -implicitDefEqProofs only[go_sem,seval];omega⟩ ?_
 ·exact(oa.keep fun j hj=>by rw[zaa,if_neg (by omega),zaa,if_neg (by omega)]).lsF fun k hk _=>hk
 ·exact(ob.keep fun j hj=>by rw[zaa,if_neg (by omega),zaa,if_neg (by omega)]).lsF fun k hk _=>hk
 ·rw[zaa,if_neg (by omega),zaa,if_pos rfl];rfl
 ·rw[zaa,if_pos rfl];rfl
 rintro i f u h x bb hi ⟨g66,la,lb,⟨fz,hb⟩,hm,hx⟩;have hw:=zan i (by omega)
 by_cases AV:i<2^zcD (pC cells) l
 ·have DB:(i<2^zcD (pC cells) l)=True:=eq_true AV;have t1:=la.toT;have t2:=lb.toT;have lz:LsF h (· <n2+1) (.ms (n2+0) 0 32) zGl:=.inr ⟨_,fz,rfl,by omega,hb⟩;have t3:=lz.toT;have t4:toT h 1000 zn=some (ints []):=rfl;have st:=zII (pC cells) l [] S i (by omega) zGl rfl;rw[<- zGZ Mv b1]at st;have ev:=zd4 e (stM (pC cells) l i zGl) (stM (pC cells) l i zGl);unfold zGs at st;simp -dsimp -implicitDefEqProofs only[go_sem,seval,g66,DB,z1,z3,↓t1,↓t2,↓t3,↓t4,st];refine zGr (· <n2+1) ?_ ?_
  ·intro j hj;simp only[List.flatMap_cons,List.flatMap_nil,zba,List.mem_append,List.append_nil]at hj;rcases hj with(hj | hj | hj) | hj | hj
   ·have:=la.reach j hj;omega
   ·have:=lb.reach j hj;omega
   ·simp[reach]at hj
   ·simp[reach]at hj
   ·exact lz.reach j hj
  intro h3 Sw AG;obtain⟨fz3,H9⟩:=AG _ _ _ _ hb;have Qu:h3 (n2+2+0)=some (.rows 64 [bmV (zGX ((List.range i).filter (prL cells l e)))] false):=by rw[Sw _ (by omega)];exact hm
  have la3:=la.mono AG;have lb3:=lb.mono AG
  by_cases hp:prL cells l e i=true
  ·have c1:=eq_true (of_decide_eq_true hp);simp -dsimp -implicitDefEqProofs only[go_sem,seval,ev,c1];refine zas (zIH _ (zGJ (IF i hi)) i (by omega) Qu) ?_;rintro r4 h4 n4 ⟨q1,q2,q3⟩;simp -dsimp -implicitDefEqProofs only[go_sem,seval,g66];refine⟨AV,by simp -dsimp -implicitDefEqProofs only[go_sem,seval,hw],la3.keep fun j hj=>q2 j (by omega),lb3.keep fun j hj=>q2 j (by omega),⟨fz3,?_⟩,?_,by simp -dsimp -implicitDefEqProofs only[go_sem,seval];omega⟩
   ·simp -dsimp -implicitDefEqProofs only[go_sem,seval];rw[q2 _ (by omega)];exact H9
   ·simp -dsimp -implicitDefEqProofs only[go_sem,seval]
    (try rw[List.range_succ])
    rw[List.filter_append,List.filter_cons,if_pos hp,List.filter_nil,zHY];exact q1
  ·have c1:=eq_false (of_decide_eq_false (by simpa[prL]using hp): ¬e.eval (stM (pC cells) l (i:Int) zGl) (stM (pC cells) l (i:Int) zGl)=1);simp -dsimp -implicitDefEqProofs only[go_sem,seval,ev,c1,g66];refine⟨AV,by simp -dsimp -implicitDefEqProofs only[go_sem,seval,hw],la3,lb3,⟨fz3,H9⟩,?_,by simp -dsimp -implicitDefEqProofs only[go_sem,seval];omega⟩
   (try rw[List.range_succ])
   rw[List.filter_append,List.filter_cons,if_neg hp,List.filter_nil,List.append_nil];exact Qu
 ·have DB:(i<2^zcD (pC cells) l)=False:=eq_false AV;have:i=2^zcD (pC cells) l:=by omega
  subst this;have hL:=IF _ (Nat.le_refl _);have Tm:((List.range (2^zcD (pC cells) l)).filter (prL cells l e)).Pairwise (· < ·):=List.Pairwise.filter _ List.pairwise_lt_range;simp -dsimp -implicitDefEqProofs only[go_sem,seval,g66,DB];refine zas (zHZ _ (zGJ hL) hm (by omega)) ?_;rintro r4 h4 n4 ⟨hO,Bn,A8,KA⟩;have y1:=hO.valOf;have y5:=hO.cells;unfold V.cells at y5;have la4:=la.keep fun j hj=>A8 j (by omega)
  have lb4:=lb.keep fun j hj=>A8 j (by omega)
  have t1:=la4.toT;have t2:=lb4.toT;have t3:toT h4 1000 r4=some (ints (zGw (zGX ((List.range (2^zcD (pC cells) l)).filter (prL cells l e))) 64)):=zcc (es:=(zGw (zGX ((List.range (2^zcD (pC cells) l)).filter (prL cells l e))) 64).map fun n=>[ti n]) hO (zbP _);rw[zJf Tm hL]at t3;simp -dsimp -implicitDefEqProofs only[go_sem,seval,y1,y5,z1,z2,z3,z4,g6,g6b];rw[t1,t2,t3];rfl
end Rg
end

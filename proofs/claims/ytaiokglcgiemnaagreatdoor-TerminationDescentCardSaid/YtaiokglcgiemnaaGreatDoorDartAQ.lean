/- Part of the proof of laws of relyguardlaw36. No condition. -/
import Derived.Test.YtaiokglcgiemnaaGreatDoorDartAP
set_option linter.unusedSimpArgs false
set_option linter.unusedVariables false
section
namespace Rg
open Go
theorem zwy: ∀{l m:List Int},l.Pairwise (· < ·)->m.Pairwise (· < ·)->(∀x,x∈l<->x∈m)->l=m
 | [],[],_,_,_=>rfl
 | [],y::m,_,_,h=>by have:=(h y).2 (by simp);simp at this
 | x::l,[],_,_,h=>by have:=(h x).1 (by simp);simp at this
 | x::l,y::m,h1,h2,h=>by
   obtain⟨a1,a2⟩:=List.pairwise_cons.1 h1;obtain⟨b1,b2⟩:=List.pairwise_cons.1 h2
   have J9:x=y:=by
    rcases List.mem_cons.1 ((h x).1 (by simp))with e | e
    ·exact e
    ·rcases List.mem_cons.1 ((h y).2 (by simp))with e' | e'
     ·exact e'.symm
     ·have:=b1 x e;have:=a1 y e';omega
   subst J9;rw[zwy a2 b2 fun z=>⟨fun hz=> ?_,fun hz=> ?_⟩]
   ·rcases List.mem_cons.1 ((h z).1 (by simp[hz]))with e | e
    ·have:=a1 z hz;omega
    ·exact e
   ·rcases List.mem_cons.1 ((h z).2 (by simp[hz]))with e | e
    ·have:=b1 z hz;omega
    ·exact e
def mkB (s:List Bool) (l:List Int):List Bool:=l.foldl (fun s c=>s.set c.toNat true) s
theorem zwl (s:List Bool) (l:List Int) (c:Int):mkB s (l++[c])=(mkB s l).set c.toNat true:=by simp[mkB]
theorem zv1 (s:List Bool): ∀l:List Int,(mkB s l).length=s.length:=by
 intro l
 induction l generalizing s with
 | nil=>rfl
 | cons c l ih=>rw[mkB,List.foldl_cons];have:=ih (s.set c.toNat true);rw[mkB]at this;rw[this];simp
theorem zwv {s:List Bool} {j:Nat} (hj:j<s.length): ∀{l:List Int},(mkB s l).getD j false=true<->s.getD j false=true\/ ∃c∈l,c.toNat=j:=by
 intro l
 induction l generalizing s with
 | nil=>simp[mkB]
 | cons c l ih=>
   have e:mkB s (c::l)=mkB (s.set c.toNat true) l:=rfl;rw[e,ih (s:=s.set c.toNat true) (by simpa using hj)]
   by_cases h:c.toNat=j
   ·simp[zK,List.getElem?_set,h,hj]
   ·simp[zK,List.getElem?_set,h]
def zCs:List Bool:=List.replicate 32 false
theorem zv3:zCs.length=32:=by simp[zCs]
def zA7 (A V:Expr):List Bool:=mkB (mkB zCs (A.sup 2)) (V.sup 2)
theorem zAO (l:List Bool) (i:Nat):(zxA l i).Pairwise (· < ·):=by
 unfold zxA;rw[List.pairwise_map];exact(List.pairwise_lt_range.filter _).imp fun h=>by omega
theorem zwf {p:Prog} (hf:zw6 p=true) {A V:Expr} (hA:A.valid p.cells false=true) (hV:V.valid p.cells false=true):zxA (zA7 A V) 32=zxE A V:=by
 refine zwy (zAO _ _) (zyD _) fun c=> ?_
 have Ci:=(zxV hf).1
 have key: ∀n:Nat,n<32->((zA7 A V).getD n false=true<-> ∃c∈A.sup 2++V.sup 2,c.toNat=n):=fun n hn=>by
  rw[zA7,zwv (by rw[zv1,zv3];exact hn),zwv (by rw[zv3];exact hn)];have:zCs.getD n false=false:=by rw[zCs,zK,List.getElem?_replicate,if_pos hn];rfl
  rw[this];constructor
  ·rintro((h | ⟨c,h1,h2⟩) | ⟨c,h1,h2⟩)
   ·cases h
   ·exact⟨c,by simp[h1],h2⟩
   ·exact⟨c,by simp[h1],h2⟩
  ·rintro⟨c,h1,h2⟩;rcases List.mem_append.1 h1 with h1 | h1
   ·exact .inl (.inr ⟨c,h1,h2⟩)
   ·exact .inr ⟨c,h1,h2⟩
 have Aq: ∀c∈A.sup 2++V.sup 2,0<=c/\c<p.cells.length:=fun c hc=>by
  have:=zlU hA hV c (by rw[zxE,zeH];exact hc);exact this
 rw[show zxE A V=zzs (A.sup 2++V.sup 2)from rfl,zeH];constructor
 ·intro h
  have h0:0<=c:=by
   simp only[zxA,List.mem_map,List.mem_filter]at h;obtain⟨j,_,rfl⟩:=h;omega
  obtain⟨n,rfl⟩: ∃n:Nat,c=n:=⟨c.toNat,by omega⟩
  rw[zzN]at h;obtain⟨d,hd,hn⟩:=(key n h.1).1 h.2;have:=Aq d hd;rw[show(n:Int)=d by omega];exact hd
 ·intro h;have:=Aq c h;obtain⟨n,rfl⟩: ∃n:Nat,c=n:=⟨c.toNat,by omega⟩
  rw[zzN];exact⟨by omega,(key n (by omega)).2 ⟨_,h,by simp⟩⟩
def stR (p:Prog) (l:List Int) (n:Nat):List Int:=stM p l n (List.replicate 32 0)
def zzR (p:Prog) (l:List Int) (A V:Expr) (k:Nat):Int:=(List.range k).foldl (fun b n=>if A.ev (stR p l n) (stR p l n)=1 then(if V.ev (stR p l n) (stR p l n)>b then V.ev (stR p l n) (stR p l n)else b)else b) 0
theorem zwb (p:Prog) (l:List Int) (A V:Expr) (k:Nat):zzR p l A V (k+1)=if A.ev (stR p l k) (stR p l k)=1 then(if V.ev (stR p l k) (stR p l k)>zzR p l A V k then V.ev (stR p l k) (stR p l k)else zzR p l A V k)else zzR p l A V k:=by
 rw[zzR,List.range_succ,List.foldl_append];rfl
theorem zj2 {r:V} {h:Nat->Option O} {vs:List V} {K:V->(Nat->Option O)->Prop} {w:WK K} (hk: ∀h',K r h'):ziv (some r) false h vs K w:=by
 unfold ziv;simp only;split
 ·exact hk _
 ·exact⟨fun h=>Bool.noConfusion h,hk _⟩
theorem zwk {s:List Bool} {c:Nat} (h:c<s.length):(zyj s)[c]? =some [vb s[c]]:=by simp[zyj,h]
theorem zwj (s:List Bool) (c:Nat) (v:Bool):(zyj s).set c [.t (.bool v)]=zyj (s.set c v):=by simp[zyj,List.map_set]
theorem zwp {h:Nat->Option O} {k len:Nat} {s:List Bool} {fz:Bool} (hk:h k=some (.rows 1 (zyj s) fz)) (hl:len=s.length):toT1 h (.ms k 0 len)=some (.t (.sl (s.map fun b=>[tb b]))):=by
 have h1:=zdD h 999 (s.map fun b=>[tb b]) (by
  intro e he t ht;obtain⟨n,_,rfl⟩:=List.mem_map.1 he
  simp at ht;subst ht;rfl)
 have h2:toT h 1000 (.ms k 0 len)=some (.sl (s.map fun b=>[tb b])):=by
  rw[toT,hk];have e:zyj s=(s.map fun b=>[tb b]).map (·.map V.t):=by simp[zyj]
  simp only[rd,Nat.zero_add,List.drop_zero];rw[e,if_pos (by simp;omega),List.take_of_length_le (by simp;omega)];simp only[zC,zD];rw[h1];rfl
 simp only[toT1,h2,Option.map_some]
theorem zwr (p:Prog) (hs:p.sane) (hf:zw6 p=true) {t j:Nat} {x:Thread} {l:Loop} {A:Expr} (hx:p.threads[t]? =some x) (hl:x.loops[j]? =some l) (hL:LoopF p x l A):
 Den Γ G 337 [(zP p),vi t,vi j]=some (.tup [vi (if zxf p (zxE A l.variant)>12 then 0 else zzR p (zxE A l.variant) A l.variant (2^zxf p (zxE A l.variant))),vi (if zxf p (zxE A l.variant)>12 then 2 else 0)]):=by
 have hh:zyr p t j=true:=by
  have h1:=(zH.1 hl).1;simp[zyr,hf,hx];exact h1
 have hv:=zm6 p hs t j;rw[hh]at hv;obtain⟨hd,FC⟩: ∃n:Nat,l.head=n:=⟨l.head.toNat,by have:=hL.h0;omega⟩
 have hA:=hL.hA;rw[FC,Int.toNat_natCast]at hA;have Fg:=zgU A;have Km:=zgU l.variant;have Aq:=zlU hL.vA hL.vV;have Ci:=(zxV hf).1
 (refine zw3 Γ337 rfl ?_;dsimp only[f337])
 simp -dsimp only[go_sem,seval,hv,hx,hl,FC,hA,Fg,Km]
 have NN: ∀c∈A.sup 2,0<=c/\c<32:=fun c hc=>by
  have:=Aq c (by rw[zxE,zeH];simp[hc]);omega
 have NE: ∀c∈l.variant.sup 2,0<=c/\c<32:=fun c hc=>by
  have:=Aq c (by rw[zxE,zeH];simp[hc]);omega
 have Ql:=zcD 2 A;have Qk:=zcD 2 l.variant;refine zap 4721213561365038399488 (A.sup 2).length (fun i f h z=>(f 15).v=vi i/\h 46=some (.rows 1 (zyj (mkB zCs ((A.sup 2).take i))) false)/\46<z) rfl ⟨by simp -dsimp only[go_sem,seval],by simp -dsimp only[go_sem,seval];rfl,by simp -dsimp only[go_sem,seval]⟩ ?_;rintro i f u H q bs hi ⟨Cp,hk,hq⟩;have hw:=zag i (by omega);simp -dsimp only[go_sem,seval,Cp];refine zw1 (fun h=> ?_) (fun h=> ?_)<;>(try rw[h])<;>(try simp only[zab]at h)<;>(try simp -dsimp only[go_sem,seval,Cp])
 ·obtain⟨c,hc,Bh⟩:=zad ‹i<(A.sup 2).length›;obtain⟨c0,c1⟩:=NN c Bh;have Bn:=zwk (s:=mkB zCs ((A.sup 2).take i)) (c:=c.toNat) (by rw[zv1,zv3];omega);simp -dsimp only[go_sem,seval,Cp,hc,c0,c1,hk,Bn,zwj];exact⟨by omega,by simp -dsimp only[go_sem,seval,hw],by simp -dsimp only[go_sem,seval,zac hc,zwl],by simp -dsimp only[go_sem,seval];omega⟩
 have AJ:i=(A.sup 2).length:=by omega
 subst AJ;rw[List.take_length]at hk;clear hw Cp h;refine zap 19338090747351197150150656 (l.variant.sup 2).length (fun i f h z=>(f 16).v=vi i/\h 46=some (.rows 1 (zyj (mkB (mkB zCs (A.sup 2)) ((l.variant.sup 2).take i))) false)/\46<z) rfl ⟨by simp -dsimp only[go_sem,seval],by simp -dsimp only[go_sem,seval];exact hk,by simp -dsimp only[go_sem,seval];omega⟩ ?_;clear hk hq;rintro i f2 u2 H2 q2 bs2 Cw ⟨OF,hk,hq⟩;have hw:=zag i (by omega)
 by_cases Af:i<(l.variant.sup 2).length
 ·obtain⟨c,hc,Bh⟩:=zad Af;obtain⟨c0,c1⟩:=NE c Bh;have Av:=eq_true Af;have Bn:=zwk (s:=mkB (mkB zCs (A.sup 2)) ((l.variant.sup 2).take i)) (c:=c.toNat) (by rw[zv1,zv1,zv3];omega);simp -dsimp only[go_sem,seval,OF,Av,hc,c0,c1,hk,Bn,zwj];exact⟨by omega,by simp -dsimp only[go_sem,seval,hw],by simp -dsimp only[go_sem,seval,zac hc,zwl],by simp -dsimp only[go_sem,seval];omega⟩
 have Ni:i=(l.variant.sup 2).length:=by omega
 subst Ni;rw[List.take_length]at hk;have Av:=eq_false Af;have hT:=zwp (len:=32) hk (by rw[zv1,zv1,zv3]);have Gf:=zfQ (zA7 A l.variant) (by rw[zA7,zv1,zv1,zv3];decide);rw[show(zA7 A l.variant).length=32 by rw[zA7,zv1,zv1,zv3],zwf hf hL.vA hL.vV]at Gf;rw[show mkB (mkB zCs (A.sup 2)) (l.variant.sup 2)=zA7 A l.variant from rfl]at hT;have hR:zwi (zxE A l.variant) p.cells.length:=⟨zyD _,Aq⟩
 have NZ:=zwc p hf _ hR
 generalize hC:zxE A l.variant=L at *
 have EM: ∀c∈L,1<=wOf p c/\wOf p c<=8:=fun c hc=>by
  have:=hR.2 c hc;obtain⟨y,hy,DE⟩:=zad (show c.toNat<p.cells.length by omega);have:=zy5 hf DE;rw[wOf,hy];simp only;omega
 have IO:L.length<=32:=by
  have:=zdI 32 L (hR.1.imp fun h=>by omega) fun k hk=>by have:=hR.2 k hk;omega
  omega
 have FM:=zwt (wsM p L) (fun n hn=>by
  obtain⟨c,hc,rfl⟩:=List.mem_map.1 hn
  have:=EM c hc;omega) (by simp[wsM];omega)
 rw[zws]at FM;simp -dsimp only[go_sem,seval,OF,Av,↓hT,Gf];refine zj2 fun H4=> ?_
 clear hT Gf hk
 by_cases hb:zxf p L>12
 ·have AY:(zxf p L:Int)>12:=by omega
  rw[if_pos hb,if_pos hb];simp -dsimp only[go_sem,seval,NZ,FM,AY]
 ·have AY: ¬(zxf p L:Int)>12:=by omega
  rw[if_neg hb,if_neg hb];simp -dsimp only[go_sem,seval,NZ,FM,AY];have HJ:=zbR (zxf p L) (by omega);rw[Int.toNat_natCast,show(2:Int)^zxf p L=((2^zxf p L:Nat):Int)by simp]at HJ;have JX:(2:Nat)^zxf p L<=4096:=Nat.pow_le_pow_right (n:=2) (j:=12) (by omega) (by omega);refine zap 5316911349314363377500527492784455680 (2^zxf p L) (fun n f h z=>(f 22).v=vi n/\(f 21).v=vi (zzR p L A l.variant n)) rfl ⟨by simp -dsimp only[go_sem,seval],by simp -dsimp only[go_sem,seval];rfl⟩ ?_;rintro n f3 u3 H3 q3 bs3 hn ⟨Dr,GD⟩;have GG:=zag n (by omega)
  by_cases Af:n<2^zxf p L
  ·have Av:=eq_true Af;have Nx:=zxk (show A.formed=true by have:=hL.vA;simp only[Expr.valid,zF]at this;exact this.1);have PB:=zxk (show l.variant.formed=true by have:=hL.vV;simp only[Expr.valid,zF]at this;exact this.1);have Mc:=zkk (stR p L n) (stR p L n) 40 A Nx;have Hz:=zkk (stR p L n) (stR p L n) 40 l.variant PB;simp -dsimp only[go_sem,seval,Dr,FM,HJ,Av];refine zas (zBm p hf L hR (by omega) n Af (List.replicate 32 0) (by simp) _ _ _ _ rfl ?_) ?_
   ·intro j hj o;have : ¬(q3+5+2=j):=by omega
    unfold rowsS;simp only[zae,if_neg this,if_pos rfl];rfl
   rintro r h' n' ho;have v1:=ho.valOf;have hT:=zmJ ho;rw[show stM p L n (List.replicate 32 0)=stR p L n from rfl]at hT
   by_cases EJ:A.ev (stR p L n) (stR p L n)=1
   ·have BC:zzR p L A l.variant (n+1)=if l.variant.ev (stR p L n) (stR p L n)>zzR p L A l.variant n then l.variant.ev (stR p L n) (stR p L n)else zzR p L A l.variant n:=by
     rw[zwb,if_pos EJ]
    simp -dsimp only[go_sem,seval,v1,hA,↓hT,Mc,EJ,GD,Dr,Hz];refine⟨by omega,by simp -dsimp only[go_sem,seval,GG],?_⟩;simp -dsimp only[go_sem,seval,BC]
   ·have BC:zzR p L A l.variant (n+1)=zzR p L A l.variant n:=by
     rw[zwb,if_neg EJ]
    simp -dsimp only[go_sem,seval,v1,hA,↓hT,Mc,EJ,GD,Dr];refine⟨by omega,by simp -dsimp only[go_sem,seval,GG],?_⟩;simp -dsimp only[go_sem,seval,BC,GD]
  ·have Av:=eq_false Af;have:n=2^zxf p L:=by omega
   subst this;simp -dsimp only[go_sem,seval,Dr,FM,HJ,Av,GD]
end Rg
end
section
namespace Rg
open Go
theorem zkL (k:Int) (l:List Entry) (i:Nat) (e:Entry) (he:l[i]? =some e) (hl:l.length<2^20) (hs: ∀x∈l,x.cells.length<2^20):
 Den Γ G 372 [vi k,.t (.sl (l.map Entry.enc)),vi i]=some (vb (zyy k l i e)):=by
 have BL:=(zH.1 he).1;have Dc:=zL he
 (refine zw3 Γ372 rfl ?_;dsimp only[zqN])
 by_cases Db:i=0
 ·subst Db;have ho:zyy k l 0 e=true:=by simp[zyy]
  rw[ho];simp -dsimp only[go_sem,seval];refine zai ?_;simp -dsimp only[go_sem,seval]
 ·have e1:(i:Int)>0:=by omega
  by_cases hk:k=2
  ·subst hk;have ho:zyy 2 l i e= !zyb (l.take i) e:=by simp[zyy,Db]
   rw[ho];simp -dsimp only[go_sem,seval,e1];refine zaq 268419264 i (fun j f=>(f 7).v=vi j/\zyb (l.take j) e=false) rfl rfl ⟨by simp -dsimp only[go_sem,seval],by simp[zyb]⟩ ?_;rintro j f u x bs hj ⟨h7,Bq⟩;have hw:=zag j (by omega)
   by_cases Af:j<i
   ·have Av:=eq_true Af;obtain⟨o,AM,Pi⟩:=zad (show j<l.length by omega);have LH:=zmS o e (hs o Pi) (hs e Dc);cases hm:zAr o e
    ·rw[hm]at LH;simp -dsimp only[go_sem,seval,h7,Av,AM,he,Entry.enc,LH];refine⟨by omega,by simp -dsimp only[go_sem,seval,hw],?_⟩;rw[zac AM,zyb,List.any_append];rw[zyb]at Bq;simp[Bq,hm]
    ·rw[hm]at LH
     have hb:zyb (l.take i) e=true:=by
      simp only[zyb,List.any_eq_true];exact⟨o,by rw[List.mem_take_iff_getElem];exact⟨j,by omega,(zH.1 AM).2⟩,hm⟩
     rw[hb];simp -dsimp only[go_sem,seval,h7,Av,AM,he,Entry.enc,LH]
   ·have Av:=eq_false Af;have:j=i:=by omega
    subst this;rw[Bq];simp -dsimp only[go_sem,seval,h7,Av]
  ·have ho:zyy k l i e=false:=by simp[zyy,Db,hk]
   rw[ho];simp -dsimp only[go_sem,seval,e1,hk]
theorem zhf (mem:List Int) (e:Entry) (hm:mem.length<2^31) (hv:e.values.length=e.cells.length) (Aq: ∀c∈e.cells,0<=c/\c<mem.length) (A8:0<mem.length) (hl:e.cells.length<2^20):
 Den Γ G 373 [.t (ints mem),.agg [.t (ints e.cells),.t (ints e.values)]]=some (.t (ints (zz2 mem e))):=by
 (refine zw3 Γ373 rfl ?_;dsimp only[zqM])
 simp -dsimp only[go_sem,seval];have JR:=zeD mem hm (fun _=>none) 0;obtain⟨r,h',n',C2,Ab,_,_⟩:=JR;refine zd0 (es:=mem.map fun n=>[ti n]) rfl rfl ⟨r,h',n',C2,Ab⟩ ?_;clear C2 Ab;intro v hp Ab _ _;have v1:=Ab.valOf;simp -dsimp only[go_sem,seval,v1];refine zap 268435008 e.cells.length (fun i f h x=>(f 6).v=vi i/\za0 h x v 1 (zw5 (zzX mem e i))) rfl ⟨by simp -dsimp only[go_sem,seval],by simp -dsimp only[go_sem,seval];exact Ab.le (by omega)⟩ ?_;clear Ab;rintro i f u H x bs hi ⟨h6,Ab⟩;have hw:=zag i (by omega);have Ac: ∀i,(zzX mem e i).length=mem.length:=fun i=>zbG _ _
 simp -dsimp only[go_sem,seval,h6];refine zw1 (fun h=> ?_) (fun h=> ?_)<;>(try rw[h])<;>(try simp only[zab]at h)<;>(try simp -dsimp only[go_sem,seval,h6])
 ·obtain⟨c,hc,Bh⟩:=zad ‹i<e.cells.length›;obtain⟨d,hd,_⟩:=zad (show i<e.values.length by omega);obtain⟨c0,c1⟩:=Aq c Bh;have hz:(e.cells.zip e.values)[i]? =some (c,d):=List.getElem?_zip_eq_some.2 ⟨hc,hd⟩
  have FR:zzX mem e (i+1)=(zzX mem e i).set c.toNat d:=by
   unfold zzX;rw[zac hz,List.foldl_append];rfl
  rcases Ab with⟨_,he⟩ | ⟨k,rfl,hk,hh⟩
  ·exfalso;have:(zw5 (zzX mem e i)).length=0:=by rw[he];rfl
   rw[zw2,Ac]at this;omega
  ·have Af:c<(((zw5 (zzX mem e i)).length:Nat):Int):=by rw[zw2,Ac];omega
   have Bn:=zaE (l:=zzX mem e i) (i:=c.toNat) (by rw[Ac];omega);have AA:=zaD (zzX mem e i) c.toNat d;rw[<- FR]at AA;simp -dsimp only[go_sem,seval,h6,hc,hd,c0,Af,hh,Bn];refine⟨by omega,by simp -dsimp only[go_sem,seval,hw],.inr ⟨k,?_,by simp -dsimp only[go_sem,seval];omega,?_⟩⟩
   ·rw[zw2,zw2,Ac,Ac]
   ·simp -dsimp only[go_sem,seval,AA]
 ·have:i=e.cells.length:=by omega
  subst this
  have Aa:zzX mem e e.cells.length=zz2 mem e:=by
   unfold zzX zz2;rw[List.take_of_length_le (by simp[hv])]
  rw[Aa]at Ab;have Bp:=Ab.reify (zxU _);have v5:=Ab.resVal;simp only[Rg.resVal]at v5;simp -dsimp only[go_sem,seval,v1,v5];exact Bp
structure RdI (h:Nat->Option O) (v:V) (l:List Int):Prop where
 val:valOf v=some v
 rd:toT1 h v=some (.t (ints l))
 res:resVal v=some v
 rf:Rg.reify h v=some (.t (ints l))
theorem RdI.tree (h:Nat->Option O) (l:List Int):RdI h (.t (ints l)) l:=⟨rfl,rfl,rfl,rfl⟩
theorem RdI.own {h:Nat->Option O} {x:Nat} {v:V} {l:List Int} (o:za0 h x v 1 (zw5 l)):RdI h v l:=⟨o.valOf,zmJ o,o.resVal,o.reify (es:=l.map fun n=>[ti n]) (zxU _)⟩
theorem zfs (p:Prog) (hf:zw6 p=true) (c:Config) (hc:IsB p c) (t:Nat) (ht:t<p.threads.length):
 Den Γ G 357 [(.agg [.t (ints (c).mem),.t (ints (c).at_),.t (.sl ((c).buf.map (fun b=>[.sl (b.map Entry.enc)])))]),vi t]=some (.t (ints (zxd c t))):=by
 have Ci:=(zxV hf).1;have Ou:=hc.lm;obtain⟨b,hb,Ll⟩:=zad (show t<c.buf.length by rw[hc.lb];exact ht);have N9:=zjm hb;obtain⟨GR,EI,_⟩:=hc.buf t b hb
 (refine zw3 Γ357 rfl ?_;dsimp only[zqR])
 simp -dsimp only[go_sem,seval,hb];have JR:=zeD c.mem (by omega) (fun _=>none) 0;obtain⟨r,h',n',C2,Ab,_,_⟩:=JR;refine zd0 (es:=c.mem.map fun n=>[ti n]) rfl rfl ⟨r,h',n',C2,Ab⟩ ?_;clear C2 Ab;intro v hp Ab _ _;have v1:=Ab.valOf;simp -dsimp only[go_sem,seval,v1];refine zap 1073740896 b.length (fun i f h x=>(f 6).v=vi i/\RdI h (f 5).v ((b.take i).foldl zz2 c.mem)) rfl ⟨by simp -dsimp only[go_sem,seval],by simp -dsimp only[go_sem,seval];exact .own Ab⟩ ?_;clear Ab;rintro i f u H x bs hi ⟨h6,BS⟩;have hw:=zag i (by omega);obtain⟨q1,q2,q3,q4⟩:=BS
 by_cases Af:i<b.length
 ·have Av:=eq_true Af;obtain⟨e,he,Dc⟩:=zad Af;have EQ:=EI e Dc;have FR:=zhf ((b.take i).foldl zz2 c.mem) e (by rw[zbs];omega) EQ.len (fun n hn=>by have:=zyw EQ hn;rw[zbs];omega) (by rw[zbs];obtain⟨n,hn⟩:=List.exists_mem_of_ne_nil _ EQ.ne;have:=(zyw EQ hn).2.1;omega) (by have:=zaW EQ;omega);simp -dsimp only[go_sem,seval,h6,Av,hb,he,Entry.enc,q1,↓q2,FR];refine zj2 fun H'=> ?_
  simp -dsimp only[go_sem,seval,h6];refine⟨by omega,by simp -dsimp only[go_sem,seval,hw],?_⟩;simp -dsimp only[go_sem,seval,zac he,List.foldl_append,List.foldl_cons,List.foldl_nil];exact .tree _ _
 ·have Av:=eq_false Af;have:i=b.length:=by omega
  subst this;rw[List.take_length]at q4;simp only[Rg.resVal]at q3;simp -dsimp only[go_sem,seval,h6,Av,hb,q1,q3];rw[zxd,N9];exact q4
theorem zgA (p:Prog) (hf:zw6 p=true) (k:Int) (c:Config) (CQ:IsK p k c) (t:Nat) (x:Thread) (hx:p.threads[t]? =some x) (i:Nat) (s:Step) (hs:x.steps[i]? =some s):
 Den Γ G 371 [(zP p),vi k,(.agg [.t (ints (c).mem),.t (ints (c).at_),.t (.sl ((c).buf.map (fun b=>[.sl (b.map Entry.enc)])))]),vi t,(zS s)]=some (vb (zxi p c t s)):=by
 have hc:=CQ.b;have l1:=hc.lm;have l2:=hc.la;have l3:=hc.lb;have Bg:=za4 hf hx hs;have D6:t<p.threads.length:=(zH.1 hx).1;obtain⟨a,ha,_⟩:=zad (show t<c.at_.length by omega);have FG:atI c.at_ t=a:=zb9 (by simpa using ha);have Aj:=ze9 s.guard (zxd c t) (zxd c t);have CB:=zfs p hf c hc t D6;have E9:=Bg.kind;have Ae:=zx4 (c:=c) (t:=t) (by omega)
 (refine zw3 Γ371 rfl ?_;dsimp only[zqO])
 by_cases h1:a=s.fr
 ·by_cases h2:s.guard.eval (zxd c t) (zxd c t)=1
  ·have hE:zxi p c t s=(if s.kind=3 then(if s.release then decide ((zxq c t).length=0)else decide ((zxq c t).length<3))
    else if s.kind=4\/s.kind=5 then decide ((zxq c t).length=0)
    else if s.kind=6 then decide ((zxq c t).length=0)&&decide (atI c.at_ s.target= -1)
    else if s.kind=7 then decide ((zxq c t).length=0)&&(decide (atI c.at_ s.target=zbh p s.target-1)&&decide ((zxq c s.target.toNat).length=0))
    else true):=by
    simp[zxi,FG,h1,h2]
   rw[h2]at Aj;rw[hE];have e0:((zxq c t).length:Int)=0<->(zxq c t).length=0:=by omega
   have e3:((zxq c t).length:Int)<3<->(zxq c t).length<3:=by omega
   by_cases hk:s.kind=6\/s.kind=7
   ·obtain⟨hr,_⟩:=Bg.tgt hk;simp only[inR,decide_eq_true_eq]at hr;obtain⟨b,hb,_⟩:=zad (show s.target.toNat<c.at_.length by omega);obtain⟨y,hy,_⟩:=zad (show s.target.toNat<p.threads.length by omega);have L6:=zbe hf hy;have hw:IntKind.i64.wrap (y.points-1)=y.points-1:=zaj (by omega);have AY:=zb9 hb;have FX:zbh p s.target=y.points:=by simp[zbh,hy]
    have CI:=zx4 (c:=c) (t:=s.target.toNat) (by omega);have e4:((zxq c s.target.toNat).length:Int)=0<->(zxq c s.target.toNat).length=0:=by omega
    have AT:=zlA p c s.target y b hr.1 hb hy (by omega)
    by_cases hn:(zxq c t).length=0
    ·rcases hk with hk | hk
     ·simp -dsimp only[go_sem,seval,CB,ha,h1,Aj,Ae,hn,hk,hr.1,hb,AY,or_self,or_true,true_or,or_false,false_or,if_true,if_false]
     ·by_cases EI:b=y.points-1
      ·simp -dsimp only[go_sem,seval,CB,ha,h1,Aj,Ae,hn,hk,hr.1,hb,hy,hw,AY,FX,CI,EI,e4,AT,or_self,or_true,true_or,or_false,false_or,if_true,if_false]
      ·simp -dsimp only[go_sem,seval,CB,ha,h1,Aj,Ae,hn,hk,hr.1,hb,hy,hw,AY,FX,CI,EI,e4,AT,Bool.false_and,or_self,or_true,true_or,or_false,false_or,if_true,if_false]
    ·rcases hk with hk | hk
     ·simp -dsimp only[go_sem,seval,CB,ha,h1,Aj,Ae,hn,hk,hr.1,hb,AY,e0,Bool.false_and,or_self,or_true,true_or,or_false,false_or,if_true,if_false]
     ·simp -dsimp only[go_sem,seval,CB,ha,h1,Aj,Ae,hn,hk,hr.1,hb,hy,hw,AY,FX,CI,e0,Bool.false_and,or_self,or_true,true_or,or_false,false_or,if_true,if_false]
   ·have k6: ¬s.kind=6:=by omega
    have k7: ¬s.kind=7:=by omega
    by_cases BD:s.kind=3
    ·by_cases EB:k=0
     ·have hq:=zcf (CQ.q EB) t;have FQ:(zxq c t).length=0:=by rw[hq];rfl
      cases AZ:s.release
      ·simp -dsimp only[go_sem,seval,CB,ha,h1,Aj,Ae,BD,AZ,EB,FQ,or_self,or_true,true_or,or_false,false_or,if_true,if_false]
      ·simp -dsimp only[go_sem,seval,CB,ha,h1,Aj,Ae,BD,AZ,EB,FQ,or_self,or_true,true_or,or_false,false_or,if_true,if_false]
     ·by_cases h3:(zxq c t).length<3
      ·have Cc:((zxq c t).length:Int)<3:=by omega
       cases AZ:s.release
       ·simp -dsimp only[go_sem,seval,CB,ha,h1,Aj,Ae,BD,AZ,EB,h3,Cc,or_self,or_true,true_or,or_false,false_or,if_true,if_false]
       ·simp -dsimp only[go_sem,seval,CB,ha,h1,Aj,Ae,BD,AZ,EB,h3,Cc,e0,or_self,or_true,true_or,or_false,false_or,if_true,if_false]
      ·have Cc: ¬((zxq c t).length:Int)<3:=by omega
       have BY: ¬(zxq c t).length=0:=by omega
       cases AZ:s.release
       ·simp -dsimp only[go_sem,seval,CB,ha,h1,Aj,Ae,BD,AZ,EB,h3,Cc,or_self,or_true,true_or,or_false,false_or,if_true,if_false]
       ·simp -dsimp only[go_sem,seval,CB,ha,h1,Aj,Ae,BD,AZ,EB,h3,Cc,BY,or_self,or_true,true_or,or_false,false_or,if_true,if_false]
    ·by_cases LN:s.kind=4
     ·simp -dsimp only[go_sem,seval,CB,ha,h1,Aj,Ae,LN,e0,or_self,or_true,true_or,or_false,false_or,if_true,if_false]
     ·by_cases LM:s.kind=5
      ·simp -dsimp only[go_sem,seval,CB,ha,h1,Aj,Ae,LM,e0,or_self,or_true,true_or,or_false,false_or,if_true,if_false]
      ·by_cases Be:s.kind=1
       ·simp -dsimp only[go_sem,seval,CB,ha,h1,Aj,Ae,Be,or_self,or_true,true_or,or_false,false_or,if_true,if_false]
       ·have Ba:s.kind=2:=by omega
        simp -dsimp only[go_sem,seval,CB,ha,h1,Aj,Ae,Ba,or_self,or_true,true_or,or_false,false_or,if_true,if_false]
  ·have hE:zxi p c t s=false:=by simp[zxi,h2]
   rw[hE];simp -dsimp only[go_sem,seval,CB,ha,h1,Aj,h2]
 ·have hE:zxi p c t s=false:=by simp[zxi,FG,h1]
  rw[hE];simp -dsimp only[go_sem,seval,CB,ha,h1]
end Rg
end
section
-- FULL
namespace Rg
open Go
def stV (p:Prog) (k:Int) (c:Config):V:=.agg [.t (ints c.mem),.t (ints c.at_),.t (.sl (c.buf.map fun b=>[.sl (b.map Entry.enc)])),.t (.sl (p.cells.map Cell.enc)),.t (.sl (p.modules.map Contract.enc)),.t (.sl (p.locks.map Lock.enc)),.t (.sl (p.threads.map Thread.enc)),vi k]
theorem zhD (p:Prog) (hf:zw6 p=true) (k:Int) (c:Config) (hc:IsB p c) (t:Nat) (x:Thread) (hx:p.threads[t]? =some x) (i:Nat) (s:Step) (hs:x.steps[i]? =some s):
 Den Γ G 189 [stV p k c,vi t,vi i,.t (ints (zxd c t))]=some (vb (zxi p c t s)):=by
 have l1:=hc.lm;have l2:=hc.la;have l3:=hc.lb;have Bg:=za4 hf hx hs;have D6:t<p.threads.length:=(zH.1 hx).1;obtain⟨a,ha,_⟩:=zad (show t<c.at_.length by omega);have FG:atI c.at_ t=a:=zb9 (by simpa using ha);have Aj:=zbT s.guard (zxd c t) (zxd c t);have Ae:=zx4 (c:=c) (t:=t) (by omega);unfold stV
 (refine zw3 Γ189 rfl ?_;dsimp only[f189])
 by_cases h1:a=s.fr
 ·by_cases h2:s.guard.eval (zxd c t) (zxd c t)=1
  ·have hE:zxi p c t s=(if s.kind=3 then(if s.release then decide ((zxq c t).length=0)else decide ((zxq c t).length<3))
    else if s.kind=4\/s.kind=5 then decide ((zxq c t).length=0)
    else if s.kind=6 then decide ((zxq c t).length=0)&&decide (atI c.at_ s.target= -1)
    else if s.kind=7 then decide ((zxq c t).length=0)&&(decide (atI c.at_ s.target=zbh p s.target-1)&&decide ((zxq c s.target.toNat).length=0))
    else true):=by
    simp[zxi,FG,h1,h2]
   rw[h2]at Aj;rw[hE];have e0:((zxq c t).length:Int)=0<->(zxq c t).length=0:=by omega
   have e3:((zxq c t).length:Int)<3<->(zxq c t).length<3:=by omega
   by_cases hk:s.kind=6\/s.kind=7
   ·obtain⟨hr,_⟩:=Bg.tgt hk;simp only[inR,decide_eq_true_eq]at hr;obtain⟨b,hb,_⟩:=zad (show s.target.toNat<c.at_.length by omega);obtain⟨y,hy,_⟩:=zad (show s.target.toNat<p.threads.length by omega);have L6:=zbe hf hy;have hw:IntKind.i64.wrap (y.points-1)=y.points-1:=zaj (by omega);have AY:=zb9 hb;have FX:zbh p s.target=y.points:=by simp[zbh,hy]
    have CI:=zx4 (c:=c) (t:=s.target.toNat) (by omega);have e4:((zxq c s.target.toNat).length:Int)=0<->(zxq c s.target.toNat).length=0:=by omega
    by_cases hn:(zxq c t).length=0
    ·rcases hk with hk | hk
     ·simp -dsimp [go_sem,hx,hs,ha,h1,Aj,Ae,hn,hk,hr.1,hb,AY]
     ·by_cases EI:b=y.points-1
      ·simp -dsimp [go_sem,hx,hs,ha,h1,Aj,Ae,hn,hk,hr.1,hb,hy,hw,AY,FX,CI,EI,e4]
      ·simp -dsimp [go_sem,hx,hs,ha,h1,Aj,Ae,hn,hk,hr.1,hb,hy,hw,AY,FX,CI,EI,e4]
    ·rcases hk with hk | hk
     ·simp -dsimp [go_sem,hx,hs,ha,h1,Aj,Ae,hn,hk,hr.1,hb,AY,e0]
     ·simp -dsimp [go_sem,hx,hs,ha,h1,Aj,Ae,hn,hk,hr.1,hb,hy,hw,AY,FX,CI,e0]
   ·have k6: ¬s.kind=6:=by omega
    have k7: ¬s.kind=7:=by omega
    by_cases BD:s.kind=3
    ·cases AZ:s.release
     ·simp -dsimp [go_sem,hx,hs,ha,h1,Aj,Ae,BD,AZ,e3]
     ·simp -dsimp [go_sem,hx,hs,ha,h1,Aj,Ae,BD,AZ,e0]
    ·by_cases LN:s.kind=4
     ·simp -dsimp [go_sem,hx,hs,ha,h1,Aj,Ae,LN,e0]
     ·by_cases LM:s.kind=5
      ·simp -dsimp [go_sem,hx,hs,ha,h1,Aj,Ae,LM,e0]
      ·simp -dsimp [go_sem,hx,hs,ha,h1,Aj,Ae,k6,k7,BD,LN,LM]
  ·have hE:zxi p c t s=false:=by simp[zxi,h2]
   rw[hE];simp -dsimp [go_sem,hx,hs,ha,h1,Aj,h2]
 ·have hE:zxi p c t s=false:=by simp[zxi,FG,h1]
  rw[hE];simp -dsimp [go_sem,hx,hs,ha,h1]
def ziH (h:Nat->Option O) (lo hi:Nat) (v:V) (rows:List (List V)):Prop:=
 (v= .t (.sl [])/\rows=[])\/ ∃k,v= .ms k 0 rows.length/\lo<=k/\k<hi/\h k=some (.rows 1 rows false)
theorem ziH.keep {h h':Nat->Option O} {lo hi:Nat} {v:V} {rows:List (List V)} (o:ziH h lo hi v rows) (hh: ∀k,lo<=k->k<hi->h' k=h k):ziH h' lo hi v rows:=by
 rcases o with o | ⟨k,h1,h2,h3,h4⟩
 ·exact .inl o
 ·exact .inr ⟨k,h1,h2,h3,by rw[hh k h2 h3];exact h4⟩
theorem ziH.val {h:Nat->Option O} {lo hi:Nat} {v:V} {rows:List (List V)} (o:ziH h lo hi v rows):Rg.valOf v=some v/\V.cells v=some [v]:=by
 rcases o with⟨rfl,_⟩ | ⟨k,rfl,_⟩<;>exact⟨rfl,rfl⟩
theorem ziH.tree {h:Nat->Option O} {lo hi:Nat} {v:V} {l:List Int} (o:ziH h lo hi v (zw5 l)) (d:Nat):toT h (d+1) v=some (ints l):=by
 rcases o with⟨rfl,he⟩ | ⟨k,rfl,_,_,hh⟩
 ·have:l=[]:=by
   have:=congrArg List.length he;rw[zw2]at this;exact List.eq_nil_of_length_eq_zero this
  subst this;rfl
 ·have Di:List.take (zw5 l).length (zw5 l)=zw5 l:=zaC rfl;simp only[toT,hh,rd,Nat.zero_add,Nat.le_refl,if_true,List.drop_zero,Di,zC,zD,zaL]
def znY (h:Nat->Option O) (lo hi:Nat) (r:List V) (e:Entry):Prop:=
 ∃kc kv,r=[.ms kc 0 e.cells.length,.ms kv 0 e.values.length]/\lo<=kc/\kc<hi/\lo<=kv/\kv<hi/\h kc=some (.rows 1 (zw5 e.cells) false)/\h kv=some (.rows 1 (zw5 e.values) false)
theorem znY.keep {h h':Nat->Option O} {lo hi lo' AJ:Nat} {r:List V} {e:Entry} (o:znY h lo hi r e) (h1:lo'<=lo) (h2:hi<=AJ) (hh: ∀k,lo<=k->k<hi->(∀rs fz,h k≠some (.rows 2 rs fz))->h' k=h k):znY h' lo' AJ r e:=by
 obtain⟨kc,kv,e1,a1,a2,a3,a4,a5,a6⟩:=o;exact⟨kc,kv,e1,by omega,by omega,by omega,by omega,by rw[hh kc a1 a2 (by rw[a5];simp)];exact a5,by rw[hh kv a3 a4 (by rw[a6];simp)];exact a6⟩
theorem znY.tree {h:Nat->Option O} {lo hi:Nat} {r:List V} {e:Entry} (o:znY h lo hi r e) (d:Nat):r.mapM (toT h (d+1))=some (Entry.enc e):=by
 obtain⟨kc,kv,rfl,a1,a2,a3,a4,a5,a6⟩:=o;have h1:=ziH.tree (h:=h) (lo:=lo) (hi:=hi) (v:=.ms kc 0 e.cells.length) (l:=e.cells) (.inr ⟨kc,by rw[zw2],a1,a2,a5⟩) d;have h2:=ziH.tree (h:=h) (lo:=lo) (hi:=hi) (v:=.ms kv 0 e.values.length) (l:=e.values) (.inr ⟨kv,by rw[zw2],a3,a4,a6⟩) d;rw[List.mapM_cons,h1,List.mapM_cons,h2,List.mapM_nil];rfl
def zhU (h:Nat->Option O) (lo hi:Nat) (v:V) (b:List Entry):Prop:=
 ∃rows,((v= .t .nils/\rows=[])\/ ∃k,v= .ms k 0 rows.length/\lo<=k/\k<hi/\h k=some (.rows 2 rows false))/\rows.length=b.length/\(∀r∈rows,r.length=2)/\
  ∀(j:Nat) (e:Entry),b[j]? =some e-> ∃r,rows[j]? =some r/\znY h lo hi r e
theorem zhU.keep {h h':Nat->Option O} {lo hi AJ:Nat} {v:V} {b:List Entry} (o:zhU h lo hi v b) (h2:hi<=AJ) (hh: ∀k,lo<=k->k<hi->h' k=h k):zhU h' lo AJ v b:=by
 obtain⟨rows,h1,h3,h4,h5⟩:=o;refine⟨rows,?_,h3,h4,fun j e he=> ?_⟩
 ·rcases h1 with h1 | ⟨k,a1,a2,a3,a4⟩
  ·exact .inl h1
  ·exact .inr ⟨k,a1,a2,by omega,by rw[hh k a2 a3];exact a4⟩
 ·obtain⟨r,hr,hE⟩:=h5 j e he;exact⟨r,hr,hE.keep (Nat.le_refl _) h2 fun k k1 k2 _=>hh k k1 k2⟩
theorem zdY {h:Nat->Option O} {d:Nat}: ∀(rows:List (List V)) (b:List Entry),rows.length=b.length->(∀(j:Nat) (e:Entry),b[j]? =some e-> ∃r,rows[j]? =some r/\r.mapM (toT h d)=some (Entry.enc e))->
 rows.mapM (fun row=>row.mapM (toT h d))=some (b.map Entry.enc)
 | [],[],_,_=>rfl
 | [],_::_,hl,_=>by simp at hl
 | _::_,[],hl,_=>by simp at hl
 | r::rows,e::b,hl,hj=>by
   have ih:=zdY rows b (by simpa using hl) fun j e he=>hj (j+1) e he
   obtain⟨r',hr,ht⟩:=hj 0 e rfl;simp only[List.getElem?_cons_zero,zA]at hr;subst hr;rw[List.mapM_cons,ht,ih];rfl
theorem zhU.tree {h:Nat->Option O} {lo hi:Nat} {v:V} {b:List Entry} (o:zhU h lo hi v b) (d:Nat):toT h (d+2) v=some (.sl (b.map Entry.enc)):=by
 obtain⟨rows,h1,h3,h4,h5⟩:=o;rcases h1 with⟨rfl,rfl⟩ | ⟨k,rfl,a2,a3,a4⟩
 ·have:b=[]:=List.eq_nil_of_length_eq_zero (by simpa using h3.symm);subst this;rfl
 ·have Di:List.take rows.length rows=rows:=zaC rfl
  have hr:=zdY (h:=h) (d:=d+1) rows b h3 fun j e he=>by
   obtain⟨r,hr,hE⟩:=h5 j e he;exact⟨r,hr,hE.tree d⟩
  simp only[toT,a4,rd,Nat.zero_add,Nat.le_refl,if_true,List.drop_zero,Di,zC,zD,hr]
theorem zhU.val {h:Nat->Option O} {lo hi:Nat} {v:V} {b:List Entry} (o:zhU h lo hi v b):Rg.valOf v=some v/\V.cells v=some [v]:=by
 obtain⟨rows,⟨rfl,_⟩ | ⟨k,rfl,_⟩,_⟩:=o<;>exact⟨rfl,rfl⟩
structure BufsV (h:Nat->Option O) (bd:Nat->Nat) (vs:List (List V)) (bs:List (List Entry)):Prop where
 len:vs.length=bs.length
 mono: ∀q,q<bs.length->bd q<=bd (q+1)
 at_: ∀(q:Nat) (b:List Entry),bs[q]? =some b-> ∃v,vs[q]? =some [v]/\zhU h (bd q) (bd (q+1)) v b
theorem BufsV.le {h:Nat->Option O} {bd:Nat->Nat} {vs:List (List V)} {bs:List (List Entry)} (o:BufsV h bd vs bs) {q r:Nat} (hq:q<=r) (hr:r<=bs.length):bd q<=bd r:=by
 induction r with
 | zero=>have:q=0:=by omega
         subst this;exact Nat.le_refl _
 | succ r ih=>
   rcases Nat.lt_or_ge q (r+1)with h | h
   ·exact Nat.le_trans (ih (by omega) (by omega)) (o.mono r (by omega))
   ·have:q=r+1:=by omega
    subst this;exact Nat.le_refl _
theorem BufsV.snoc {h h':Nat->Option O} {bd:Nat->Nat} {vs:List (List V)} {bs:List (List Entry)} (o:BufsV h bd vs bs) {x:Nat} {v:V} {b:List Entry} (hx:bd bs.length<=x)
 (hh: ∀k,bd 0<=k->k<bd bs.length->h' k=h k) (hv:zhU h' (bd bs.length) x v b):BufsV h' (fun q=>if q<=bs.length then bd q else x) (vs++[[v]]) (bs++[b]):=by
 refine⟨by simp[o.len],fun q hq=> ?_,fun q b' hb=> ?_⟩
 ·rw[zM,List.length_singleton]at hq;rcases Nat.lt_or_ge q bs.length with h1 | h1
  ·rw[if_pos (by omega),if_pos (by omega)];exact o.mono q h1
  ·have:q=bs.length:=by omega
   subst this;rw[if_pos (Nat.le_refl _),if_neg (by omega)];exact hx
 ·rcases Nat.lt_or_ge q bs.length with h1 | h1
  ·rw[List.getElem?_append_left h1]at hb;obtain⟨u,hu,hB⟩:=o.at_ q b' hb;refine⟨u,by rw[List.getElem?_append_left (by rw[o.len];exact h1)];exact hu,?_⟩;rw[if_pos (by omega),if_pos (by omega)];refine hB.keep (Nat.le_refl _) fun k k1 k2=>hh k ?_ ?_
   ·have:=o.le (Nat.zero_le q) (by omega);omega
   ·have:=o.le (show q+1<=bs.length by omega) (Nat.le_refl _);omega
  ·have hq:q=bs.length:=by
    have:=(zH.1 hb).1;rw[zM,List.length_singleton]at this;omega
   subst hq;rw[List.getElem?_append_right (Nat.le_refl _),Nat.sub_self]at hb;simp only[List.getElem?_cons_zero,zA]at hb;subst hb;refine⟨v,by rw[List.getElem?_append_right (by rw[o.len];exact Nat.le_refl _),o.len,Nat.sub_self];rfl,?_⟩;rw[if_pos (Nat.le_refl _),if_neg (by omega)];exact hv
def zvP (h:Nat->Option O) (x:Nat) (vM vA:V) (kB:Nat) (c:Config):Prop:=
 ∃x1 x2 bd vs,ziH h 0 x1 vM (zw5 c.mem)/\ziH h x1 x2 vA (zw5 c.at_)/\x1<=x2/\x2<=kB/\kB<bd 0/\h kB=some (.rows 1 vs false)/\BufsV h bd vs c.buf/\bd c.buf.length<=x
theorem zzQ (p:Prog) (hf:zw6 p=true) (c:Config) (hc:IsB p c) (nx:Nat):
 ∃r h' n',DenR Γ G 202 [(.agg [.t (ints (c).mem),.t (ints (c).at_),.t (.sl ((c).buf.map (fun b=>[.sl (b.map Entry.enc)])))])] (fun _=>none) nx=some (r,h',n')/\ ∃vM vA kB,r= .agg [vM,vA,.ms kB 0 c.buf.length]/\zvP h' n' vM vA kB c:=by
 obtain⟨⟨m1,m2,m3,m4⟩,_⟩:=zw8 (zw9 hf).1;have l1:=hc.lm;have l2:=hc.la;have l3:=hc.lb;have e3:(c.buf.length:Int)<=4294967296:=by omega
 (refine zxC Γ202 rfl ?_;dsimp only[zq4])
 simp -dsimp only[go_sem,seval];refine zhG (by omega) ?_;rintro vM Fk MN P1 GN ⟨Bb,C3⟩;simp -dsimp only[go_sem,seval,Bb];refine zhG (by omega) ?_;rintro vA E6 MM Dw Jn ⟨DF,Co⟩;unfold V.cells at C3 Co;simp -dsimp only[go_sem,seval,Bb,C3,DF,Co,e3,Int.le_refl]
 generalize PR:Ax (Ax (fun _=>none) Fk) E6=H0 at *
 have n1:c.buf.length=c.buf.length:=rfl;refine zap 9007199250546864 c.buf.length (fun i f h x=>(f 22).v=vi i/\ ∃bd vs,h (nx+2+9)=some (.rows 1 (vs++List.replicate (c.buf.length-i) [.t .nils]) false)/\BufsV h bd vs (c.buf.take i)/\bd 0=nx+2+10/\bd i<=x/\(∀k,k<nx+2+9->h k=H0 k)) rfl ?_ ?_
 ·refine⟨by simp -dsimp only[go_sem,seval],fun _=>nx+2+10,[],by simp -dsimp only[go_sem,seval,List.nil_append,Nat.sub_zero],⟨rfl,fun q hq=>Nat.le_refl _,fun q b hb=>by simp at hb⟩,rfl,by simp -dsimp only[go_sem,seval];omega,?_⟩;intro k hk;have:k≠nx+2+9:=by omega
  simp -dsimp only[go_sem,seval,this]
 rintro i f u Ho x bs hi ⟨Dr,bd,vs,hB,Az,Cm,GQ,AE⟩;have hw:=zag i (by omega);simp -dsimp only[go_sem,seval,Dr];refine zw1 (fun h=> ?_) (fun h=> ?_)<;>(try rw[h])<;>(try simp only[zab]at h)<;>(try simp -dsimp only[go_sem,seval,Dr])
 ·obtain⟨b,hb,Ll⟩:=zad ‹i<c.buf.length›;obtain⟨b1,b2,_⟩:=hc.buf i b hb;simp -dsimp only[go_sem,seval,Dr,hb]
  have Ad:List.replicate (c.buf.length-i) [V.t T.nils]=[V.t T.nils]::List.replicate (c.buf.length-i-1) [V.t T.nils]:=by
   rw[<- List.replicate_succ];congr 1;omega
  have Ha:vs.length=i:=by rw[Az.len,List.length_take];omega
  have CZ:nx+2+9<x:=by have:=Az.le (q:=0) (r:=i) (by omega) (by rw[List.length_take];omega);omega
  refine zap 4503599090499712 b.length (fun j f' h' x'=>(f' 29).v=vi j/\ ∃v,h' (nx+2+9)=some (.rows 1 (vs++[v]::List.replicate (c.buf.length-i-1) [.t .nils]) false)/\zhU h' x x' v (b.take j)/\x<=x'/\(∀k,k<x->k≠nx+2+9->h' k=Ho k)) rfl ?_ ?_
  ·refine⟨by simp -dsimp only[go_sem,seval],.t .nils,by simp -dsimp only[go_sem,seval,hB,Ad],⟨[],.inl ⟨rfl,rfl⟩,by simp,by simp,by simp⟩,by simp -dsimp only[go_sem,seval];omega,fun k _ _=>rfl⟩
  rintro j f' u' Hi x' bs' hj ⟨H5,v,J1,EH,OL,Dx⟩;have Ay:=zag j (by omega);simp -dsimp only[go_sem,seval,H5];refine zw1 (fun h=> ?_) (fun h=> ?_)<;>(try rw[h])<;>(try simp only[zab]at h)<;>(try simp -dsimp only[go_sem,seval,H5,Dr])
  ·obtain⟨e,he,Dc⟩:=zad ‹j<b.length›;have Cu:=b2 e Dc;have Cr:=zaW Cu
   have Bn:(vs++[v]::List.replicate (c.buf.length-i-1) [V.t T.nils])[i]? =some [v]:=by
    rw[List.getElem?_append_right (by omega),Ha,Nat.sub_self];rfl
   obtain⟨Bs,F5⟩:=EH.val;have DC:(i:Int)<(c.buf.length:Int):=by omega
   have Db:(0:Int)<=(i:Int):=by omega
   simp -dsimp only[go_sem,seval,H5,Dr,he,Entry.enc,J1,Bn,DC,Db,Bs];refine zhG (by omega) ?_;rintro vc E5 ML Nk JP ⟨Bi,AW⟩;simp -dsimp only[go_sem,seval,Bi];refine zhG (by have:=Cu.len;omega) ?_;rintro vv Fj K4 KY Lc ⟨CC,C8⟩;unfold V.cells at AW C8;obtain⟨rows,B1,AZ,BI,Bp⟩:=EH
   have hG: ∀k,k<x'->updC (Ax (Ax Hi E5) Fj) (x'+1+4+15) (some (O.rows 2 [[vc,vv]] false)) k=Hi k:=fun k hk=>by
    rw[zae,if_neg (by omega),KY k (by omega),Nk k (by omega)]
   have K5:za0 (updC (Ax (Ax Hi E5) Fj) (x'+1+4+15) (some (O.rows 2 [[vc,vv]] false))) (x'+1+4+16) v 2 rows:=by
    rcases B1 with h | ⟨k,h1,h2,h3,h4⟩
    ·exact .inl h
    ·exact .inr ⟨k,h1,by omega,by rw[hG k h3];exact h4⟩
   have AB:=K5.rowsS;simp -dsimp only[go_sem,seval,Bs,Bi,AW,CC,C8,AB];have Aa:(rows.all fun r=>decide (r.length=2))=true:=by simpa using BI
   refine zaM K5 (Nat.le_refl _) (by have:=Az.len;rw[AZ,List.length_take];omega) (by decide) rfl Aa ?_;intro v2 hp hO Bc As;rcases hO with⟨_,CL⟩ | ⟨k2,rfl,Ba,CH⟩
   ·simp at CL
   have Gm:x'+1+4+16<=k2:=by
    rcases Nat.lt_or_ge k2 (x'+1+4+16)with h1 | h1
    ·exact absurd rfl (Bc k2 h1 0 _)
    ·exact h1
   have B4: ∀k,(k<x\/x'<=k\/ ∀rs fz,Hi k≠some (O.rows 2 rs fz))->zdc v k:=by
    intro k hk;rcases B1 with⟨rfl,_⟩ | ⟨k',rfl,h2,h3,h4⟩
    ·intro i n h0;cases h0
    ·refine zyp ?_ _ _;rintro rfl;rcases hk with hk | hk | hk
     ·omega
     ·omega
     ·exact hk _ _ h4
   have DX: ∀k,k<x'->(k<x\/ ∀rs fz,Hi k≠some (O.rows 2 rs fz))->Ax (updC (Ax (Ax Hi E5) Fj) (x'+1+4+15) (some (O.rows 2 [[vc,vv]] false))) hp k=Hi k:=by
    intro k hk Ai;rw[As k (by omega) (B4 k (by rcases Ai with h | h;exact .inl h;exact .inr (.inr h))),hG k hk]
   have H1:=DX (nx+2+9) (by omega) (.inl (by omega));rw[J1]at H1
   have E2:(vs++[v]::List.replicate (c.buf.length-i-1) [V.t T.nils]).set i [V.ms k2 0 (rows++[[vc,vv]]).length]=vs++[V.ms k2 0 (rows++[[vc,vv]]).length]::List.replicate (c.buf.length-i-1) [V.t T.nils]:=by
    rw[List.set_append_right _ _ (by omega),Ha,Nat.sub_self];rfl
   simp -dsimp only[go_sem,seval,H5,Dr,H1,Bn,DC,Db,E2];have Da: ∀(o:Option O) k,k≠nx+2+9->updC (Ax (updC (Ax (Ax Hi E5) Fj) (x'+1+4+15) (some (O.rows 2 [[vc,vv]] false))) hp) (nx+2+9) o k=Ax (updC (Ax (Ax Hi E5) Fj) (x'+1+4+15) (some (O.rows 2 [[vc,vv]] false))) hp k:=fun o k hk=>by rw[zae,if_neg hk]
   have G4: ∀(o:Option O) x'',k2<x''->zhU (updC (Ax (updC (Ax (Ax Hi E5) Fj) (x'+1+4+15) (some (O.rows 2 [[vc,vv]] false))) hp) (nx+2+9) o) x x'' (.ms k2 0 (rows++[[vc,vv]]).length) (b.take (j+1)):=by
    intro o x'' Im;refine⟨rows++[[vc,vv]],.inr ⟨k2,rfl,by omega,Im,by rw[Da _ _ (by omega)];exact CH⟩,by rw[zM,AZ,List.length_take,List.length_take];simp;omega,?_,?_⟩
    ·intro r hr;rcases List.mem_append.1 hr with hr | hr
     ·exact BI r hr
     ·rw[List.mem_singleton]at hr;rw[hr];rfl
    ·intro q e0 hq;rw[zac he]at hq;have Bz:(b.take j).length=j:=by rw[List.length_take];omega
     rcases Nat.lt_or_ge q j with h1 | h1
     ·rw[List.getElem?_append_left (by omega)]at hq;obtain⟨r,hr,hE⟩:=Bp q e0 hq;refine⟨r,by rw[List.getElem?_append_left (by rw[AZ];omega)];exact hr,hE.keep (Nat.le_refl _) (by omega) fun k a1 a2 a3=> ?_⟩;rw[Da _ _ (by omega),DX k a2 (.inr a3)]
     ·have I4:q=j:=by
       have:=(zH.1 hq).1;rw[zM,Bz,List.length_singleton]at this;omega
      subst I4;rw[List.getElem?_append_right (by omega),Bz,Nat.sub_self]at hq;simp only[List.getElem?_cons_zero,zA]at hq;subst hq;refine⟨[vc,vv],by rw[List.getElem?_append_right (by rw[AZ,Bz];exact Nat.le_refl _),AZ,Bz,Nat.sub_self];rfl,?_⟩;have Nw:zw5 e.cells≠[]:=fun h0=>Cu.ne (List.eq_nil_of_length_eq_zero (by rw[<- zw2,h0];rfl))
      have Aj:zw5 e.values≠[]:=fun h0=>Cu.ne (List.eq_nil_of_length_eq_zero (by rw[<- Cu.len,<- zw2,h0];rfl))
      rcases ML with⟨_,h0⟩ | ⟨kc,rfl,D9,IY⟩
      ·exact absurd h0 Nw
      rcases K4 with⟨_,h0⟩ | ⟨kv,rfl,E8,IQ⟩
      ·exact absurd h0 Aj
      have qc:kc=x'+1+4+10:=by
       rcases Nat.decEq kc (x'+1+4+10)with h1 | h1
       ·exact absurd rfl (JP kc h1 0 _)
       ·exact h1
      have qv:kv=x'+1+4+13:=by
       rcases Nat.decEq kv (x'+1+4+13)with h1 | h1
       ·exact absurd rfl (Lc kv h1 0 _)
       ·exact h1
      refine⟨kc,kv,by rw[zw2,zw2],by omega,by omega,by omega,by omega,?_,?_⟩
      ·rw[Da _ _ (by omega),As kc (by omega) (B4 kc (.inr (.inl (by omega)))),zae,if_neg (by omega),KY kc (by omega)];exact IY
      ·rw[Da _ _ (by omega),As kv (by omega) (B4 kv (.inr (.inl (by omega)))),zae,if_neg (by omega)];exact IQ
   refine⟨by omega,by simp -dsimp only[go_sem,seval,Ay],.ms k2 0 (rows++[[vc,vv]]).length,by simp -dsimp only[go_sem,seval],?_,by simp -dsimp only[go_sem,seval];omega,?_⟩
   ·simp -dsimp only[go_sem,seval];exact G4 _ _ (by omega)
   intro k hk KM;simp -dsimp only[go_sem,seval,Da _ k KM];rw[DX k (by omega) (.inl hk)];exact Dx k hk KM
  ·have:j=b.length:=by omega
   subst this;rw[List.take_length]at EH;have Di:c.buf.take (i+1)=c.buf.take i++[b]:=zac hb;have Gg:(c.buf.take i).length=i:=by rw[List.length_take];omega
   have GI:=Az.snoc (h':=Hi) (x:=x') (v:=v) (b:=b) (by rw[Gg];omega) (fun k k1 k2=>by rw[Gg]at k2;exact Dx k (by omega) (by omega)) (by
    rw[Gg];obtain⟨rows,B1,AZ,BI,Bp⟩:=EH;refine⟨rows,?_,AZ,BI,fun q e0 hq=> ?_⟩
    ·rcases B1 with h | ⟨k,h1,h2,h3,h4⟩
     ·exact .inl h
     ·exact .inr ⟨k,h1,by omega,h3,h4⟩
    ·obtain⟨r,hr,hE⟩:=Bp q e0 hq
     exact⟨r,hr,hE.keep GQ (Nat.le_refl _) fun _ _ _ _=>rfl⟩)
   rw[Gg,<- Di]at GI;refine⟨by omega,by simp -dsimp only[go_sem,seval,hw,Dr],_,vs++[[v]],?_,GI,by rw[if_pos (Nat.zero_le _)];exact Cm,by rw[if_neg (by omega)];simp -dsimp only[go_sem,seval];omega,?_⟩
   ·simp -dsimp only[go_sem,seval,J1];rw[zQ];rfl
   ·intro k hk;simp -dsimp only[go_sem,seval,Dx k (by omega) (by omega)];exact AE k hk
 ·have Cw:i=c.buf.length:=by omega
  subst Cw;rw[Nat.sub_self,List.replicate_zero,List.append_nil]at hB;rw[List.take_length]at Az
  have hM:ziH Ho 0 (nx+5) vM (zw5 c.mem):=by
   rcases MN with h1 | ⟨k,h1,h2,h3⟩
   ·exact .inl h1
   ·exact .inr ⟨k,h1,by omega,by omega,by rw[AE k (by omega),Dw k (by omega)];exact h3⟩
  have hA:ziH Ho (nx+5) (nx+8) vA (zw5 c.at_):=by
   rcases MM with h1 | ⟨k,h1,h2,h3⟩
   ·exact .inl h1
   ·have hk:k=nx+2+5:=by
     rcases Nat.decEq k (nx+2+5)with h4 | h4
     ·subst h1;exact absurd rfl (Jn k h4 0 _)
     ·exact h4
    exact .inr ⟨k,h1,by omega,by omega,by rw[AE k (by omega)];exact h3⟩
  refine⟨vM,vA,nx+2+9,rfl,nx+5,nx+8,bd,vs,hM,hA,by omega,by omega,by omega,hB,Az,by simp -dsimp only[go_sem,seval];omega⟩
theorem zBG (m:List Int) (e:Entry) (hl:e.values.length=e.cells.length) (hs:e.cells.length<2^40) (hc: ∀n∈e.cells,0<=n/\n.toNat<m.length) (H:Nat->Option O) (nx k kc kv:Nat) (hk:H k=some (.rows 1 (zw5 m) false))
 (D9:H kc=some (.rows 1 (zw5 e.cells) false)) (E8:H kv=some (.rows 1 (zw5 e.values) false)) (h1:kc≠k) (h2:kv≠k):
 ∃r h' n',DenR Γ G 199 [.ms k 0 m.length,.agg [.ms kc 0 e.cells.length,.ms kv 0 e.values.length]] H nx=some (r,h',n')/\(r= .tup []/\h' k=some (.rows 1 (zw5 (zz2 m e)) false)/\(∀j,j≠k->h' j=H j)/\nx<=n'):=by
 (refine zxC Γ199 rfl ?_;dsimp only[f199])
 simp -dsimp only[go_sem,seval,D9];refine zap 8388144 e.cells.length (fun i f h x=>(f 9).v=vi i/\h k=some (.rows 1 (zw5 (zzX m e i)) false)/\(∀j,j≠k->h j=H j)/\nx<=x) rfl ⟨by simp -dsimp only[go_sem,seval],by simp -dsimp only[go_sem,seval,hk,zzX,List.take_zero,List.foldl_nil],fun j _=>rfl,by simp -dsimp only[go_sem,seval];omega⟩ ?_;rintro i f u H2 x bs hi ⟨h9,hh,hj,hx⟩;have hw:=zag i (by omega);have KL:=hj kc h1;have KJ:=hj kv h2;rw[D9]at KL;rw[E8]at KJ;simp -dsimp only[go_sem,seval,h9];refine zw1 (fun h=> ?_) (fun h=> ?_)<;>(try rw[h])<;>(try simp only[zab]at h)<;>(try simp -dsimp only[go_sem,seval,h9])
 ·obtain⟨c,Ed,Bh⟩:=zad ‹i<e.cells.length›;obtain⟨v,hv,_⟩:=zad (show i<e.values.length by omega);obtain⟨c0,c1⟩:=hc c Bh;have AR:=zhb (m:=m) Ed hv;have Ac:=ziY m e i;have Bn:=zaE (l:=zzX m e i) (i:=c.toNat) (by omega);have AA:=zaD (zzX m e i) c.toNat v;have c2:c<(m.length:Int):=by omega
  have i0:(0:Int)<=(i:Int):=by omega
  have j1:i<e.cells.length:=by omega
  have j2:i<e.values.length:=by omega
  have i1:(i:Int)<(e.cells.length:Int):=by omega
  have i2:(i:Int)<(e.values.length:Int):=by omega
  have By:(zw5 e.cells)[i]? =some [vi c]:=by simp[zw5,Ed]
  have BI:(zw5 e.values)[i]? =some [vi v]:=by simp[zw5,hv]
  simp -dsimp only[go_sem,seval,h9,KL,KJ,i0,i1,i2,j1,j2,By,BI,hh,c0,c2,Bn];refine⟨by omega,by simp -dsimp only[go_sem,seval,hw],?_,?_,by simp -dsimp only[go_sem,seval];omega⟩
  ·rw[AR];simp -dsimp only[go_sem,seval,AA]
  ·intro j Nb;simp -dsimp only[go_sem,seval,Nb,hj]
 ·have:i=e.cells.length:=by omega
  subst this;rw[ziZ hl]at hh;refine⟨rfl,hh,hj,by simp -dsimp only[go_sem,seval];omega⟩
theorem zBV (A:List (List V)) (hA: ∀r∈A,r.length=2) (hn:A.length<2^20) (i:Nat) (hi:i<A.length) (H:Nat->Option O) (nx k:Nat) (hk:H k=some (.rows 2 A false)) (GL:k<nx):
 ∃r h' n',DenR Γ G 203 [.ms k 0 A.length,vi i,vi ((i+1:Nat):Int)] H nx=some (r,h',n')/\ ∃k',r= .ms k' 0 (A.length-1)/\h' k'=some (.rows 2 (A.eraseIdx i++[[.t .nils,.t .nils]]) false)/\(∀j,j<nx->j≠k->h' j=H j)/\(k'=k\/nx<=k'):=by
 have g1:(0:Int)<=(i:Int):=by omega
 have g2:(i:Int)<=((i+1:Nat):Int):=by omega
 have g3:((i+1:Nat):Int)<=(A.length:Int):=by omega
 have g4:(0:Int)<=((i+1:Nat):Int):=by omega
 have g5:(i:Int)<=(A.length:Int):=by omega
 have g6: ¬(i:Int)=((i+1:Nat):Int):=by omega
 have g7:(A.length:Int)<=(A.length:Int):=Int.le_refl _;have g8: ¬((i+1:Nat):Int)=0:=by omega
 have s0:((i:Int)-0).toNat=i:=by omega
 have s1:((A.length:Int)-((i+1:Nat):Int)).toNat=A.length-(i+1):=by omega
 have s2:i<=A.length:=by omega
 have s3:rowsS H (.ms k (i+1) (A.length-(i+1)))=some (A.drop (i+1)):=by
  simp only[rowsS,hk,rd];rw[if_pos (by omega),List.take_of_length_le (by simp)]
 have s4:(A.take i).length=i:=by rw[List.length_take];omega
 have Aa: ∀l:List (List V),(∀r∈l,r∈A)->(l.all fun r=>decide (r.length=2))=true:=fun l hl=>zN.2 fun r hr=>by simpa using hA r (hl r hr)
 (refine zxC Γ203 rfl ?_;dsimp only[zq3])
 simp -dsimp only[go_sem,seval,hk,g1,g2,g3,g4,g5,g6,g7,g8,false_and,and_false,if_false,s0,s1,s2,s3];unfold zyh;rw[if_pos ⟨⟨by rw[s4,List.length_drop];omega,by decide⟩,Aa _ fun r hr=>List.mem_of_mem_drop hr,Aa _ fun r hr=>List.mem_of_mem_take hr⟩];have A8:(A.length:Int)-1=((A.length-1:Nat):Int):=by omega
 by_cases Gi:i+1=A.length
 ·have hd:A.drop (i+1)=[]:=List.drop_of_length_le (by omega);rw[hd];simp only[List.isEmpty_nil,if_true,zbz,zar];have q2:((A.length:Int)-(i:Int)).toNat=1:=by omega
  have q3: ¬(A.length:Int)<=(i:Int):=by omega
  have q4:zfB H 2 (i:Int) (A.length:Int) (.ms k 0 i)=some (.ms k i 1):=by
   simp only[zfB,hk];rw[if_pos ⟨trivial,by omega,by omega,by omega⟩];simp only[Int.toNat_natCast,Nat.zero_add,q2]
  have q5:A.take i++[[V.t T.nils,V.t T.nils]]++A.drop (i+1)=A.eraseIdx i++[[.t .nils,.t .nils]]:=by
   rw[List.eraseIdx_eq_take_drop_succ,hd];simp
  have q6:i+1<=A.length:=hi;simp -dsimp only[go_sem,seval,hk,g1,q2,q3,q4,false_and,and_false,if_false,List.replicate_one,q5,q6];refine⟨k,by rw[show A.length-1=i by omega];rfl,by simp[zav,zar,zae],fun j _ hj=>by simp[zav,zar,zae,hj],.inl rfl⟩
 ·have hd:(A.drop (i+1)).isEmpty=false:=by
   cases Ib:A.drop (i+1)with
   | nil=>have:=congrArg List.length Ib;rw[List.length_drop]at this;simp at this;omega
   | cons _ _=>rfl
  rw[hd];simp only[zG,if_false,hk,and_self,if_true,zbz];have hm:(A.take i).length+(A.drop (i+1)).length=A.length-1:=by rw[s4,List.length_drop];omega
  have q3: ¬(A.length:Int)<=((A.length-1:Nat):Int):=by omega
  have hR:zxY (A.take i) (A.drop (i+1)) A=A.eraseIdx i++A.drop (A.length-1):=by
   unfold zxY;rw[hm,if_neg (by omega),List.eraseIdx_eq_take_drop_succ]
  have NF:(A.eraseIdx i++A.drop (A.length-1)).length=A.length:=by
   rw[zM,List.length_eraseIdx_of_lt hi,List.length_drop];omega
  rw[hm,hR]
  have q4: ∀(h:Nat->Option O) q,zfB (updC h q (some (O.rows 2 (A.eraseIdx i++A.drop (A.length-1)) false))) 2 ((A.length-1:Nat):Int) (A.length:Int) (.ms q 0 (A.length-1))=some (.ms q (A.length-1) 1):=by
   intro h q;simp only[zfB,zae,if_true];rw[if_pos ⟨trivial,by omega,by omega,by rw[NF];omega⟩];simp only[Int.toNat_natCast,Nat.zero_add]
   congr 1;congr 1;omega
  have e1:(A.eraseIdx i).length=A.length-1:=List.length_eraseIdx_of_lt hi
  have q5:(A.eraseIdx i++A.drop (A.length-1)).take (A.length-1)++[[V.t T.nils,V.t T.nils]]++(A.eraseIdx i++A.drop (A.length-1)).drop (A.length-1+1)=A.eraseIdx i++[[.t .nils,.t .nils]]:=by
   rw[List.take_append_of_le_length (by omega),List.take_of_length_le (by omega),List.drop_of_length_le (by rw[NF];omega),List.append_nil]
  have q6:A.length-1+1<=(A.eraseIdx i++A.drop (A.length-1)).length:=by rw[NF];omega
  simp -dsimp only[go_sem,seval,q3,q4,false_and,and_false,if_false,List.replicate_one,q5,q6];refine⟨_,rfl,by simp[zav,zar,zae],fun j hj A8=> ?_,.inr (by omega)⟩;have KQ:j≠nx+1+6+3+3+6:=by omega
  rw[zav,zar,zav,zav,zar,zae,if_neg KQ,zae,if_neg KQ,zae,if_neg A8]
theorem zbt {h:Nat->Option O} {d:Nat}: ∀(vs:List (List V)) (bs:List (List Entry)),vs.length=bs.length->(∀(j:Nat) (b:List Entry),bs[j]? =some b-> ∃v,vs[j]? =some [v]/\toT h d v=some (.sl (b.map Entry.enc)))->
 vs.mapM (fun row=>row.mapM (toT h d))=some (bs.map fun b=>[.sl (b.map Entry.enc)])
 | [],[],_,_=>rfl
 | [],_::_,hl,_=>by simp at hl
 | _::_,[],hl,_=>by simp at hl
 | r::vs,b::bs,hl,hj=>by
   have ih:=zbt vs bs (by simpa using hl) fun j e he=>hj (j+1) e he
   obtain⟨v,hr,ht⟩:=hj 0 b rfl;simp only[List.getElem?_cons_zero,zA]at hr;subst hr;rw[List.mapM_cons,List.mapM_cons,ht,List.mapM_nil,ih];rfl
theorem zj6 (p:Prog) (hf:zw6 p=true) (k:Int) (c:Config) (hc:IsB p c) (t:Nat) (ht:t<p.threads.length) (i:Nat) (e:Entry) (he:(zxq c t)[i]? =some e):
 Den Γ G 191 [stV p k c,vi t,vi i]=some (.agg [.t (ints (zxr c t i).mem),.t (ints (zxr c t i).at_),.t (.sl ((zxr c t i).buf.map (fun b=>[.sl (b.map Entry.enc)])))]):=by
 obtain⟨⟨m1,m2,m3,m4⟩,_⟩:=zw8 (zw9 hf).1;have l1:=hc.lm;have l2:=hc.la;have l3:=hc.lb;have Ae:=zx4 (c:=c) (t:=t) (by omega);obtain⟨b1,b2,_⟩:=hc.buf t _ Ae;have BL:=(zH.1 he).1;have Cu:=b2 e (zL he);have Cr:=zaW Cu;unfold stV
 (refine zw3 Γ191 rfl ?_;dsimp only[f191])
 simp -dsimp only[go_sem,seval];refine zas (zzQ p hf c hc _) ?_;rintro r h' n' ⟨vM,vA,kB,rfl,x1,x2,bd,vs,hM,hA,CQ,Be,Ba,hB,Az,Id⟩;obtain⟨Bi,AW⟩:=hA.val;have Qr:=hA;obtain⟨v,hv,rows,B1,AZ,BI,Bp⟩:=Az.at_ t _ Ae;have NT:=Az.le (q:=0) (r:=t) (by omega) (by omega);have NS:=Az.le (q:=t+1) (r:=c.buf.length) (by omega) (Nat.le_refl _);obtain⟨r,hr,kc,kv,rfl,a1,a2,a3,a4,a5,a6⟩:=Bp i e he;rcases B1 with⟨_,h0⟩ | ⟨kb,rfl,b3,b4,b5⟩
 ·exfalso;rw[h0]at hr;simp at hr
 rcases hM with⟨_,h0⟩ | ⟨kM,rfl,m5,m6,m7⟩
 ·exfalso;have h1:=congrArg List.length h0;rw[zw2]at h1;have:=zyw Cu (zz3 Cu);simp at h1;rw[h1]at l1;simp at l1;omega
 unfold V.cells at AW;have i0:(0:Int)<=(i:Int):=by omega
 have i1:(i:Int)<(rows.length:Int):=by omega
 have t0:(0:Int)<=(t:Int):=by omega
 have t1:(t:Int)<(c.buf.length:Int):=by omega
 have hw:=zag i (by omega);simp -dsimp only[go_sem,seval,Bi,AW,hB,hv,t0,t1,i0,i1,b5,hr];rw[zw2];refine zas (zBG c.mem e Cu.len (by omega) (fun n hn=>by have:=zyw Cu hn;omega) _ _ kM kc kv (by simp -dsimp only[go_sem,seval,m7]) (by simp -dsimp only[go_sem,seval,a5]) (by simp -dsimp only[go_sem,seval,a6]) (by omega) (by omega)) ?_;rintro r2 h2 n2 ⟨rfl,g1,g2,g3⟩;have H1:=g2 kB (by omega);rw[hB]at H1;have b52:=g2 kb (by omega);rw[b5]at b52;simp -dsimp only[go_sem,seval,Bi,AW,H1,hv,t0,t1,i0,i1,b52,hw];refine zas (zBV rows BI (by omega) i (by omega) h2 _ kb b52 (by omega)) ?_;rintro r3 h3 n3 ⟨kd,rfl,d1,d2,d3⟩;have OB:=d2 kB (by omega) (by omega);rw[H1]at OB;have E9:kd≠kB:=by omega
 have JB:vs[t]? =some [.ms kb 0 rows.length]:=hv;simp -dsimp only[go_sem,seval,Bi,AW,OB,hv,t0,t1];have hC:zxr c t i=⟨zz2 c.mem e,c.at_,c.buf.set t ((zxq c t).eraseIdx i)⟩:=by simp only[zxr,he]
 have AK: ∀(o:Option O) q,q<n'->q≠kB->q≠kM->q≠kb->updC h3 kB o q=h' q:=fun o q q1 q2 q3 q4=>by
  rw[zae,if_neg q2,d2 q (by omega) q4,g2 q q3]
 have f0: ¬kM=kB:=by omega
 have f1:h3 kM=some (.rows 1 (zw5 (zz2 c.mem e)) false):=by rw[d2 kM (by omega) (by omega)];exact g1
 have f2:(zw5 (zz2 c.mem e)).length=c.mem.length:=by rw[zw2,zgh]
 have f3:List.take c.mem.length (zw5 (zz2 c.mem e))=zw5 (zz2 c.mem e):=zaC f2.symm
 have f4: ∀o:Option O,toT (updC h3 kB o) 1000 vA=some (ints c.at_):=fun o=>
  (hA.keep fun q q1 q2=>AK o q (by omega) (by omega) (by omega) (by omega)).tree 999
 have f5: ∀v,(vs.set t [v]).length=c.buf.length:=fun v=>by rw[List.length_set];exact Az.len
 have f6: ∀v,List.take c.buf.length (vs.set t [v])=vs.set t [v]:=fun v=>zaC (f5 v).symm
 have f7: ∀o:Option O,(vs.set t [V.ms kd 0 (rows.length-1)]).mapM (fun row=>row.mapM (toT (updC h3 kB o) 999))=some ((c.buf.set t ((zxq c t).eraseIdx i)).map fun b=>[.sl (b.map Entry.enc)]):=by
  intro o;refine zbt _ _ (by rw[f5,List.length_set]) fun j b hb=> ?_
  rw[List.getElem?_set]at hb
  by_cases hj:t=j
  ·subst hj;rw[if_pos rfl,if_pos (by omega)]at hb;simp only[zA]at hb;subst hb;refine⟨_,by rw[List.getElem?_set,if_pos rfl,if_pos (by have:=Az.len;omega)],?_⟩;have hd:updC h3 kB o kd=some (.rows 2 (rows.eraseIdx i++[[.t .nils,.t .nils]]) false):=by rw[zae,if_neg E9];exact d1
   have e1:(rows.eraseIdx i).length=rows.length-1:=List.length_eraseIdx_of_lt (by omega);have e2:rows.length-1<=(rows.eraseIdx i++[[V.t T.nils,V.t T.nils]]).length:=by rw[zM,e1];omega
   have e3:List.take (rows.length-1) (rows.eraseIdx i++[[V.t T.nils,V.t T.nils]])=rows.eraseIdx i:=by
    rw[List.take_append_of_le_length (by omega),List.take_of_length_le (by omega)]
   have e4:=zdY (h:=updC h3 kB o) (d:=998) (rows.eraseIdx i) ((zxq c t).eraseIdx i) (by rw[e1,List.length_eraseIdx_of_lt BL,AZ]) fun q e0 hq=>by
    rw[List.getElem?_eraseIdx]at hq⊢
    have key: ∀q',(zxq c t)[q']? =some e0-> ∃r:List V,rows[q']? =some r/\r.mapM (toT (updC h3 kB o) 998)=some (Entry.enc e0):=fun q' Eo=>by
     obtain⟨r,hr,hE⟩:=Bp q' e0 Eo;exact⟨r,hr,(hE.keep (Nat.le_refl _) (Nat.le_refl _) fun z z1 z2 z3=>AK o z (by omega) (by omega) (by omega) (by rintro rfl;exact z3 _ _ b5)).tree 997⟩
    split at hq
    ·rename_i h1;rw[if_pos h1];exact key _ hq
    ·rename_i h1;rw[if_neg h1];exact key _ hq
   simp only[toT,hd,rd,Nat.zero_add,e2,if_true,List.drop_zero,e3,zC,zD,e4]
  ·rw[if_neg hj]at hb;obtain⟨u,hu,J0⟩:=Az.at_ j b hb;have Bz:=(zH.1 hb).1;refine⟨u,by rw[List.getElem?_set,if_neg hj];exact hu,?_⟩;refine(J0.keep (Nat.le_refl _) fun q q1 q2=> ?_).tree 997;have u1:=Az.le (q:=0) (r:=j) (by omega) (by omega);have u2:=Az.le (q:=j+1) (r:=c.buf.length) (by omega) (Nat.le_refl _);refine AK o q (by omega) (by omega) (by omega) ?_;rintro rfl;rcases Nat.lt_or_ge j t with h1 | h1
   ·have:=Az.le (q:=j+1) (r:=t) (by omega) (by omega);omega
   ·have:=Az.le (q:=t+1) (r:=j) (by omega) (by omega);omega
 rw[hC];simp -dsimp only[go_sem,seval,f0,f1,f2,f3,f4,f5,f6,f7,zaL,Nat.le_refl]
theorem zeK {p:Prog} {set:List Assign} (h:SetOk p set):set.length<=p.cells.length:=by
 have h1:=zdI p.cells.length (set.map Assign.cell) (by
  rw[List.nodup_iff_pairwise_ne,List.pairwise_iff_getElem];intro i j hi hj At he;simp only[List.length_map]at hi hj;simp only[List.getElem_map]at he;have:=h.dif i j _ _ (zI hi) (zI hj) he
  omega) (fun x hx=>by
  obtain⟨a,ha,rfl⟩:=List.mem_map.1 hx;have:=(h.rng a ha).1;simp only[inR,decide_eq_true_eq]at this
  exact this)
 simpa using h1
theorem zlD (p:Prog) (hf:zw6 p=true) (k:Int) (c:Config) (hc:IsB p c) (t:Nat) (x:Thread) (hx:p.threads[t]? =some x) (i:Nat) (s:Step) (hs:x.steps[i]? =some s) (y:Choice) (hy:y=⟨t,i,0⟩) (BD:s.kind≠3):
 Den Γ G 192 [stV p k c,(.agg [.t (ti (y).thread),.t (ti (y).step),.t (ti (y).cell)]),.t (ints (zxd c t))]=some (.agg [.t (ints (zyO p c t s).mem),.t (ints (zyO p c t s).at_),.t (.sl ((zyO p c t s).buf.map (fun b=>[.sl (b.map Entry.enc)])))]):=by
 subst hy;obtain⟨⟨m1,m2,m3,m4⟩,_⟩:=zw8 (zw9 hf).1;have l1:=hc.lm;have l2:=hc.la;have l3:=hc.lb;have Bg:=za4 hf hx hs;have ht:t<p.threads.length:=(zH.1 hx).1;have E2:=zeK Bg.set
 have Bh: ∀a∈s.set,0<=a.cell/\a.cell<c.mem.length:=fun a ha=>by
  have:=(Bg.rng.2 a ha).1;simp only[inR,decide_eq_true_eq]at this;omega
 unfold stV
 (refine zw3 Γ192 rfl ?_;dsimp only[f192])
 simp -dsimp only[go_sem,seval];refine zas (zzQ p hf c hc _) ?_;rintro r h' n' ⟨vM,vA,kB,rfl,x1,x2,bd,vs,hM,hA,CQ,Be,Ba,hB,Az,Id⟩;obtain⟨Bi,AW⟩:=hM.val;rcases hA with⟨_,h0⟩ | ⟨kA,rfl,a1,a2,a3⟩
 ·exfalso;have h1:=congrArg List.length h0;rw[zw2]at h1;simp at h1;rw[h1]at l2;simp at l2;omega
 unfold V.cells at AW;simp -dsimp only[go_sem,seval,Bi,AW,hx,hs]
 refine zap 18889465931476433377792 s.set.length (fun j f h z=>(f 31).v=vi j/\ziH h 0 x1 vM (zw5 (zxh c.mem (zxd c t) (s.set.take j)))/\(∀q,x1<=q->h q=h' q)/\n'<=z) rfl
  ⟨by simp -dsimp only[go_sem,seval],hM,fun _ _=>rfl,by simp -dsimp only[go_sem,seval];omega⟩ ?_
 rintro j f u H z bs hj ⟨Et,Fo,AE,hz⟩;have hw:=zag j (by omega);simp -dsimp only[go_sem,seval,Et];refine zw1 (fun h=> ?_) (fun h=> ?_)<;>(try rw[h])<;>(try simp only[zab]at h)<;>(try simp -dsimp only[go_sem,seval,Et])
 ·obtain⟨a,ha,Cn⟩:=zad ‹j<s.set.length›;obtain⟨c0,c1⟩:=Bh a Cn;have Aj:=zbT a.to (zxd c t) (zxd c t);have Ac:(zxh c.mem (zxd c t) (s.set.take j)).length=c.mem.length:=zaS (zxd c t) _ c.mem;rcases Fo with⟨_,h0⟩ | ⟨kM,rfl,m5,m6,m7⟩
  ·exfalso;have h1:=congrArg List.length h0;rw[zw2,Ac]at h1;simp at h1;rw[h1]at c1;simp at c1;omega
  have Bn:=zaE (l:=zxh c.mem (zxd c t) (s.set.take j)) (i:=a.cell.toNat) (by omega);have AA:=zaD (zxh c.mem (zxd c t) (s.set.take j)) a.cell.toNat (a.to.eval (zxd c t) (zxd c t));rw[<- zdS ha]at AA;have C1:(zw5 (zxh c.mem (zxd c t) (s.set.take j))).length=c.mem.length:=by rw[zw2,Ac]
  have Ep:(zw5 (zxh c.mem (zxd c t) (s.set.take (j+1)))).length=c.mem.length:=by rw[zw2,zaS]
  simp -dsimp only[go_sem,seval,Et,ha,Aj,BD,C1,c0,c1,m7,Bn,AA];refine⟨by omega,by simp -dsimp only[go_sem,seval,hw],.inr ⟨kM,by rw[Ep,C1],m5,m6,by simp -dsimp only[go_sem,seval]⟩,?_,by simp -dsimp only[go_sem,seval];omega⟩;intro q hq;have Pb:q≠kM:=by omega
  simp -dsimp only[go_sem,seval,Pb];exact AE q hq
 ·have:j=s.set.length:=by omega
  subst this;rw[List.take_length]at Fo;have g1:H kA=some (.rows 1 (zw5 c.at_) false):=by rw[AE kA a1];exact a3
  have g2:H kB=some (.rows 1 vs false):=by rw[AE kB (by omega)];exact hB
  have Bn:=zaE (l:=c.at_) (i:=t) (by omega);have AA:=zaD c.at_ t s.to;have Af:(t:Int)<(c.at_.length:Int):=by omega
  have t0:(0:Int)<=(t:Int):=by omega
  have J2:kA≠kB:=by omega
  have GC:kB≠kA:=by omega
  have fM: ∀o,toT (updC H kA o) 1000 vM=some (ints (zxh c.mem (zxd c t) s.set)):=fun o=>
   (Fo.keep fun q q1 q2=>by rw[zae,if_neg (by omega)]).tree 999
  have f5:vs.length=c.buf.length:=Az.len;have f6:List.take c.buf.length vs=vs:=zaC f5.symm
  have f7: ∀o:Option O,vs.mapM (fun row=>row.mapM (toT (updC H kA o) 999))=some (c.buf.map fun b=>[.sl (b.map Entry.enc)]):=fun o=>
   zbt _ _ f5 fun q b hq=>by
    obtain⟨u,hu,NL⟩:=Az.at_ q b hq;have FQ:=(zH.1 hq).1;have u1:=Az.le (q:=0) (r:=q) (by omega) (by omega);exact⟨u,hu,(NL.keep (Nat.le_refl _) fun z z1 z2=>by rw[zae,if_neg (by omega),AE z (by omega)]).tree 997⟩
  simp -dsimp only[go_sem,seval,BD,Bi,AW,g1,Bn,Af,t0,AA,zw2]
  by_cases hk:s.kind=6
  ·obtain⟨hr,_⟩:=Bg.tgt (.inl hk);simp only[inR,decide_eq_true_eq]at hr;have q1:s.target<(c.at_.length:Int):=by omega
   have q2:=hr.1;have Gq:=zaE (l:=c.at_.set t s.to) (i:=s.target.toNat) (by simp;omega);have E0:=zaD (c.at_.set t s.to) s.target.toNat 0;have f2:(zw5 ((c.at_.set t s.to).set s.target.toNat 0)).length=c.at_.length:=by rw[zw2];simp
   have f3:List.take c.at_.length (zw5 ((c.at_.set t s.to).set s.target.toNat 0))=zw5 ((c.at_.set t s.to).set s.target.toNat 0):=zaC f2.symm;have hE:zyO p c t s=⟨zxh c.mem (zxd c t) s.set,(c.at_.set t s.to).set s.target.toNat 0,c.buf⟩:=by simp only[zyO,if_neg BD,if_pos hk]
   rw[hE];simp -dsimp only[go_sem,seval,hk,Bi,AW,q1,q2,Gq,E0,zw2,List.length_set,GC,g2,zdy,fM,f3,f5,f6,f7,zaL,Nat.le_refl]
  ·have f2:(zw5 (c.at_.set t s.to)).length=c.at_.length:=by rw[zw2];simp
   have f3:List.take c.at_.length (zw5 (c.at_.set t s.to))=zw5 (c.at_.set t s.to):=zaC f2.symm;have hE:zyO p c t s=⟨zxh c.mem (zxd c t) s.set,c.at_.set t s.to,c.buf⟩:=by simp only[zyO,if_neg BD,if_neg hk]
   rw[hE];simp -dsimp only[go_sem,seval,hk,Bi,AW,zw2,List.length_set,GC,g2,fM,f3,f5,f6,f7,zaL,Nat.le_refl]
def ztu (h:Nat->Option O) (lo z:Nat) (vc vv:V) (cs ws:List Int):Prop:=
 (vc= .t .nils/\vv= .t .nils/\cs=[]/\ws=[])\/ ∃kc kv,vc= .ms kc 0 (zw5 cs).length/\vv= .ms kv 0 (zw5 ws).length/\lo<=kc/\kc<z/\lo<=kv/\kv<z/\kc≠kv/\h kc=some (.rows 1 (zw5 cs) false)/\h kv=some (.rows 1 (zw5 ws) false)
theorem zlC (p:Prog) (hf:zw6 p=true) (k:Int) (c:Config) (hc:IsB p c) (t:Nat) (x:Thread) (hx:p.threads[t]? =some x) (i:Nat) (s:Step) (hs:x.steps[i]? =some s) (y:Choice) (hy:y=⟨t,i,0⟩) (BD:s.kind=3):
 Den Γ G 192 [stV p k c,(.agg [.t (ti (y).thread),.t (ti (y).step),.t (ti (y).cell)]),.t (ints (zxd c t))]=some (.agg [.t (ints (zyO p c t s).mem),.t (ints (zyO p c t s).at_),.t (.sl ((zyO p c t s).buf.map (fun b=>[.sl (b.map Entry.enc)])))]):=by
 subst hy;obtain⟨⟨m1,m2,m3,m4⟩,_⟩:=zw8 (zw9 hf).1;have l1:=hc.lm;have l2:=hc.la;have l3:=hc.lb;have Bg:=za4 hf hx hs;have ht:t<p.threads.length:=(zH.1 hx).1;have E2:=zeK Bg.set
 have Bh: ∀a∈s.set,0<=a.cell/\a.cell<c.mem.length:=fun a ha=>by
  have:=(Bg.rng.2 a ha).1;simp only[inR,decide_eq_true_eq]at this;omega
 unfold stV
 (refine zw3 Γ192 rfl ?_;dsimp only[f192])
 simp -dsimp only[go_sem,seval];refine zas (zzQ p hf c hc _) ?_;rintro r h' n' ⟨vM,vA,kB,rfl,x1,x2,bd,vs,hM,hA,CQ,Be,Ba,hB,Az,Id⟩;obtain⟨Bi,AW⟩:=hM.val;rcases hA with⟨_,h0⟩ | ⟨kA,rfl,a1,a2,a3⟩
 ·exfalso;have h1:=congrArg List.length h0;rw[zw2]at h1;simp at h1;rw[h1]at l2;simp at l2;omega
 unfold V.cells at AW;have LZ:=Az.le (q:=0) (r:=c.buf.length) (by omega) (Nat.le_refl _);simp -dsimp only[go_sem,seval,Bi,AW,hx,hs]
 refine zap 18889465931476433377792 s.set.length (fun j f h z=>(f 31).v=vi j/\(f 9).v= .lb/\ ∃vc vv,(f 9).box=some [vc,vv]/\ztu h n' z vc vv (((s.set.take j).filter (zw7 p)).map Assign.cell) (((s.set.take j).filter (zw7 p)).map fun a=>a.to.eval (zxd c t) (zxd c t))/\
  ziH h 0 x1 vM (zw5 (zxh c.mem (zxd c t) ((s.set.take j).filter fun a=> !zw7 p a)))/\(∀q,x1<=q->q<n'->h q=h' q)/\n'<=z) rfl
  ⟨by simp -dsimp only[go_sem,seval],by simp -dsimp only[go_sem,seval],.t .nils,.t .nils,by simp -dsimp only[go_sem,seval],.inl ⟨rfl,rfl,rfl,rfl⟩,hM,fun _ _ _=>rfl,by simp -dsimp only[go_sem,seval];omega⟩ ?_
 rintro j f u H z bs hj ⟨Et,h9,vc,vv,F3,D4,Fo,AE,hz⟩;have hw:=zag j (by omega);simp -dsimp only[go_sem,seval,Et];refine zw1 (fun h=> ?_) (fun h=> ?_)<;>(try rw[h])<;>(try simp only[zab]at h)<;>(try simp -dsimp only[go_sem,seval,Et])
 ·obtain⟨a,ha,Cn⟩:=zad ‹j<s.set.length›;obtain⟨c0,c1⟩:=Bh a Cn;obtain⟨y,hy,_⟩:=Bg.wid a Cn;have Aj:=zbT a.to (zxd c t) (zxd c t);have Bo:zw7 p a=decide (y.thread= -1):=by rw[zw7,zau hy]
  by_cases FJ:y.thread= -1
  ·have EP:zw7 p a=true:=by rw[Bo];simpa using FJ
   have F5:Rg.valOf vc=some vc:=by rcases D4 with⟨rfl,_⟩ | ⟨_,_,rfl,_⟩<;>rfl
   have Bs:Rg.valOf vv=some vv:=by rcases D4 with⟨_,rfl,_⟩ | ⟨_,_,_,rfl,_⟩<;>rfl
   generalize AU:((s.set.take j).filter (zw7 p)).map Assign.cell=cs at *
   generalize Fb:(((s.set.take j).filter (zw7 p)).map fun a=>a.to.eval (zxd c t) (zxd c t))=ws at *
   have Ci:cs.length<=32:=by
    rw[<- AU,List.length_map];have:=List.length_filter_le (zw7 p) (s.set.take j);rw[List.length_take]at this;omega
   have GZ:ws.length<=32:=by
    rw[<- Fb,List.length_map];have:=List.length_filter_le (zw7 p) (s.set.take j);rw[List.length_take]at this;omega
   have FZ: ∀q,(q<n'\/z<=q)->zdc vc q:=fun q hq=>by
    rcases D4 with⟨rfl,_⟩ | ⟨kc,kv,rfl,_,e1,e2,_⟩
    ·intro i n h0;cases h0
    ·exact zyp (by omega) _ _
   have B4: ∀q,(q<n'\/z<=q)->zdc vv q:=fun q hq=>by
    rcases D4 with⟨_,rfl,_⟩ | ⟨kc,kv,_,rfl,_,_,e1,e2,_⟩
    ·intro i n h0;cases h0
    ·exact zyp (by omega) _ _
   have K6:za0 (updC H (z+1+4+6+14+4) (some (O.rows 1 [[V.t (ti a.cell)]] false))) (z+1+4+6+14+5) vc 1 (zw5 cs):=by
    rcases D4 with⟨rfl,_,rfl,_⟩ | ⟨kc,kv,rfl,_,e1,e2,e3,e4,e5,e6,e7⟩
    ·exact .inl ⟨rfl,rfl⟩
    ·exact .inr ⟨kc,rfl,by omega,by rw[zae,if_neg (by omega)];exact e6⟩
   have HI:=K6.rowsS;simp -dsimp only[go_sem,seval,Et,h9,F3,ha,Aj,BD,c0,hy,FJ,F5,HI];refine zaM K6 (Nat.le_refl _) (by rw[zw2];omega) (by decide) rfl (zxw _) ?_;intro v1 Fk NJ IC IR;rcases NJ with⟨_,CL⟩ | ⟨k1,rfl,Na,Ja⟩
   ·simp at CL
   have MZ:z+1+4+6+14+5<=k1:=by
    rcases Nat.lt_or_ge k1 (z+1+4+6+14+5)with h1 | h1
    ·exact absurd rfl (IC k1 h1 0 _)
    ·exact h1
   have FV: ∀q,q<z->zdc vc q->Ax (updC H (z+1+4+6+14+4) (some (O.rows 1 [[V.t (ti a.cell)]] false))) Fk q=H q:=fun q q1 q2=>by
    rw[IR q (by omega) q2,zae,if_neg (by omega)]
   have Gb:za0 (updC (Ax (updC H (z+1+4+6+14+4) (some (O.rows 1 [[V.t (ti a.cell)]] false))) Fk) (z+1+4+6+14+8+3) (some (O.rows 1 [[V.t (T.int IntKind.i64 (a.to.eval (zxd c t) (zxd c t)))]] false))) (z+1+4+6+14+8+4) vv 1 (zw5 ws):=by
    rcases D4 with⟨_,rfl,_,rfl⟩ | ⟨kc,kv,rfl,rfl,e1,e2,e3,e4,e5,e6,e7⟩
    ·exact .inl ⟨rfl,rfl⟩
    ·exact .inr ⟨kv,rfl,by omega,by rw[zae,if_neg (by omega),FV kv e4 (zyp (by omega) _ _)];exact e7⟩
   have En:=Gb.rowsS;simp -dsimp only[go_sem,seval,Et,h9,F3,Bs,En];refine zaM Gb (Nat.le_refl _) (by rw[zw2];omega) (by decide) rfl (zxw _) ?_;intro v2 E6 Jz IB Gj;rcases Jz with⟨_,CL⟩ | ⟨k2,rfl,IZ,CH⟩
   ·simp at CL
   have Gm:z+1+4+6+14+8+4<=k2:=by
    rcases Nat.lt_or_ge k2 (z+1+4+6+14+8+4)with h1 | h1
    ·exact absurd rfl (IB k2 h1 0 _)
    ·exact h1
   have FU: ∀q,q<n'->Ax (updC (Ax (updC H (z+1+4+6+14+4) (some (O.rows 1 [[V.t (ti a.cell)]] false))) Fk) (z+1+4+6+14+8+3) (some (O.rows 1 [[V.t (T.int IntKind.i64 (a.to.eval (zxd c t) (zxd c t)))]] false))) E6 q=H q:=fun q hq=>by
    rw[Gj q (by omega) (B4 q (.inl hq)),zae,if_neg (by omega),FV q (by omega) (FZ q (.inl hq))]
   have Jb:Ax (updC (Ax (updC H (z+1+4+6+14+4) (some (O.rows 1 [[V.t (ti a.cell)]] false))) Fk) (z+1+4+6+14+8+3) (some (O.rows 1 [[V.t (T.int IntKind.i64 (a.to.eval (zxd c t) (zxd c t)))]] false))) E6 k1=some (.rows 1 (zw5 cs++[[V.t (ti a.cell)]]) false):=by
    rw[Gj k1 (by omega) (B4 k1 (.inr (by omega))),zae,if_neg (by omega)];exact Ja
   have CJ:(s.set.take (j+1)).filter (zw7 p)=(s.set.take j).filter (zw7 p)++[a]:=by
    rw[zac ha,List.filter_append];simp[EP]
   have Au:((s.set.take (j+1)).filter fun a=> !zw7 p a)=(s.set.take j).filter fun a=> !zw7 p a:=by
    rw[zac ha,List.filter_append];simp[EP]
   simp -dsimp only[go_sem,seval,Et,h9];refine⟨by omega,by simp -dsimp only[go_sem,seval,hw],by simp -dsimp only[go_sem,seval,h9],.ms k1 0 (zw5 cs++[[V.t (ti a.cell)]]).length,.ms k2 0 (zw5 ws++[[V.t (T.int IntKind.i64 (a.to.eval (zxd c t) (zxd c t)))]]).length,by simp -dsimp only[go_sem,seval,F3],?_,?_,?_,by simp -dsimp only[go_sem,seval];omega⟩
   ·rw[CJ,List.map_append,List.map_append,AU,Fb];refine .inr ⟨k1,k2,by rw[<- zaV];rfl,by rw[<- zaV];rfl,by omega,by simp -dsimp only[go_sem,seval];omega,by omega,by simp -dsimp only[go_sem,seval];omega,by omega,?_,?_⟩
    ·simp -dsimp only[go_sem,seval];rw[Jb,<- zaV]
    ·simp -dsimp only[go_sem,seval];rw[CH,<- zaV]
   ·rw[Au];exact Fo.keep fun q q1 q2=>by simp -dsimp only[go_sem,seval];exact FU q (by omega)
   ·intro q q1 q2;simp -dsimp only[go_sem,seval];rw[FU q q2];exact AE q q1 q2
  ·have EP:zw7 p a=false:=by rw[Bo];simpa using FJ
   have Ac:(zxh c.mem (zxd c t) ((s.set.take j).filter fun a=> !zw7 p a)).length=c.mem.length:=zaS (zxd c t) _ c.mem
   have CJ:(s.set.take (j+1)).filter (zw7 p)=(s.set.take j).filter (zw7 p):=by
    rw[zac ha,List.filter_append];simp[EP]
   have Au:((s.set.take (j+1)).filter fun a=> !zw7 p a)=((s.set.take j).filter fun a=> !zw7 p a)++[a]:=by
    rw[zac ha,List.filter_append];simp[EP]
   rcases Fo with⟨_,h0⟩ | ⟨kM,rfl,m5,m6,m7⟩
   ·exfalso;have h1:=congrArg List.length h0;rw[zw2,Ac]at h1;simp at h1;rw[h1]at c1;simp at c1;omega
   have Bn:=zaE (l:=zxh c.mem (zxd c t) ((s.set.take j).filter fun a=> !zw7 p a)) (i:=a.cell.toNat) (by omega);have AA:=zaD (zxh c.mem (zxd c t) ((s.set.take j).filter fun a=> !zw7 p a)) a.cell.toNat (a.to.eval (zxd c t) (zxd c t))
   have Fb:zxh c.mem (zxd c t) (((s.set.take j).filter fun a=> !zw7 p a)++[a])=(zxh c.mem (zxd c t) ((s.set.take j).filter fun a=> !zw7 p a)).set a.cell.toNat (a.to.eval (zxd c t) (zxd c t)):=by
    unfold zxh;rw[List.foldl_append];rfl
   rw[<- Fb]at AA;have C1:(zw5 (zxh c.mem (zxd c t) ((s.set.take j).filter fun a=> !zw7 p a))).length=c.mem.length:=by rw[zw2,Ac]
   have Ep:(zw5 (zxh c.mem (zxd c t) (((s.set.take j).filter fun a=> !zw7 p a)++[a]))).length=c.mem.length:=by rw[zw2,zaS]
   simp -dsimp only[go_sem,seval,Et,h9,ha,Aj,BD,hy,FJ,C1,c0,c1,m7,Bn,AA];refine⟨by omega,by simp -dsimp only[go_sem,seval,hw],by simp -dsimp only[go_sem,seval,h9],vc,vv,by simp -dsimp only[go_sem,seval,F3],?_,?_,?_,by simp -dsimp only[go_sem,seval];omega⟩
   ·rw[CJ];rcases D4 with h1 | ⟨kc,kv,e0,e0',e1,e2,e3,e4,e5,e6,e7⟩
    ·exact .inl h1
    ·have u1:kc≠kM:=by omega
     have u2:kv≠kM:=by omega
     exact .inr ⟨kc,kv,e0,e0',e1,by simp -dsimp only[go_sem,seval];omega,e3,by simp -dsimp only[go_sem,seval];omega,e5,by simp -dsimp only[go_sem,seval,u1,e6],by simp -dsimp only[go_sem,seval,u2,e7]⟩
   ·rw[Au];exact .inr ⟨kM,by rw[Ep,C1],m5,m6,by simp -dsimp only[go_sem,seval]⟩
   ·intro q q1 q2;have u1:q≠kM:=by omega
    simp -dsimp only[go_sem,seval,u1];exact AE q q1 q2
 ·have KO:j=s.set.length:=by omega
  subst KO;rw[List.take_length]at Fo D4;have FS:=zcP Bg BD (zxd c t);rcases D4 with⟨_,_,h1,_⟩ | ⟨kc,kv,rfl,rfl,e1,e2,e3,e4,e5,e6,e7⟩
  ·exact absurd h1 FS.ne
  have g1:H kA=some (.rows 1 (zw5 c.at_) false):=by rw[AE kA a1 (by omega)];exact a3
  have g2:H kB=some (.rows 1 vs false):=by rw[AE kB (by omega) (by omega)];exact hB
  have Ae:=zx4 (c:=c) (t:=t) (by omega);obtain⟨v,hv,EH⟩:=Az.at_ t _ Ae;have NT:=Az.le (q:=0) (r:=t) (by omega) (by omega);have NS:=Az.le (q:=t+1) (r:=c.buf.length) (by omega) (Nat.le_refl _);have PV:=Az.mono t (by omega);obtain⟨Bs,_⟩:=EH.val;obtain⟨rows,B1,AZ,BI,Bp⟩:=EH;have t0:(0:Int)<=(t:Int):=by omega
  have t1:(t:Int)<(c.buf.length:Int):=by omega
  generalize CW:(zw5 (List.map Assign.cell (List.filter (zw7 p) s.set))).length=nc at *
  generalize K8:(zw5 (List.map (fun a=>a.to.eval (zxd c t) (zxd c t)) (List.filter (zw7 p) s.set))).length=nv at *
  have B5: ∀q,(q<bd t\/bd (t+1)<=q\/ ∀rs fz,h' q≠some (O.rows 2 rs fz))->zdc v q:=fun q hq=>by
   rcases B1 with⟨rfl,_⟩ | ⟨kb,rfl,d1,d2,d3⟩
   ·intro i n h0;cases h0
   ·refine zyp ?_ _ _;rintro rfl;rcases hq with h | h | h
    ·omega
    ·omega
    ·exact h _ _ d3
  have Gb:za0 (updC H (z+1+3+11) (some (O.rows 2 [[V.ms kc 0 nc,V.ms kv 0 nv]] false))) (z+1+3+12) v 2 rows:=by
   rcases B1 with⟨rfl,h1⟩ | ⟨kb,rfl,d1,d2,d3⟩
   ·exact .inl ⟨rfl,h1⟩
   ·exact .inr ⟨kb,rfl,by omega,by rw[zae,if_neg (by omega),AE kb (by omega) (by omega)];exact d3⟩
  have En:=Gb.rowsS;simp -dsimp only[go_sem,seval,BD,h9,F3,g2,hv,Bs,t0,t1,En];have Aa:(rows.all fun r=>decide (r.length=2))=true:=by simpa using BI
  obtain⟨b1,b2,_⟩:=hc.buf t _ Ae;refine zaM Gb (Nat.le_refl _) (by rw[AZ];omega) (by decide) rfl Aa ?_;intro v2 hp hO MK DX;rcases hO with⟨_,CL⟩ | ⟨k2,rfl,IZ,CH⟩
  ·simp at CL
  have Gm:z+1+3+12<=k2:=by
   rcases Nat.lt_or_ge k2 (z+1+3+12)with h1 | h1
   ·exact absurd rfl (MK k2 h1 0 _)
   ·exact h1
  have E4: ∀q,q<z->zdc v q->Ax (updC H (z+1+3+11) (some (O.rows 2 [[V.ms kc 0 nc,V.ms kv 0 nv]] false))) hp q=H q:=fun q q1 q2=>by
   rw[DX q (by omega) q2,zae,if_neg (by omega)]
  have gB:=E4 kB (by omega) (B5 kB (.inl (by omega)));rw[g2]at gB;have gA:=E4 kA (by omega) (B5 kA (.inl (by omega)));rw[g1]at gA;have J2:kA≠kB:=by omega
  have GC:kB≠kA:=by omega
  have Bn:=zaE (l:=c.at_) (i:=t) (by omega);have AA:=zaD c.at_ t s.to;have Af:(t:Int)<(c.at_.length:Int):=by omega
  have k6: ¬s.kind=6:=by omega
  simp -dsimp only[go_sem,seval,BD,h9,F3,gB,hv,t0,t1,J2,gA,Bn,Af,AA,zw2];have hC:zyO p c t s=⟨zxh c.mem (zxd c t) (s.set.filter fun a=> !zw7 p a),c.at_.set t s.to,c.buf.set t (zxq c t++[zzb p (zxd c t) s.set])⟩:=by simp only[zyO,if_pos BD,if_neg k6]
  have Da: ∀(o o':Option O) q,q≠kA->q≠kB->updC (updC (Ax (updC H (z+1+3+11) (some (O.rows 2 [[V.ms kc 0 nc,V.ms kv 0 nv]] false))) hp) kB o) kA o' q=Ax (updC H (z+1+3+11) (some (O.rows 2 [[V.ms kc 0 nc,V.ms kv 0 nv]] false))) hp q:=fun o o' q q1 q2=>by
   rw[zae,if_neg q1,zae,if_neg q2]
  have AK: ∀(o o':Option O) q,x1<=q->q<n'->q≠kA->q≠kB->zdc v q->updC (updC (Ax (updC H (z+1+3+11) (some (O.rows 2 [[V.ms kc 0 nc,V.ms kv 0 nv]] false))) hp) kB o) kA o' q=h' q:=fun o o' q q0 q1 q2 q3 q4=>by
   rw[Da o o' q q2 q3,E4 q (by omega) q4,AE q q0 q1]
  have fM: ∀o o',toT (updC (updC (Ax (updC H (z+1+3+11) (some (O.rows 2 [[V.ms kc 0 nc,V.ms kv 0 nv]] false))) hp) kB o) kA o') 1000 vM=some (ints (zxh c.mem (zxd c t) (s.set.filter fun a=> !zw7 p a))):=fun o o'=>
   (Fo.keep fun q q1 q2=>by rw[Da o o' q (by omega) (by omega),E4 q (by omega) (B5 q (.inl (by omega)))]).tree 999
  have f3:List.take c.at_.length (zw5 (c.at_.set t s.to))=zw5 (c.at_.set t s.to):=zaC (by rw[zw2,List.length_set]);have f5: ∀v,(vs.set t [v]).length=c.buf.length:=fun v=>by rw[List.length_set];exact Az.len
  have f6: ∀v,List.take c.buf.length (vs.set t [v])=vs.set t [v]:=fun v=>zaC (f5 v).symm
  have f7: ∀o o':Option O,(vs.set t [V.ms k2 0 (rows++[[V.ms kc 0 nc,V.ms kv 0 nv]]).length]).mapM (fun row=>row.mapM (toT (updC (updC (Ax (updC H (z+1+3+11) (some (O.rows 2 [[V.ms kc 0 nc,V.ms kv 0 nv]] false))) hp) kB o) kA o') 999))=some ((c.buf.set t (zxq c t++[zzb p (zxd c t) s.set])).map fun b=>[.sl (b.map Entry.enc)]):=by
   intro o o';refine zbt _ _ (by rw[f5,List.length_set]) fun j b hb=> ?_
   rw[List.getElem?_set]at hb
   by_cases hj:t=j
   ·subst hj;rw[if_pos rfl,if_pos (by omega)]at hb;simp only[zA]at hb;subst hb;refine⟨_,by rw[List.getElem?_set,if_pos rfl,if_pos (by have:=Az.len;omega)],?_⟩;refine zhU.tree (lo:=bd t) (hi:=k2+1) ⟨rows++[[V.ms kc 0 nc,V.ms kv 0 nv]],.inr ⟨k2,rfl,by omega,by omega,by rw[Da o o' k2 (by omega) (by omega)];exact CH⟩,by rw[zM,zM,AZ];rfl,?_,fun q e0 hq=> ?_⟩ 997
    ·intro r hr;rcases List.mem_append.1 hr with hr | hr
     ·exact BI r hr
     ·rw[List.mem_singleton]at hr;rw[hr];rfl
    ·rcases Nat.lt_or_ge q (zxq c t).length with h1 | h1
     ·rw[List.getElem?_append_left h1]at hq;obtain⟨r,hr,hE⟩:=Bp q e0 hq;refine⟨r,by rw[List.getElem?_append_left (by omega)];exact hr,hE.keep (Nat.le_refl _) (by omega) fun w w1 w2 w3=> ?_⟩;exact AK o o' w (by omega) (by omega) (by omega) (by omega) (B5 w (.inr (.inr w3)))
     ·have I4:q=(zxq c t).length:=by
       have:=(zH.1 hq).1;rw[zM,List.length_singleton]at this;omega
      subst I4;rw[List.getElem?_append_right (Nat.le_refl _),Nat.sub_self]at hq;simp only[List.getElem?_cons_zero,zA]at hq;subst hq;refine⟨[V.ms kc 0 nc,V.ms kv 0 nv],by rw[List.getElem?_append_right (by omega),AZ,Nat.sub_self];rfl,?_⟩
      have u1: ∀q,n'<=q->q<z->updC (updC (Ax (updC H (z+1+3+11) (some (O.rows 2 [[V.ms kc 0 nc,V.ms kv 0 nv]] false))) hp) kB o) kA o' q=H q:=fun q q1 q2=>by
       rw[Da o o' q (by omega) (by omega),E4 q q2 (B5 q (.inr (.inl (by omega))))]
      rw[zw2]at CW K8;refine⟨kc,kv,by rw[<- CW,<- K8];rfl,by omega,by omega,by omega,by omega,by rw[u1 kc e1 e2];exact e6,by rw[u1 kv e3 e4];exact e7⟩
   ·rw[if_neg hj]at hb;obtain⟨u,hu,J0⟩:=Az.at_ j b hb;have Bz:=(zH.1 hb).1;refine⟨u,by rw[List.getElem?_set,if_neg hj];exact hu,?_⟩;refine(J0.keep (Nat.le_refl _) fun q q1 q2=> ?_).tree 997;have u1:=Az.le (q:=0) (r:=j) (by omega) (by omega);have u2:=Az.le (q:=j+1) (r:=c.buf.length) (by omega) (Nat.le_refl _);refine AK o o' q (by omega) (by omega) (by omega) (by omega) (B5 q ?_);rcases Nat.lt_or_ge j t with h1 | h1
    ·have:=Az.le (q:=j+1) (r:=t) (by omega) (by omega);exact .inl (by omega)
    ·have:=Az.le (q:=t+1) (r:=j) (by omega) (by omega);exact .inr (.inl (by omega))
  rw[hC];simp -dsimp only[go_sem,seval,GC,fM,f3,f5,f6,f7,zw2,List.length_set,zaL,Nat.le_refl]
theorem zlE (p:Prog) (hf:zw6 p=true) (k:Int) (c:Config) (hc:IsB p c) (t:Nat) (x:Thread) (hx:p.threads[t]? =some x) (i:Nat) (s:Step) (hs:x.steps[i]? =some s) (y:Choice) (hy:y=⟨t,i,0⟩):
 Den Γ G 192 [stV p k c,(.agg [.t (ti (y).thread),.t (ti (y).step),.t (ti (y).cell)]),.t (ints (zxd c t))]=some (.agg [.t (ints (zyO p c t s).mem),.t (ints (zyO p c t s).at_),.t (.sl ((zyO p c t s).buf.map (fun b=>[.sl (b.map Entry.enc)])))]):=by
 by_cases hk:s.kind=3
 ·exact zlC p hf k c hc t x hx i s hs y hy hk
 ·exact zlD p hf k c hc t x hx i s hs y hy hk
def stT (p:Prog) (k:Int) (c:Config):List T:=[ints c.mem,ints c.at_,.sl (c.buf.map fun b=>[.sl (b.map Entry.enc)]),.sl (p.cells.map Cell.enc),.sl (p.modules.map Contract.enc),.sl (p.locks.map Lock.enc),.sl (p.threads.map Thread.enc),ti k]
theorem zmN (p:Prog) (k:Int) (c:Config) (t:Nat):Den Γ G 190 [stV p k c,vi t]=some (.t (.fn 200 [] [.ip (stT p k c),.ip [ti t]])):=by
 unfold stV stT
 (refine zw3 Γ190 rfl ?_;dsimp only[f190])
 simp -dsimp only[go_sem,seval]
 done
theorem zCb (p:Prog) (hf:zw6 p=true) (k:Int) (c:Config) (hc:IsB p c) (t:Nat) (ht:t<p.threads.length) (ky:Nat) (Inv:Nat->(Nat->Option O)->Nat->Prop) (Stop:(Nat->Option O)->Nat->Prop)
 (Cg: ∀i H n m,Inv i H n->n<=m->Inv i H m) (Al: ∀H n m,Stop H n->n<=m->Stop H m)
 (EN: ∀i e H n,(zxq c t)[i]? =some e->Inv i H n->if zyy k (zxq c t) i e then ∃cont h' n',DenY Γ G ky [vi i,.agg [.t (ints e.cells),.t (ints e.values)]] H n=some (vb cont,h',n')/\(if cont then Inv (i+1) h' n' else Stop h' n')else Inv (i+1) H n)
 (H:Nat->Option O) (n:Nat) (h0:Inv 0 H n):
 ∃r h' n',DenR Γ G 200 [.yl ky,.t (.ip (stT p k c)),.t (.ip [ti t])] H n=some (r,h',n')/\(Inv (zxq c t).length h' n'\/Stop h' n'):=by
 obtain⟨⟨m1,m2,m3,m4⟩,_⟩:=zw8 (zw9 hf).1;have l3:=hc.lb;have Ae:=zx4 (c:=c) (t:=t) (by omega);obtain⟨b1,b2,_⟩:=hc.buf t _ Ae;unfold stT
 (refine zxC Γ200 rfl ?_;dsimp only[f200])
 simp -dsimp only[go_sem,seval,Ae];refine zap 1099511595104 (zxq c t).length (fun i f h z=>(f 15).v=vi i/\Inv i h z) rfl ⟨by simp -dsimp only[go_sem,seval],Cg _ _ _ _ h0 (by simp -dsimp only[go_sem,seval];omega)⟩ ?_;rintro i f u H2 z bs hi ⟨Cp,hI⟩;have hw:=zag i (by omega);simp -dsimp only[go_sem,seval,Cp];refine zw1 (fun h=> ?_) (fun h=> ?_)<;>(try rw[h])<;>(try simp only[zab]at h)<;>(try simp -dsimp only[go_sem,seval,Cp])
 ·obtain⟨e,he,Dc⟩:=zad ‹i<(zxq c t).length›;have Cu:=b2 e Dc;have Cr:=zaW Cu;have Hd:=EN i e H2 z he hI
  have J5:zyy k (zxq c t) i e=true-> ∀m,z<=m-> ∃r h' n',DenY Γ G ky [vi i,.agg [.t (ints e.cells),.t (ints e.values)]] H2 m=some (r,h',n')/\ ∃cont:Bool,r=vb cont/\(if cont then Inv (i+1) h' n' else Stop h' n'):=fun ho m hm=>by
   have:=EN i e H2 m he (Cg _ _ _ _ hI hm);rw[if_pos ho]at this;obtain⟨cont,h',n',h1,h2⟩:=this;exact⟨_,h',n',h1,cont,rfl,h2⟩
  have Aa:((((zxq c t).map Entry.enc)).all fun x=>decide (x.length=2))=true:=by simp[Entry.enc]
  have DD:=ziz ((zxq c t).take i) e (by rw[List.length_take];omega) (by omega) (fun o ho=>by
   have:=zaW (b2 o (List.mem_of_mem_take ho));omega)
  rw[List.map_take]at DD;have i1:(0:Int)<=(i:Int):=by omega
  have i2:(i:Int)<=((zxq c t).length:Int):=by omega
  have i3:((i:Int)-0).toNat=i:=by omega
  by_cases Db:i=0
  ·subst Db;simp -dsimp only[go_sem,seval,Cp,he,Entry.enc];refine zas (J5 (by simp[zyy]) _ (by omega)) ?_;rintro r h' n' ⟨cont,rfl,Ec⟩;cases cont
   ·simp -dsimp only[go_sem,seval,Cp];exact .inr (Al _ _ _ Ec (by omega))
   ·simp -dsimp only[go_sem,seval,Cp];exact⟨by omega,by simp -dsimp only[go_sem,seval,hw],Cg _ _ _ _ Ec (by simp -dsimp only[go_sem,seval];omega)⟩
  ·have Bn:(i:Int)>0:=by omega
   by_cases Ba:k=2
   ·cases hb:zyb ((zxq c t).take i) e
    ·simp -dsimp only[go_sem,seval,Cp,he,Entry.enc,Bn,Ba,DD,hb,i1,i2,i3,Aa];refine zas (J5 (by simp[zyy,Ba,hb]) _ (by omega)) ?_;rintro r h' n' ⟨cont,rfl,Ec⟩;cases cont
     ·simp -dsimp only[go_sem,seval,Cp];exact .inr (Al _ _ _ Ec (by omega))
     ·simp -dsimp only[go_sem,seval,Cp];exact⟨by omega,by simp -dsimp only[go_sem,seval,hw],Cg _ _ _ _ Ec (by simp -dsimp only[go_sem,seval];omega)⟩
    ·simp -dsimp only[go_sem,seval,Cp,he,Entry.enc,Bn,Ba,DD,hb,i1,i2,i3,Aa];rw[if_neg (by simp[zyy,Ba,hb,Db])]at Hd;exact⟨by omega,by simp -dsimp only[go_sem,seval,hw],Cg _ _ _ _ Hd (by simp -dsimp only[go_sem,seval];omega)⟩
   ·simp -dsimp only[go_sem,seval,Cp,he,Entry.enc,Bn,Ba];rw[if_neg (by simp[zyy,Ba,Db])]at Hd;exact⟨by omega,by simp -dsimp only[go_sem,seval,hw],Cg _ _ _ _ Hd (by simp -dsimp only[go_sem,seval];omega)⟩
 ·have Cw:i=(zxq c t).length:=by omega
  subst Cw;exact .inl (Cg _ _ _ _ hI (by simp -dsimp only[go_sem,seval];omega))
end Rg
end

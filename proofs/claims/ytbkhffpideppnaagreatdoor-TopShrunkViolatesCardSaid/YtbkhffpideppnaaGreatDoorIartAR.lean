/- Part of the proof of laws of relyguardtop. No condition. -/
import Derived.Test.YtbkhffpideppnaaGreatDoorIartAQ
import Derived.Lib.IndexMore
import Derived.Test.YtbkhffpideppnaaGreatDoorIartAP
import Derived.Test.YtbkhffpideppnaaGreatDoorIartAO
set_option linter.unusedSimpArgs false
set_option linter.unusedVariables false
section
namespace Rg
open Go
theorem zGv (l:List UInt8) (i:Nat):(bs l)[i]? =l[i]? :=by
 by_cases h:i<l.length
 ·rw[getElem?_pos (bs l) i (by rw[zxe];exact h),zI h];show some (l.toArray[i]'(by simpa using h))=_;simp
 ·rw[getElem?_neg (bs l) i (by rw[zxe];exact h),List.getElem?_eq_none (by omega)]
theorem zG0 (a:UInt8) (ha:48<=a.toNat/\a.toNat<=57):Den Γ G 463 [.t (.str (bs [a]))]=some (.tup [vi (a.toNat-48),vb true]):=by
 (refine zag Γ463 rfl ?_;dsimp only[zIr])
 simp -dsimp -implicitDefEqProofs only[go_sem,seval,zGv];refine zaD ?_;have e1:IntKind.u8.wrap ((a.toNat:Int)-48)=(a.toNat:Int)-48:=by show((a.toNat:Int)-48) % 256=_;omega
 have e2:IntKind.i64.wrap ((a.toNat:Int)-48)=(a.toNat:Int)-48:=zaH (by omega);simp -dsimp -implicitDefEqProofs only[go_sem,seval,zGv,e1,e2];refine zaD ?_;simp -dsimp -implicitDefEqProofs only[go_sem,seval,zGv,e1,e2];rw[Int.zero_add];exact e2
theorem zGZ (a b:UInt8) (ha:49<=a.toNat/\a.toNat<=57) (hb:48<=b.toNat/\b.toNat<=57):Den Γ G 463 [.t (.str (bs [a,b]))]=some (.tup [vi (10*(a.toNat-48)+(b.toNat-48)),vb true]):=by
 (refine zag Γ463 rfl ?_;dsimp only[zIr])
 have OJ:((a.toNat:Int)=48)=False:=eq_false (by omega);simp -dsimp -implicitDefEqProofs only[go_sem,seval,zGv,OJ,decide_false];refine zaD ?_;have e1:IntKind.u8.wrap ((a.toNat:Int)-48)=(a.toNat:Int)-48:=by show((a.toNat:Int)-48) % 256=_;omega
 have e2:IntKind.i64.wrap ((a.toNat:Int)-48)=(a.toNat:Int)-48:=zaH (by omega);have f1:IntKind.u8.wrap ((b.toNat:Int)-48)=(b.toNat:Int)-48:=by show((b.toNat:Int)-48) % 256=_;omega
 have f2:IntKind.i64.wrap ((b.toNat:Int)-48)=(b.toNat:Int)-48:=zaH (by omega);have g1:IntKind.i64.wrap (10*((a.toNat:Int)-48))=10*((a.toNat:Int)-48):=zaH (by omega);have g2:IntKind.i64.wrap (10*((a.toNat:Int)-48)+((b.toNat:Int)-48))=10*((a.toNat:Int)-48)+((b.toNat:Int)-48):=zaH (by omega);simp -dsimp -implicitDefEqProofs only[go_sem,seval,zGv,e1,e2];refine zaD ?_;simp -dsimp -implicitDefEqProofs only[go_sem,seval,zGv,f1,f2,g1,g2];refine zaD ?_;simp -dsimp -implicitDefEqProofs only[go_sem,seval,zGv];rw[Int.zero_add,e2,g1];exact g2
theorem zIb (l:List UInt8) (i j:Nat):(bs l).extract i j=bs ((l.take j).drop i):=by
 apply ByteArray.ext;simp[bs,List.extract_toArray,List.drop_take]
theorem zHq (A B:List UInt8) (c:UInt8) (t n:Int) (hA:Den Γ G 463 [.t (.str (bs A))]=some (.tup [vi t,vb true])) (hB:Den Γ G 463 [.t (.str (bs B))]=some (.tup [vi n,vb true])) (lA:A.length<=100) (lB:B.length<=100)
 (x:Choice) (hx:x=if c=33 then⟨t,-1,n⟩else⟨t,n,0⟩):
 Den Γ G 460 [.t (.str (bs (A++c::B))),vi A.length]=some (.tup [.agg [vi x.thread,vi x.step,vi x.cell],vb (zGI x)]):=by
 have hw:=zGz x;have FZ:(A++c::B).length=A.length+1+B.length:=by simp;omega
 have h1:((A.length:Int)<=((A.length+1+B.length:Nat):Int))=True:=eq_true (by omega);have h2:(bs (A++c::B)).extract 0 A.length=bs A:=by rw[zIb];simp
 have h3:IntKind.i64.wrap ((A.length:Int)+1)=((A.length+1:Nat):Int):=zaH (by omega)
 have h4:(bs (A++c::B)).extract (A.length+1) (A.length+1+B.length)=bs B:=by
  rw[zIb,<- FZ,List.take_length,show A++c::B=(A++[c])++B by simp,List.drop_left' (by simp)]
 have h5:(((A.length+1:Nat):Int)<=((A.length+1+B.length:Nat):Int))=True:=eq_true (by omega);have h6:(bs (A++c::B))[A.length]? =some c:=by rw[zGv];simp
 have h7:((c.toNat:Int)=33)=(c=33):=propext ⟨fun h=>UInt8.toNat_inj.1 (by simpa using Int.ofNat.inj h),fun h=>by rw[h];rfl⟩
 (refine zag Γ460 rfl ?_;dsimp only[zIz])
 by_cases hc:c=33
 ·rw[if_pos hc]at hx;subst hx;have h8:=eq_true hc;simp -dsimp -implicitDefEqProofs only[go_sem,seval,hA,hB,FZ,h1,h2,h3,h4,h5,h6,h7,Int.le_refl,h8,hw]
  done
 ·rw[if_neg hc]at hx;subst hx;have h8:=eq_false hc;simp -dsimp -implicitDefEqProofs only[go_sem,seval,hA,hB,FZ,h1,h2,h3,h4,h5,h6,h7,Int.le_refl,h8,hw]
  done
end Rg
end
section
namespace Rg
open Go
theorem zHH: ∀z:_root_.Fin 64,(z.1<10/\num z.1=[UInt8.ofNat (48+z.1)])\/(10<=z.1/\num z.1=[UInt8.ofNat (48+z.1/ 10),UInt8.ofNat (48+z.1 % 10)]):=by decide+kernel
theorem zHv {n:Nat} (h:n<256):(UInt8.ofNat n).toNat=n:=by simp[UInt8.toNat_ofNat'];omega
theorem zG8 {z:Int} (h:0<=z/\z<64):Den Γ G 463 [.t (.str (bs (num z)))]=some (.tup [vi z,vb true])/\(num z).length<=2/\1<=(num z).length/\ ∀b∈num z,48<=b.toNat/\b.toNat<=57:=by
 obtain⟨n,rfl⟩:=Int.eq_ofNat_of_zero_le h.1;have hn:n<64:=by omega
 rcases zHH ⟨n,hn⟩with⟨h1,h2⟩ | ⟨h1,h2⟩
 ·simp only at h1 h2;have e:=zHv (n:=48+n) (by omega);refine⟨?_,by rw[h2];simp,by rw[h2];simp,fun b hb=> ?_⟩
  ·rw[h2];refine(zG0 (UInt8.ofNat (48+n)) (by omega)).trans ?_;rw[e,show(((48+n:Nat):Int)-48)=(n:Int)by omega]
  ·rw[h2,List.mem_singleton]at hb;subst hb;omega
 ·simp only at h1 h2;have e:=zHv (n:=48+n/ 10) (by omega);have e':=zHv (n:=48+n % 10) (by omega);refine⟨?_,by rw[h2];simp,by rw[h2];simp,fun b hb=> ?_⟩
  ·rw[h2];refine(zGZ (UInt8.ofNat (48+n/ 10)) (UInt8.ofNat (48+n % 10)) (by omega) (by omega)).trans ?_;rw[e,e',show(10*(((48+n/ 10:Nat):Int)-48)+(((48+n % 10:Nat):Int)-48))=(n:Int)by omega]
  ·rw[h2,List.mem_cons,List.mem_singleton]at hb;rcases hb with rfl | rfl<;>omega
theorem zGA {x:Choice}:zGI x=true<->(0<=x.thread/\x.thread<4)/\((x.step= -1/\0<=x.cell/\x.cell<32)\/(0<=x.step/\x.step<64/\x.cell=0)):=by
 obtain⟨t,s,c⟩:=x;simp only[zGI,Bool.or_eq_true,zF,decide_eq_true_eq,Choice.mk.injEq];constructor
 ·rintro(⟨rfl,rfl,rfl⟩ | ⟨⟨h1,h2⟩,h3⟩)
  ·omega
  ·split at h3
   ·simp only[zF,decide_eq_true_eq]at h3;omega
   ·simp only[zF,decide_eq_true_eq]at h3;omega
 ·rintro⟨⟨h1,h2⟩,h3⟩;refine .inr ⟨⟨h1,h2⟩,?_⟩;split
  ·simp only[zF,decide_eq_true_eq];omega
  ·simp only[zF,decide_eq_true_eq];omega
def zHs (x:Choice):UInt8:=if x.step= -1 then 33 else 46
def zH1 (x:Choice):List UInt8:=if x.step= -1 then num x.cell else num x.step
theorem zGu (x:Choice):zGp x=num x.thread++zHs x::zH1 x:=by
 unfold zGp zHs zH1;split<;>rfl
structure WordOk (x:Choice):Prop where
 a:(num x.thread).length<=2/\1<=(num x.thread).length/\ ∀b∈num x.thread,48<=b.toNat/\b.toNat<=57
 b:(zH1 x).length<=2/\1<=(zH1 x).length/\ ∀b∈zH1 x,48<=b.toNat/\b.toNat<=57
 den:Den Γ G 460 [.t (.str (bs (zGp x))),vi (num x.thread).length]=some (.tup [.agg [vi x.thread,vi x.step,vi x.cell],vb true])
theorem zHu {x:Choice} (h:zGI x=true):WordOk x:=by
 obtain⟨h1,h2⟩:=zGA.1 h;obtain⟨a1,a2⟩:=zG8 (z:=x.thread) (by omega)
 have hb: ∃n,0<=n/\n<64/\zH1 x=num n/\x=if zHs x=33 then⟨x.thread,-1,n⟩else⟨x.thread,n,0⟩:=by
  obtain⟨t,s,c⟩:=x;simp only at h1 h2;rcases h2 with⟨rfl,g1,g2⟩ | ⟨g1,g2,rfl⟩
  ·exact⟨c,g1,by omega,by simp[zH1],by simp[zHs]⟩
  ·have:s≠ -1:=by omega
   exact⟨s,g1,g2,by simp[zH1,this],by simp[zHs,this]⟩
 obtain⟨n,n0,n1,n2,n3⟩:=hb;obtain⟨b1,b2⟩:=zG8 (z:=n) ⟨n0,n1⟩;refine⟨a2,by rw[n2];exact b2,?_⟩;have:=zHq (num x.thread) (num n) (zHs x) x.thread n a1 b1 (by omega) (by omega) x n3;rw[h]at this;rw[zGu,n2];exact this
theorem zGt {x:Choice} (h:zGI x=true):(zGp x).length<=5/\3<=(zGp x).length:=by
 have w:=zHu h;rw[zGu,zM,List.length_cons];have:=w.a;have:=w.b;omega
theorem zG7 {x:Choice} (h:zGI x=true): ∀b∈zGp x,b≠32:=by
 have w:=zHu h;intro b hb e;subst e;rw[zGu,List.mem_append,List.mem_cons]at hb;rcases hb with hb | hb | hb
 ·have:=(w.a.2.2 _ hb).1;exact absurd this (by decide)
 ·unfold zHs at hb;split at hb<;>exact absurd hb (by decide)
 ·have:=(w.b.2.2 _ hb).1;exact absurd this (by decide)
def zGn:List Choice->List UInt8
 | []=>[]
 | [x]=>zGp x
 | x::y::r=>zGp x++32::zGn (y::r)
theorem zHb: ∀(w:List UInt8),(∀b∈w,b≠32)->Go.Lib.index w [32]= -1
 | [],_=>rfl
 | b::w,h=>by
   have hb:=h b (by simp);have ih:=zHb w fun c hc=>h c (by simp[hc])
   rw[Go.Lib.index,ih];have:List.isPrefixOf [32] (b::w)=false:=by simp[List.isPrefixOf];exact fun e=>hb e.symm
   rw[this];rfl
theorem zHc: ∀(w r:List UInt8),(∀b∈w,b≠32)->Go.Lib.index (w++32::r) [32]=w.length
 | [],r,_=>by
   show Go.Lib.index (32::r) [32]=0
   rw[Go.Lib.index,if_pos (by simp[List.isPrefixOf])]
 | b::w,r,h=>by
   have hb:=h b (by simp);have ih:=zHc w r fun c hc=>h c (by simp[hc])
   show Go.Lib.index (b::(w++32::r)) [32]=_;rw[Go.Lib.index,ih];have:List.isPrefixOf [32] (b::(w++32::r))=false:=by simp[List.isPrefixOf];exact fun e=>hb e.symm
   have h2:(((w.length:Int))== -1)=false:=by rw[beq_eq_false_iff_ne];omega
   rw[this,h2];simp
theorem zH4 {w:List UInt8} (h: ∀b∈w,b≠32):Go.Lib.cut w [32]=(w,[],false):=by
 rw[Go.Lib.cut,zHb w h];rfl
theorem zH3 {w:List UInt8} (r:List UInt8) (h: ∀b∈w,b≠32):Go.Lib.cut (w++32::r) [32]=(w,r,true):=by
 rw[Go.Lib.cut,zHc w r h,if_pos (by omega)];simp
theorem zH2 (x:Choice) (r:List Choice) (h:zGI x=true):Go.Lib.cut (zGn (x::r)) [32]=(zGp x,zGn r,decide (r≠[])):=by
 cases r with
 | nil=>exact zH4 (zG7 h)
 | cons y r=>exact zH3 (zGn (y::r)) (zG7 h)
theorem zGC: ∀(run:List Choice),(∀x∈run,zGI x=true)->(zGn run).length<=6*run.length
 | [],_=>by simp[zGn]
 | [x],h=>by have:=zGt (h x (by simp));simp only[zGn,List.length_singleton];omega
 | x::y::r,h=>by
   have:=zGt (h x (by simp));have ih:=zGC (y::r) fun z hz=>h z (by simp only[List.mem_cons]at hz⊢;exact .inr hz)
   simp only[zGn,zM,List.length_cons]at ih⊢;omega
theorem zG6 {p:Prog} (hf:zak p=true) {k:Int} {c:Config} (hc:IsK p k c) {x:Choice} (h:x∈zaK p k c):zGI x=true:=by
 obtain⟨⟨l1,_,_,l4⟩,l5⟩:=zal (zam hf).1;rcases zsb hf hc h with⟨t,y,i,s,hy,hs,_,rfl,_⟩ | ⟨_,t,i,e,ht,hi,_,rfl,_⟩
 ·have h1:=(zH.1 hy).1;have h2:=(zH.1 hs).1;have h3:=(l5 y (zL hy)).2.1;exact zGA.2 ⟨by simp only;omega,.inr ⟨by simp only;omega,by simp only;omega,rfl⟩⟩
 ·have hb:c.buf[t]? =some (za1 c t):=by
   have:t<c.buf.length:=by rw[hc.b.lb];exact ht
   simp[za1,this]
  have he:=(hc.b.buf t _ hb).2.1 e (zL hi)
  have hh:0<=zcg e/\zcg e<p.cells.length:=by
   have Az:=he.ne;have Ac:=he.len;have By:=he.cell;unfold zcg
   cases AL:e.cells with
   | nil=>exact absurd AL Az
   | cons a r=>
     cases Au:e.values with
     | nil=>rw[AL,Au]at Ac;simp at Ac
     | cons b q=>
       obtain⟨q1,y,q2,_⟩:=By 0 a b (by rw[AL];rfl) (by rw[Au];rfl);have:=(zH.1 q2).1;simp only[List.headD_cons];omega
  exact zGA.2 ⟨by simp only;omega,.inl ⟨rfl,by simp only;omega,by simp only;omega⟩⟩
inductive NextP (p:Prog) (k:Int) (c:Config) (y:Choice):Config->Prop
 | s0 (t:Nat) (x:Thread) (i:Nat) (s:Step) (hk:k=0) (hx:p.threads[t]? =some x) (hs:x.steps[i]? =some s) (he:zb8 p c t s=true) (hy:y=⟨t,i,0⟩):NextP p k c y (zgb p c t s)
 | sB (t:Nat) (x:Thread) (i:Nat) (s:Step) (hk:k≠0) (hx:p.threads[t]? =some x) (hs:x.steps[i]? =some s) (he:zaN p c t s=true) (hy:y=⟨t,i,0⟩):NextP p k c y (zdN p c t s)
 | cm (t i:Nat) (e:Entry) (hk:k≠0) (ht:t<p.threads.length) (hi:(za1 c t)[i]? =some e) (ho:zc2 k (za1 c t) i e=true) (hy:y=⟨t,-1,zcg e⟩):NextP p k c y (za8 c t i)
theorem zMa {p:Prog} (hf:zak p=true) {k:Int} {c:Config} (hc:IsK p k c) {y:Choice} (hy:y∈zaK p k c):NextP p k c y (zdk p k c y).1:=by
 unfold zaK at hy;unfold zdk;split at hy
 ·rename_i hk;obtain⟨t,x,i,s,hx,hs,he,e1,hn,hd⟩:=zr9 hf (hc.c hk) hy;rw[if_pos hk,hn];exact .s0 t x i s hk hx hs he e1
 ·rename_i hk;rw[if_neg hk];rcases zh7.1 hy with⟨t,x,i,s,hx,hs,he,rfl⟩ | ⟨t,i,e,ht,hi,ho,rfl⟩
  ·rw[zkE hx hs he];exact .sB t x i s hk hx hs he rfl
  ·rw[zhR hc.b ht hi ho];exact .cm t i e hk ht hi ho rfl
theorem zMU {p:Prog} {c:Config} (hb:IsB p c) {t:Nat} {x:Thread} (hx:p.threads[t]? =some x): ∃a,c.at_[t]? =some a/\ -1<=a/\a<x.points:=by
 have ht:=(zH.1 hx).1;obtain⟨a,ha,_⟩:=zai (show t<c.at_.length by rw[hb.la];exact ht);exact⟨a,ha,(hb.at_ t a x ha hx).1,(hb.at_ t a x ha hx).2.1⟩
theorem zMj {l:List Int} {t g:Nat} {a v:Int} (b:Bool) (hv:0<=v) (h:(if b=true then(l.set t v).set g 0 else l.set t v)[t]? =some a):0<=a:=by
 cases b
 ·simp only[zG,if_false,List.getElem?_set,if_true]at h;split at h
  ·cases h;exact hv
  ·cases h
 ·simp only[if_true,List.getElem?_set,List.length_set]at h
  by_cases q:g=t
  ·subst q;simp only[if_true]at h;split at h
   ·cases h;omega
   ·cases h
  ·rw[if_neg q]at h;split at h
   ·cases h;exact hv
   ·cases h
theorem zMT {p:Prog} (hf:zak p=true) (hs:p.sane) {k:Int} {c:Config} (hc:IsK p k c) {y:Choice} (hy:y∈zaK p k c) (n:Int):EvOk ⟨p,n,y,c,(zdk p k c y).1⟩:=by
 have hd:=(zGB hf hc hy).1;have hn:=zMa hf hc hy
 revert hd hn
 generalize(zdk p k c y).1=d
 intro hd hn
 cases hn with
 | s0 t x i s hk hx AE he e1=>
   subst e1;obtain⟨a,ha,h1,h2⟩:=zMU hd.b hx;have Fd:=(zb7 hf hx AE).to;have h3:0<=a:=zMj (decide (s.kind=6)) Fd.1 (by simpa[zgb]using ha)
   exact⟨hf,hs,hd.b,fun _=>hc.b,fun _=>⟨t,x,a.toNat,rfl,hx,by rw[ha];congr 1;omega,by omega⟩,fun h0 _=>⟨x,s,t,i,h0,rfl,rfl,hx,AE⟩⟩
 | sB t x i s hk hx AE he e1=>
   subst e1;obtain⟨a,ha,h1,h2⟩:=zMU hd.b hx;have Fd:=(zb7 hf hx AE).to;have h3:0<=a:=zMj (decide (s.kind=6)) Fd.1 (by simpa[zdN]using ha)
   exact⟨hf,hs,hd.b,fun _=>hc.b,fun _=>⟨t,x,a.toNat,rfl,hx,by rw[ha];congr 1;omega,by omega⟩,fun h0 _=>⟨x,s,t,i,h0,rfl,rfl,hx,AE⟩⟩
 | cm t i e hk ht hi ho e1=>
   subst e1;obtain⟨x,hx,_⟩:=zai ht;obtain⟨a,ha,h1,h2⟩:=zMU hd.b hx
   have Bi:c.at_[t]? =some a:=by
    rw[za8,hi]at ha;exact ha
   have h3:a≠ -1:=by
    rintro rfl;have:=(hc.b.buf t _ (zb0 (by rw[hc.b.lb];exact ht))).2.2 Bi;rw[this]at hi;cases hi
   exact⟨hf,hs,hd.b,fun _=>hc.b,fun _=>⟨t,x,a.toNat,rfl,hx,by rw[ha];congr 1;omega,by omega⟩,fun _ h=>absurd rfl h⟩
def zKk (p:Prog) (k:Int) (run:List Choice):List Config:=zcm p::(zGm p k (zcm p) run).1
theorem zLW (p:Prog) (k:Int): ∀(r:List Choice) (c:Config),(zGm p k c r).1.length<=r.length
 | [],c=>by simp[zGm]
 | x::r,c=>by
   rw[zGm];split
   ·simpa using zLW p k r _
   ·simp
theorem zLb (p:Prog) (k:Int) (run:List Choice):(zKk p k run).length<=run.length+1:=by
 simpa[zKk]using zLW p k run _
theorem zK5 {p:Prog} (hf:zak p=true) {k:Int}: ∀(r:List Choice) (c:Config),IsK p k c-> ∀(n:Nat) (d:Config),(zGm p k c r).1[n]? =some d->
 ∃b y,(c::(zGm p k c r).1)[n]? =some b/\r[n]? =some y/\IsK p k b/\y∈zaK p k b/\d=(zdk p k b y).1
 | [],c,hc,n,d,h=>by simp[zGm]at h
 | x::r,c,hc,n,d,h=>by
   rw[zGm]at h⊢;split at h
   ·rename_i h0;have hx:=(zGS hf hc x).1 h0;rw[if_pos h0]
    cases n with
    | zero=>cases h;exact⟨c,x,rfl,rfl,hc,hx,rfl⟩
    | succ n=>
      rw[List.getElem?_cons_succ]at h;obtain⟨b,y,h1,h2,h3⟩:=zK5 hf r _ (zGB hf hc hx).1 n d h;exact⟨b,y,by rw[List.getElem?_cons_succ];exact h1,by rw[List.getElem?_cons_succ];exact h2,h3⟩
   ·simp at h
theorem zMq {p:Prog} (hf:zak p=true) (hs:p.sane) {k:Int} (run:List Choice): ∀i,i<(zKk p k run).length->EvOk (zKz p run (zKk p k run) i)
 | 0,_=>by
   have e:zKz p run (zKk p k run) 0=⟨p,-1,⟨0,0,0⟩,⟨[],[],[]⟩,zcm p⟩:=by simp[zKz,zKk]
   rw[e]
   exact⟨hf,hs,(zfq hf k).b,fun h=>absurd h (by simp only;omega),fun h=>absurd h (by simp only;omega),fun h=>absurd h (by simp only;omega)⟩
 | i+1,hi=>by
   obtain⟨d,hd,_⟩:=zai hi;have JS:(zGm p k (zcm p) run).1[i]? =some d:=by simpa[zKk]using hd
   obtain⟨b,y,h1,h2,h3,h4,h5⟩:=zK5 hf run _ (zfq hf k) i d JS
   have e:zKz p run (zKk p k run) (i+1)=⟨p,((i+1:Nat):Int)-1,y,b,(zdk p k b y).1⟩:=by
    rw[<- zKk]at h1;simp only[zKz,if_neg (Nat.succ_ne_zero i),Nat.add_sub_cancel,zK,h2,hd,h1,Option.getD_some];rw[<- h5]
   rw[e];exact zMT hf hs h3 h4 _
def zKm (p:Prog) (k:Int) (run:List Choice):List Viol:=zKj p run (zKk p k run) (zKk p k run).length
theorem zLo (p:Prog) (hs:p.sane) (hf:zak p=true) (k:Int) (hk:0<=k/\k<=2) (run:List Choice) (hl:run.length<=120):
 Den Γ G 445 [(zP p),vi k,.t (.sl (run.map Choice.enc))]=some (.tup [.t (.sl ((zKk p k run).map Config.enc)),vi (if(zGm p k (zcm p) run).2 then 0 else 110),vi (if(zGm p k (zcm p) run).2 then run.length else((zGm p k (zcm p) run).1.length:Int))]):=zHz p hs hf k hk run hl
theorem zKT (p:Prog) (hs:p.sane) (hf:zak p=true) (k:Int) (hk:0<=k/\k<=2) (run:List Choice) (hl:run.length<=120):
 Den Γ G 472 [(zP p),vi k,.t (.sl (run.map Choice.enc))]=some (.tup [.t (zKl (zKm p k run)),vi (if(zGm p k (zcm p) run).2 then 0 else 110)]):=by
 have hr:=zLo p hs hf k hk run hl;have hw:=zLz p run (zKk p k run) (zLb p k run) (by omega) (zMq hf hs run)
 (refine zag Γ472 rfl ?_;dsimp only[zNy])
 cases h2:(zGm p k (zcm p) run).2
 ·simp only[h2,zG,if_false]at hr;simp -dsimp -implicitDefEqProofs only[go_sem,seval,hr,hw];rfl
 ·simp only[h2,if_true]at hr;simp -dsimp -implicitDefEqProofs only[go_sem,seval,hr,hw];rfl
def zL2:List Viol->V
 | []=> .tup [.agg [vi 0,vi 0,vi 0,vi 0,vi 0],vb false]
 | v::_=> .tup [.agg (v.enc.map V.t),vb true]
theorem zK9 (p:Prog) (hs:p.sane) (hf:zak p=true) (k:Int) (hk:0<=k/\k<=2) (run:List Choice) (hl:run.length<=120):
 Den Γ G 473 [(zP p),vi k,.t (.sl (run.map Choice.enc))]=some (zL2 (if(zGm p k (zcm p) run).2 then zKm p k run else [])):=by
 have hr:=zLo p hs hf k hk run hl;have hw:=zLz p run (zKk p k run) (zLb p k run) (by omega) (zMq hf hs run)
 (refine zag Γ473 rfl ?_;dsimp only[zNx])
 cases h2:(zGm p k (zcm p) run).2
 ·simp only[h2,zG,if_false]at hr;simp -dsimp -implicitDefEqProofs only[go_sem,seval,hr,hw];rfl
 ·simp only[h2,if_true]at hr;rw[if_pos rfl,zKm]
  revert hw
  generalize zKj _ _ _ _=L
  intro hw
  cases L with
  | nil=>
    simp -dsimp -implicitDefEqProofs only[go_sem,seval,hr,hw,zKl]
    rfl
  | cons v L=>
    have h0:(((L.length+1:Nat):Int)=0)=False:=eq_false (by omega);simp -dsimp -implicitDefEqProofs only[go_sem,seval,hr,hw,zKl,h0,Viol.enc];rfl
def woM (l:List Choice) (i j:Nat):Nat->List Choice
 | 0=>[]
 | n+1=>if n≠i/\n≠j then(match l[n]? with | some y=>woM l i j n++[y] | none=>woM l i j n)else woM l i j n
theorem zLN (l:List Choice) (i j:Nat): ∀n,(woM l i j n).length<=n
 | 0=>Nat.le_refl _
 | n+1=>by
   have:=zLN l i j n;rw[woM];split
   ·split
    ·rw[zM];simp;omega
    ·omega
   ·omega
theorem zLU (l:List Choice) (i j:Nat): ∀n,i<n->(woM l i j n).length<n
 | 0,h=>absurd h (by omega)
 | n+1,h=>by
   have h1:=zLN l i j n;rw[woM]
   by_cases q:n=i
   ·rw[if_neg (by simp[q])];omega
   ·have:=zLU l i j n (by omega);split
    ·split
     ·rw[zM];simp;omega
     ·omega
    ·omega
def clT:Bool->List Choice->T
 | false,l=> .sl (l.map Choice.enc)
 | true,l=> .slc (l.map Choice.enc)
@[go_sem]theorem zM9 (h:Nat->Option O) (es:List (List T)):Rg.lenS h (.t (.slc es))=some es.length:=rfl
theorem zK1 (b:Bool) (l:List Choice) (hl:l.length<2^30) (i j:Nat):
 Den Γ G 484 [.t (clT b l),vi i,vi j]=some (.t (.sl ((woM l i j l.length).map Choice.enc))):=by
 have Bb:(l.map Choice.enc).length=l.length:=by simp
 (refine zag Γ484 rfl ?_;dsimp only[zNp])
 cases b
 all_goals
  simp -dsimp -implicitDefEqProofs only[go_sem,seval,clT,Bb];refine zaq 1073738624 l.length (fun n f h x=>(f 12).v=vi n/\zaF h x (f 7).v 3 (zbe (woM l i j n))) rfl ⟨by simp -dsimp -implicitDefEqProofs only[go_sem,seval],.inl ⟨by simp -dsimp -implicitDefEqProofs only[go_sem,seval],rfl⟩⟩ ?_;rintro n f u H z bb hn ⟨g12,hO⟩;have hw:=zan n (by omega);have Er:=zLN l i j n
  by_cases Hx:n<l.length
  ·have ST:=eq_true Hx;obtain⟨y,hy,_⟩:=zai Hx;have Ap:(l.map Choice.enc)[n]? =some [ti y.thread,ti y.step,ti y.cell]:=by rw[zJ,hy];rfl
   by_cases h1:n=i
   ·have e1:=eq_true (show(n:Int)=(i:Int)by omega);simp -dsimp -implicitDefEqProofs only[go_sem,seval,g12,ST,Ap,e1];refine⟨Hx,by simp -dsimp -implicitDefEqProofs only[go_sem,seval,hw],?_⟩;simp -dsimp -implicitDefEqProofs only[go_sem,seval];rw[woM,if_neg (by simp[h1])];exact hO.le (by omega)
   ·have e1:=eq_false (show ¬(n:Int)=(i:Int)by omega)
    by_cases h2:n=j
    ·have e2:=eq_true (show(n:Int)=(j:Int)by omega);simp -dsimp -implicitDefEqProofs only[go_sem,seval,g12,ST,Ap,e1,e2];refine⟨Hx,by simp -dsimp -implicitDefEqProofs only[go_sem,seval,hw],?_⟩;simp -dsimp -implicitDefEqProofs only[go_sem,seval];rw[woM,if_neg (by simp[h2])];exact hO.le (by omega)
    ·have e2:=eq_false (show ¬(n:Int)=(j:Int)by omega);have v1:=hO.valOf;have v2:=hO.r2;have v3:=hO.r3;have v4:=hO.r4;have v5:=hO.r5;simp -dsimp -implicitDefEqProofs only[go_sem,seval,g12,ST,Ap,e1,e2,v1,v2,v3,v4,v5];refine zav (hO.upd (by omega) _) (by omega) (by rw[zbX];omega) (by decide) rfl (zd0 _) ?_;intro v hp hP Bp Aq;have w1:=hP.valOf;simp -dsimp -implicitDefEqProofs only[go_sem,seval,w1,g12];refine⟨Hx,by simp -dsimp -implicitDefEqProofs only[go_sem,seval,hw],?_⟩;simp -dsimp -implicitDefEqProofs only[go_sem,seval];rw[woM,if_pos ⟨h1,h2⟩,hy,zcY];exact hP.le (by omega)
  ·have ST:=eq_false Hx;have:n=l.length:=by omega
   subst this;have v1:=hO.valOf;have Bh:=hO.reify (zcN _);have v5:=hO.resVal;simp only[Rg.resVal]at v5;simp -dsimp -implicitDefEqProofs only[go_sem,seval,g12,ST,v1,v5];exact Bh
theorem zLn {f:Nat->Option Viol} {j:Nat} {v:Viol} (h:v∈zKG f j): ∃i,i<j/\f i=some v:=by
 obtain⟨i,hi,hv⟩:=List.mem_filterMap.1 h;exact⟨i,List.mem_range.1 hi,hv⟩
inductive VP (e:Evt) (v:Viol):Prop
 | k4 (s:Step) (m:Contract) (h:zKy e=true) (hs:zKS e=some s) (hm:e.p.modules[s.module.toNat]? =some m) (ho:zMg e.p m s=true) (hv:v=zKE e s 4)
 | k3 (s:Step) (m:Contract) (h:zKy e=true) (hs:zKS e=some s) (hm:e.p.modules[s.module.toNat]? =some m) (ho:m.guar.eval e.bf.mem e.af.mem=0) (hv:v=zKE e s 3)
 | k5 (t:Nat) (h:zKy e=true) (hF:zKB e=[]) (hG:zKW e=[]) (ht:t<e.p.threads.length) (hv:zKv e t=some v)
 | k2 (i:Nat) (hi:i<e.p.locks.length) (hv:zKA e i=some v)
 | k1 (t:Nat) (ht:t<e.p.threads.length) (hv:zKY e t=some v)
theorem zM5 {e:Evt} {j:Nat} {v:Viol} (h:v∈chk e j):VP e v:=by
 match j,h with
 | 0,h=>
   simp only[chk,zKB]at h;split at h
   ·rename_i s h1 h2;split at h
    ·rename_i m hm;split at h
     ·rename_i ho;simp only[List.mem_singleton]at h;exact .k4 s m h1 h2 hm ho h
     ·cases h
    ·cases h
   ·cases h
 | 1,h=>
   simp only[chk,zKW]at h;split at h
   ·rename_i s h1 h2;split at h
    ·rename_i m hm;split at h
     ·rename_i ho;simp only[List.mem_singleton]at h;exact .k3 s m h1 h2 hm ho h
     ·cases h
    ·cases h
   ·cases h
 | 2,h=>
   simp only[chk,zLp]at h;split at h
   ·rename_i h1;obtain⟨t,ht,hv⟩:=zLn h;exact .k5 t h1.1 h1.2.1 h1.2.2 ht hv
   ·cases h
 | 3,h=>
   simp only[chk,zK7]at h;split at h
   ·obtain⟨t,ht,hv⟩:=zLn h;exact .k2 t ht hv
   ·cases h
 | j+4,h=>
   simp only[chk,zKF]at h;split at h
   ·obtain⟨t,ht,hv⟩:=zLn h;exact .k1 t ht hv
   ·cases h
theorem VP.at_ {e:Evt} {v:Viol} (h:VP e v):v.at_=e.at_:=by
 cases h with
 | k4 s m h hs hm ho hv=>rw[hv];rfl
 | k3 s m h hs hm ho hv=>rw[hv];rfl
 | k5 t h hF hG ht hv=>
   unfold zKv at hv
   repeat(split at hv<;>try cases hv)
   rfl
 | k2 i hi hv=>
   unfold zKA at hv
   repeat(split at hv<;>try cases hv)
   all_goals rfl
 | k1 t ht hv=>
   unfold zKY at hv
   repeat(split at hv<;>try cases hv)
   rfl
theorem zMs {e:Evt} {a:Nat} {v:Viol}: ∀{j},v∈zLw e a j->VP e v
 | 0,h=>by cases h
 | j+1,h=>by
   rw[zLw,List.mem_append]at h;exact h.elim zMs zM5
theorem zLk {p:Prog} {run:List Choice} {cs:List Config} {i:Nat} {v:Viol} (h:v∈zKD p run cs i):VP (zKz p run cs i) v:=by
 unfold zKD at h;split at h<;>exact zMs h
theorem zLe {p:Prog} {run:List Choice} {cs:List Config} {v:Viol}: ∀{n:Nat} {L:List Viol},zKj p run cs n=v::L-> ∃i,i<n/\v.at_=(i:Int)-1/\VP (zKz p run cs i) v/\(∃L',zKD p run cs i=v::L')/\zKj p run cs i=[]
 | 0,L,h=>by cases h
 | n+1,L,h=>by
   rw[zKj]at h
   cases hw:zKj p run cs n with
   | nil=>
     rw[hw,List.nil_append]at h;have hv:v∈zKD p run cs n:=by rw[h];exact List.mem_cons_self
     exact⟨n,by omega,(zLk hv).at_,zLk hv,⟨L,h⟩,hw⟩
   | cons w L'=>
     rw[hw,List.cons_append,List.cons.injEq]at h;obtain⟨rfl,_⟩:=h;obtain⟨i,h1,h2⟩:=zLe hw;exact⟨i,by omega,h2⟩
theorem zKN {p:Prog} {run run':List Choice} {cs cs':List Config}: ∀(n:Nat),(∀i,i<n->zKz p run cs i=zKz p run' cs' i)->zKj p run cs n=zKj p run' cs' n
 | 0,_=>rfl
 | n+1,h=>by
   rw[zKj,zKj,zKN n fun i hi=>h i (by omega),zKD,zKD,h n (by omega)]
theorem zLd {p:Prog} {run:List Choice} {cs:List Config}: ∀{n m:Nat},m<=n->zKj p run cs n=[]->zKj p run cs m=[]
 | 0,m,h,e=>by
   have:m=0:=by omega
   subst this;rfl
 | n+1,m,h,e=>by
   by_cases q:m=n+1
   ·rw[q];exact e
   ·rw[zKj,List.append_eq_nil_iff]at e;exact zLd (by omega) e.1
theorem zLC {p:Prog} {k:Int}: ∀(r:List Choice) (c:Config) (n:Nat),n<=(zGm p k c r).1.length->(zGm p k c (r.take n)).2=true/\(zGm p k c (r.take n)).1=(zGm p k c r).1.take n
 | r,c,0,_=>by simp[zGm]
 | [],c,n+1,h=>by simp[zGm]at h
 | x::r,c,n+1,h=>by
   rw[zGm]at h;rw[List.take_succ_cons]
   by_cases q:(zdk p k c x).2=0
   ·rw[if_pos q]at h;obtain⟨h1,h2⟩:=zLC r (zdk p k c x).1 n (by simpa using h);refine⟨by rw[zGm,if_pos q];exact h1,?_⟩;rw[zGm,if_pos q,zGm,if_pos q,List.take_succ_cons];simp only[h2]
   ·rw[if_neg q]at h;simp at h
theorem zKX {p:Prog} {k:Int} {r:List Choice} {n:Nat} (h:n<(zKk p k r).length):(zGm p k (zcm p) (r.take n)).2=true/\zKk p k (r.take n)=(zKk p k r).take (n+1)/\(zKk p k (r.take n)).length=n+1:=by
 obtain⟨h1,h2⟩:=zLC r (zcm p) n (k:=k) (p:=p) (by simp[zKk]at h;omega);have h3:zKk p k (r.take n)=(zKk p k r).take (n+1):=by rw[zKk,h2];rfl
 refine⟨h1,h3,?_⟩;rw[h3,List.length_take];omega
theorem zK8 {α:Type} (l:List α) (d:α) {n i:Nat} (h:i<n):(l.take n).getD i d=l.getD i d:=by
 rw[zK,zK,zO,if_pos h]
theorem zLa {p:Prog} {k:Int} {r:List Choice} {n i:Nat} (h:n<(zKk p k r).length) (hi:i<=n):zKz p (r.take n) (zKk p k (r.take n)) i=zKz p r (zKk p k r) i:=by
 rw[(zKX h).2.1];unfold zKz;rw[zK8 _ _ (show i<n+1 by omega),zK8 _ _ (show i-1<n+1 by omega)]
 by_cases q:i=0
 ·simp only[q,if_true]
 ·rw[if_neg q,if_neg q,if_neg q,zK8 _ _ (show i-1<n by omega)]
structure GoodX (p:Prog) (k:Int) (X:List Choice) (v:Viol):Prop where
 ok:(zGm p k (zcm p) X).2=true
 len:(zKk p k X).length=X.length+1
 hd: ∃L,zKm p k X=v::L
 at_:v.at_=(X.length:Int)-1
 vp:VP (zKz p X (zKk p k X) X.length) v
 no: ∀j,j<X.length->zKm p k (X.take j)=[]
theorem zLr {p:Prog} {k:Int} {r:List Choice} {v:Viol} {L:List Viol} (h:zKm p k r=v::L):0<=v.at_+1/\v.at_+1<=r.length/\GoodX p k (r.take (v.at_+1).toNat) v:=by
 obtain⟨i,h1,h2,h3,⟨L',h4⟩,h5⟩:=zLe h;have hi:(v.at_+1).toNat=i:=by omega
 have hl:=zLb p k r;rw[hi];obtain⟨a1,a2,a3⟩:=zKX h1;have hX:(r.take i).length=i:=by rw[List.length_take];omega
 have hw: ∀n,n<=i+1->zKj p (r.take i) (zKk p k (r.take i)) n=zKj p r (zKk p k r) n:=fun n hn=>zKN n fun j hj=>zLa h1 (by omega)
 refine⟨by omega,by omega,a1,by rw[a3,hX],⟨L',?_⟩,by rw[hX];exact h2,?_,fun j hj=> ?_⟩
 ·rw[zKm,a3,hw _ (Nat.le_refl _),zKj,h5,h4];rfl
 ·rw[hX,zLa h1 (Nat.le_refl _)];exact h3
 ·rw[hX]at hj;have RJ:j<(zKk p k r).length:=by omega
  rw[List.take_take,Nat.min_eq_left (by omega)];rw[zKm,(zKX RJ).2.2,zKN (run':=r) (cs':=zKk p k r) (j+1) fun q hq=>zLa RJ (by omega)];exact zLd (by omega) h5
theorem zMC (p:Prog) (k:Int):Den Γ G 476 [(zP p),vi k]=some (.t (.fn 482 [] [.ip [.sl (p.cells.map Cell.enc),.sl (p.modules.map Contract.enc),.sl (p.locks.map Lock.enc),.sl (p.threads.map Thread.enc)],.ip [ti k]])):=by
 (refine zag Γ476 rfl ?_;dsimp only[zNv])
 simp -dsimp -implicitDefEqProofs only[go_sem,seval]
def PT (p:Prog):T:=.ip [.sl (p.cells.map Cell.enc),.sl (p.modules.map Contract.enc),.sl (p.locks.map Lock.enc),.sl (p.threads.map Thread.enc)]
theorem zLs (p:Prog) (hs:p.sane) (hf:zak p=true) (k:Int) (hk:0<=k/\k<=2) (Y:List Choice) (hl:Y.length<=120):
 (zKm p k Y=[]->Den Γ G 482 [.t (.sl (Y.map Choice.enc)),.t (PT p),.t (.ip [ti k])]=some (.tup [.t (.sl []),vb false]))/\
 (∀v L,zKm p k Y=v::L-> ∃b,Den Γ G 482 [.t (.sl (Y.map Choice.enc)),.t (PT p),.t (.ip [ti k])]=some (.tup [.t (clT b (Y.take (v.at_+1).toNat)),vb true])):=by
 have hw:=zKT p hs hf k hk Y hl;have Bb:(Y.map Choice.enc).length=Y.length:=by simp
 unfold PT;constructor
 ·intro hn;rw[hn]at hw
  (refine zag Γ482 rfl ?_;dsimp only[zMI])
  simp -dsimp -implicitDefEqProofs only[go_sem,seval,hw,zKl]
 ·intro v L hv;obtain⟨h1,h2,_⟩:=zLr hv;rw[hv]at hw;have h0:(((L.length+1:Nat):Int)=0)=False:=eq_false (by omega);have Mn:IntKind.i64.wrap (v.at_+1)=v.at_+1:=zaH (by omega);have Aa:((Y.map Choice.enc).all fun r=>decide (r.length=3))=true:=by simp[Choice.enc]
  by_cases q:v.at_+1=0
  ·have ht:Y.take (v.at_+1).toNat=[]:=by rw[q];rfl
   rw[ht];rw[q]at Mn
   cases hE:Y.map Choice.enc with
   | nil=>
     refine⟨true,?_⟩;rw[hE]at hw
     (refine zag Γ482 rfl ?_;dsimp only[zMI])
     simp -dsimp -implicitDefEqProofs only[go_sem,seval,hw,zKl,h0,Viol.enc,Mn,q,clT]
   | cons r R=>
     refine⟨false,?_⟩;rw[hE]at hw
     (refine zag Γ482 rfl ?_;dsimp only[zMI])
     simp -dsimp -implicitDefEqProofs only[go_sem,seval,hw,zKl,h0,Viol.enc,Mn,q,clT]
  ·have q1:=eq_false q
   by_cases q2:v.at_+1=Y.length
   ·have ht:Y.take (v.at_+1).toNat=Y:=by rw[q2];simp
    rw[ht];rw[q2]at Mn;have q3:((Y.length:Int)=0)=False:=eq_false (by omega);have q4:((Y.length:Int)<=(Y.length:Int))=True:=eq_true (by omega);have q5:(0<=(Y.length:Int))=True:=eq_true (by omega);refine⟨true,?_⟩
    (refine zag Γ482 rfl ?_;dsimp only[zMI])
    simp -dsimp -implicitDefEqProofs only[go_sem,seval,hw,zKl,h0,Viol.enc,Mn,q3,q4,q5,Bb,q2,Aa,clT]
   ·refine⟨false,?_⟩;have q3:=eq_false q2;have q4:(v.at_+1<=v.at_+1)=True:=eq_true (by omega);have q5:List.take (v.at_+1).toNat (Y.map Choice.enc)=(Y.take (v.at_+1).toNat).map Choice.enc:=List.map_take.symm
    (refine zag Γ482 rfl ?_;dsimp only[zMI])
    simp -dsimp -implicitDefEqProofs only[go_sem,seval,hw,zKl,h0,Viol.enc,Mn,q1,Bb,q3,h1,h2,q4,q5,false_and,if_false,clT]
end Rg
end
section
namespace Rg
open Go
structure SK where
 ky:Nat
 k10:Nat
 k11:Nat
 k12:Nat
def pfT (p:Prog) (k:Int):T:=.fn 482 [] [PT p,.ip [ti k]]
structure SR (K:SK) (p:Prog) (k:Int) (env:Nat->V) (h:Nat->Option O) (x:Nat) (cur:V):Prop where
 hk:h K.ky=some (.loop env [43] zLL .ready)
 e10:env 10= .mp K.k10 0 0
 e11:env 11= .mp K.k11 0 0
 e12:env 12= .mp K.k12 0 0
 h10:h K.k10=some (.rows 1 [[.t (pfT p k)]] false)
 h11:h K.k11=some (.rows 1 [[cur]] false)
 h12:h K.k12=some (.rows 1 [[vb false]] false)
 ne:K.k10≠K.k11/\K.k10≠K.k12/\K.k11≠K.k12
 bd:K.ky<x/\K.k10<x/\K.k11<x/\K.k12<x
structure SX (K:SK) (p:Prog) (k:Int) (env:Nat->V) (h:Nat->Option O) (x:Nat) (cur:V):Prop where
 hk:h K.ky=some (.loop env [43] zLL (.done (.exit 2)))
 h10:h K.k10=some (.rows 1 [[.t (pfT p k)]] false)
 h11:h K.k11=some (.rows 1 [[cur]] false)
 h12:h K.k12=some (.rows 1 [[vb true]] false)
section
variable {K:SK} {p:Prog} {k:Int} {env:Nat->V} {h:Nat->Option O} {x:Nat} {cur:V}
theorem SR.le {y:Nat} (R:SR K p k env h x cur) (hx:x<=y):SR K p k env h y cur:=⟨R.hk,R.e10,R.e11,R.e12,R.h10,R.h11,R.h12,R.ne,by have:=R.bd;omega⟩
theorem SR.go (R:SR K p k env h x cur) (hs:p.sane) (hf:zak p=true) (hk:0<=k/\k<=2) {Y:List Choice} (hl:Y.length<=120) (hY:zKm p k Y=[]):
 ∃h' n',DenY Γ G K.ky [.t (.sl (Y.map Choice.enc))] h x=some (vb true,h',n')/\SR K p k env h' n' cur/\x<=n'/\ ∀j,j≠K.ky->j≠K.k12->h' j=h j:=by
 have hc:=(zLs p hs hf k hk Y hl).1 hY;obtain⟨n1,n2,n3⟩:=R.ne;have m10:K.k10≠K.ky:=zcV R.h10 R.hk (by simp);have m11:K.k11≠K.ky:=zcV R.h11 R.hk (by simp);have m12:K.k12≠K.ky:=zcV R.h12 R.hk (by simp);have e10:=R.e10;have e11:=R.e11;have e12:=R.e12;have h10:=R.h10;have h11:=R.h11;have h12:=R.h12
 have:=zjy (Γ:=Γ) (G:=G) (vs:=[.t (.sl (Y.map Choice.enc))]) (n:=x) (P:=fun ex h' n'=>ex= .normal/\h' K.ky=some (.loop env [43] zLL .busy)/\h' K.k12=some (.rows 1 [[vb false]] false)/\x<=n'/\ ∀j,j≠K.ky->j≠K.k12->h' j=h j) R.hk rfl (fun ex h' n' hP=>⟨_,_,_,hP.2.1⟩) (by
  unfold pfT PT at h10;unfold PT at hc;simp -dsimp -implicitDefEqProofs only[go_sem,seval,e10,e11,e12,h10,h11,h12,m10,m11,m12,n1,n2,n3,hc];refine⟨rfl,?_,?_,by simp -dsimp -implicitDefEqProofs only[go_sem,seval];omega,fun j j1 j2=> ?_⟩
  ·simp only[zaC,zaA];rw[zaa,if_neg (Ne.symm m12),zaa,if_pos rfl];rfl
  ·simp only[zaC,zaA];rw[zaa,if_pos rfl]
  ·simp only[zaC,zaA]
   rw[zaa,if_neg j2,zaa,if_neg j1,zaa,if_neg j1])
 obtain⟨ex,h',n',⟨rfl,q1,q2,q3,q4⟩,env',ps',bd',q6,q7⟩:=this;rw[q1]at q6;simp only[zA,O.loop.injEq]at q6;obtain⟨rfl,rfl,rfl,_⟩:=q6;have bd:=R.bd;refine⟨_,n',q7,⟨by rw[zaa,if_pos rfl];rfl,e10,e11,e12,by rw[zaa,if_neg m10,q4 _ m10 n2];exact h10,by rw[zaa,if_neg m11,q4 _ m11 n3];exact h11,by rw[zaa,if_neg m12];exact q2,R.ne,by omega⟩,q3,fun j j1 j2=>by rw[zaa,if_neg j1];exact q4 j j1 j2⟩
theorem SR.stop (R:SR K p k env h x cur) (hs:p.sane) (hf:zak p=true) (hk:0<=k/\k<=2) {Y:List Choice} (hl:Y.length<=120) {v:Viol} {L:List Viol} (hY:zKm p k Y=v::L):
 ∃h' n' b,DenY Γ G K.ky [.t (.sl (Y.map Choice.enc))] h x=some (vb false,h',n')/\SX K p k env h' n' (.t (clT b (Y.take (v.at_+1).toNat)))/\x<=n':=by
 obtain⟨b,hc⟩:=(zLs p hs hf k hk Y hl).2 v L hY;obtain⟨n1,n2,n3⟩:=R.ne;have m10:K.k10≠K.ky:=zcV R.h10 R.hk (by simp);have m11:K.k11≠K.ky:=zcV R.h11 R.hk (by simp);have m12:K.k12≠K.ky:=zcV R.h12 R.hk (by simp);have e10:=R.e10;have e11:=R.e11;have e12:=R.e12;have h10:=R.h10;have h11:=R.h11;have h12:=R.h12
 have:=zjy (Γ:=Γ) (G:=G) (vs:=[.t (.sl (Y.map Choice.enc))]) (n:=x) (P:=fun ex h' n'=>ex= .exit 2/\h' K.ky=some (.loop env [43] zLL .busy)/\h' K.k10=some (.rows 1 [[.t (pfT p k)]] false)/\h' K.k11=some (.rows 1 [[.t (clT b (Y.take (v.at_+1).toNat))]] false)/\h' K.k12=some (.rows 1 [[vb true]] false)/\x<=n') R.hk rfl (fun ex h' n' hP=>⟨_,_,_,hP.2.1⟩) (by
  unfold pfT PT at h10;unfold PT at hc;have hX:valOf (.t (clT b (Y.take (v.at_+1).toNat)))=some (.t (clT b (Y.take (v.at_+1).toNat))):=by cases b<;>rfl
  simp -dsimp -implicitDefEqProofs only[go_sem,seval,e10,e11,e12,h10,h11,h12,m10,m11,m12,n1,n2,n3,hc,hX];refine⟨rfl,?_,?_,?_,?_,by simp -dsimp -implicitDefEqProofs only[go_sem,seval];omega⟩
  ·simp only[zaC,zaA];rw[zaa,if_neg (Ne.symm m11),zaa,if_neg (Ne.symm m12),zaa,if_pos rfl];rfl
  ·simp only[zaC,zaA];rw[zaa,if_neg n1,zaa,if_neg n2,zaa,if_neg m10,zaa,if_neg m10];exact h10
  ·simp only[zaC,zaA];rw[zaa,if_pos rfl]
  ·simp only[zaC,zaA]
   rw[zaa,if_neg (Ne.symm n3),zaa,if_pos rfl])
 obtain⟨ex,h',n',⟨rfl,q1,q2,q3,q4,q5⟩,env',ps',bd',q6,q7⟩:=this;rw[q1]at q6;simp only[zA,O.loop.injEq]at q6;obtain⟨rfl,rfl,rfl,_⟩:=q6;exact⟨_,n',b,q7,⟨by rw[zaa,if_pos rfl];rfl,by rw[zaa,if_neg m10];exact q2,by rw[zaa,if_neg m11];exact q3,by rw[zaa,if_neg m12];exact q4⟩,q5⟩
end
end Rg
end
section
namespace Rg
open Go
def zMK (K:SK) (p:Prog) (k:Int) (env:Nat->V) (X:List Choice) (h:Nat->Option O) (x:Nat):Prop:=
 ∃(i j:Nat) (v:Viol) (L:List Viol) (b:Bool),i<X.length/\j<X.length/\zKm p k (woM X i j X.length)=v::L/\SX K p k env h x (.t (clT b ((woM X i j X.length).take (v.at_+1).toNat)))
def Irr (p:Prog) (k:Int) (X:List Choice) (n:Nat):Prop:= ∀i,i<n->zKm p k (woM X i i X.length)=[]
theorem zMB (K:SK) (p:Prog) (hs:p.sane) (hf:zak p=true) (k:Int) (hk:0<=k/\k<=2) (b:Bool) (X:List Choice) (hl:X.length<=120) (env:Nat->V) (H:Nat->Option O) (nx:Nat) (cur:V) (R0:SR K p k env H nx cur):
 ∃r h' n',DenR Γ G 483 [.yl K.ky,.t (.ip [clT b X])] H nx=some (r,h',n')/\(nx<=n'/\((SR K p k env h' n' cur/\Irr p k X X.length)\/zMK K p k env X h' n')):=by
 have Bb:(X.map Choice.enc).length=X.length:=by simp
 have Er:=fun i j (hi:i<X.length)=>zLU X i j X.length hi
 have Te:=fun i j=>zK1 false X (by omega) i j
 have Td:=fun i j=>zK1 true X (by omega) i j
 unfold clT at Te Td;cases b
 all_goals
  unfold clT
  (refine zay Γ483 rfl ?_;dsimp only[zNq])
  simp -dsimp -implicitDefEqProofs only[go_sem,seval,Bb];refine zaq 2096136 X.length (fun i f h x=>(f 10).v=vi i/\SR K p k env h x cur/\nx<=x/\Irr p k X i) rfl ⟨by simp -dsimp -implicitDefEqProofs only[go_sem,seval],by simp -dsimp -implicitDefEqProofs only[go_sem,seval];exact R0.le (by omega),by simp -dsimp -implicitDefEqProofs only[go_sem,seval];omega,fun i hi=>absurd hi (by omega)⟩ ?_;rintro i f u h x bb hi ⟨g10,R,hx,SU⟩;have hw:=zan i (by omega)
  by_cases AV:i<X.length
  ·have DB:=eq_true AV;have Ad:=Er i i AV;simp -dsimp -implicitDefEqProofs only[go_sem,seval,g10,DB,Bb,Te,Td]
   cases Tc:zKm p k (woM X i i X.length)with
   | nil=>
     obtain⟨h2,n2,p1,R2,p2,p3⟩:=(R.le (show x<=x+1+2+7 by omega)).go hs hf hk (by omega) Tc;refine zas (P:=fun r h' n'=>r=vb true/\h'=h2/\n'=n2) ⟨_,_,_,p1,rfl,rfl,rfl⟩ ?_;rintro _ _ _ ⟨rfl,rfl,rfl⟩;simp -dsimp -implicitDefEqProofs only[go_sem,seval,g10];refine⟨AV,by simp -dsimp -implicitDefEqProofs only[go_sem,seval,hw],?_,by simp -dsimp -implicitDefEqProofs only[go_sem,seval];omega,fun q hq=> ?_⟩
     ·simp -dsimp -implicitDefEqProofs only[go_sem,seval];exact R2.le (by omega)
     ·by_cases e:q=i
      ·rw[e];exact Tc
      ·exact SU q (by omega)
   | cons v L=>
     obtain⟨h2,n2,b2,p1,R2,p2⟩:=(R.le (show x<=x+1+2+7 by omega)).stop hs hf hk (by omega) Tc;refine zas (P:=fun r h' n'=>r=vb false/\h'=h2/\n'=n2) ⟨_,_,_,p1,rfl,rfl,rfl⟩ ?_;rintro _ _ _ ⟨rfl,rfl,rfl⟩;simp -dsimp -implicitDefEqProofs only[go_sem,seval];exact⟨by omega,.inr ⟨i,i,v,L,b2,AV,AV,Tc,R2⟩⟩
  ·have DB:=eq_false AV;have:i=X.length:=by omega
   subst this;simp -dsimp -implicitDefEqProofs only[go_sem,seval,g10,DB,Bb];refine zaq 9223372036846387440 X.length (fun i f h x=>(f 23).v=vi i/\SR K p k env h x cur/\nx<=x) rfl ⟨by simp -dsimp -implicitDefEqProofs only[go_sem,seval],by simp -dsimp -implicitDefEqProofs only[go_sem,seval];exact R.le (by omega),by simp -dsimp -implicitDefEqProofs only[go_sem,seval];omega⟩ ?_;clear hw hi AV DB g10;rintro i f1 u1 h1 x1 bb1 hi ⟨g23,R1,KA⟩;have hw:=zan i (by omega)
   by_cases AV:i<X.length
   ·have DB:=eq_true AV;obtain⟨y,hy,_⟩:=zai AV;have T8:(X.map Choice.enc)[i]? =some [ti y.thread,ti y.step,ti y.cell]:=by rw[zJ,hy];rfl
    simp -dsimp -implicitDefEqProofs only[go_sem,seval,g23,DB,T8,hw];refine zaq 4611686017353646272 (X.length-(i+1)) (fun j f h x=>(f 6).v=vi ((i+1+j:Nat):Int)/\SR K p k env h x cur/\nx<=x) rfl ⟨by simp -dsimp -implicitDefEqProofs only[go_sem,seval,hw],by simp -dsimp -implicitDefEqProofs only[go_sem,seval];exact R1.le (by omega),by simp -dsimp -implicitDefEqProofs only[go_sem,seval];omega⟩ ?_;rintro j f2 u2 h2 x2 bb2 hj ⟨g6,R2,ML⟩;have C9:IntKind.i64.wrap (((i+1+j:Nat):Int)+1)=((i+1+(j+1):Nat):Int):=zan (i+1+j) (by omega);have Ta:=Te i (i+1+j);have SZ:=Td i (i+1+j);have Ad:=Er i (i+1+j) AV
    generalize hm:i+1+j=m at g6 C9 Ta SZ Ad
    by_cases N4:m<X.length
    ·have RI:=eq_true N4;obtain⟨z,hz,_⟩:=zai N4;have Tq:(X.map Choice.enc)[m]? =some [ti z.thread,ti z.step,ti z.cell]:=by rw[zJ,hz];rfl
     by_cases c1:y.thread=z.thread
     rotate_left
     ·have d1:=eq_false c1;simp -dsimp -implicitDefEqProofs only[go_sem,seval,g6,RI,Bb,Tq,d1];refine⟨by omega,by simp -dsimp -implicitDefEqProofs only[go_sem,seval,C9],?_,by simp -dsimp -implicitDefEqProofs only[go_sem,seval];omega⟩;simp -dsimp -implicitDefEqProofs only[go_sem,seval];exact R2.le (by omega)
     have d1:=eq_true c1
     by_cases c2:y.step= -1
     ·have d2:=eq_true c2;simp -dsimp -implicitDefEqProofs only[go_sem,seval,g6,RI,Bb,Tq,d1,d2];refine⟨by omega,by simp -dsimp -implicitDefEqProofs only[go_sem,seval,C9],?_,by simp -dsimp -implicitDefEqProofs only[go_sem,seval];omega⟩;simp -dsimp -implicitDefEqProofs only[go_sem,seval];exact R2.le (by omega)
     have d2:=eq_false c2
     by_cases c3:z.step= -1
     rotate_left
     ·have d3:=eq_false c3;simp -dsimp -implicitDefEqProofs only[go_sem,seval,g6,RI,Bb,Tq,d1,d2,d3];refine⟨by omega,by simp -dsimp -implicitDefEqProofs only[go_sem,seval,C9],?_,by simp -dsimp -implicitDefEqProofs only[go_sem,seval];omega⟩;simp -dsimp -implicitDefEqProofs only[go_sem,seval];exact R2.le (by omega)
     have d3:=eq_true c3;simp -dsimp -implicitDefEqProofs only[go_sem,seval,g6,RI,Bb,Tq,d1,d2,d3,Ta,SZ]
     cases Tc:zKm p k (woM X i m X.length)with
     | nil=>
       obtain⟨h3,n3,p1,R3,p2,p3⟩:=(R2.le (show x2<=x2+4+6+15+7 by omega)).go hs hf hk (by omega) Tc;refine zas (P:=fun r h' n'=>r=vb true/\h'=h3/\n'=n3) ⟨_,_,_,p1,rfl,rfl,rfl⟩ ?_;rintro _ _ _ ⟨rfl,rfl,rfl⟩;simp -dsimp -implicitDefEqProofs only[go_sem,seval,g6];refine⟨by omega,by simp -dsimp -implicitDefEqProofs only[go_sem,seval,C9],?_,by simp -dsimp -implicitDefEqProofs only[go_sem,seval];omega⟩;simp -dsimp -implicitDefEqProofs only[go_sem,seval]
       exact R3.le (by omega)
     | cons v L=>
       obtain⟨h3,n3,b2,p1,R3,p2⟩:=(R2.le (show x2<=x2+4+6+15+7 by omega)).stop hs hf hk (by omega) Tc;refine zas (P:=fun r h' n'=>r=vb false/\h'=h3/\n'=n3) ⟨_,_,_,p1,rfl,rfl,rfl⟩ ?_;rintro _ _ _ ⟨rfl,rfl,rfl⟩;simp -dsimp -implicitDefEqProofs only[go_sem,seval];exact⟨by omega,.inr ⟨i,m,v,L,b2,AV,N4,Tc,R3⟩⟩
    ·have RI:=eq_false N4;simp -dsimp -implicitDefEqProofs only[go_sem,seval,g6,RI,Bb,g23];refine⟨AV,by simp -dsimp -implicitDefEqProofs only[go_sem,seval,hw],?_,by simp -dsimp -implicitDefEqProofs only[go_sem,seval];omega⟩;simp -dsimp -implicitDefEqProofs only[go_sem,seval];exact R2.le (by omega)
   ·have DB:=eq_false AV;simp -dsimp -implicitDefEqProofs only[go_sem,seval,g23,DB];exact⟨by simp -dsimp -implicitDefEqProofs only[go_sem,seval];omega,.inl ⟨by simp -dsimp -implicitDefEqProofs only[go_sem,seval];exact R1.le (by omega),SU⟩⟩
end Rg
end
section
namespace Rg
open Go
section
variable {Γ:Nat->Option F} {G:Nat->List T}
theorem zMH {g:Nat} {args:List V} {fn:F} {R:V->Prop} (hg:Γ g=some fn) (hr:fn.raw=false)
 (h:wC Γ G fn.body (qOf Γ G [] (FiR fn.results fun v hp _=> ∃r,reify hp v=some r/\R r)) ⟨slotsC args 0,fun _=>false,fun _=>none,0,0⟩ ⟨0⟩): ∃r,Den Γ G g args=some r/\R r:=by
 unfold wC at h;rw[zbS,zcz,ziG]at h;obtain⟨e,m',hB,he,v,hv,r,Dz,hR⟩:=zq7 h;refine⟨r,zhC.2 (zBZ hg hr ?_),hR⟩;rw[zsv];exact⟨e,m',hB,he,v,hv,Dz⟩
end
theorem zKL (b:Bool) (X:List Choice):Den Γ G 477 [.t (clT b X)]=some (.t (.fn 483 [] [.ip [clT b X]])):=by
 cases b
 all_goals
  unfold clT
  (refine zag Γ477 rfl ?_;dsimp only[zNu])
  simp -dsimp -implicitDefEqProofs only[go_sem,seval]
theorem zLl (b:Bool) (X:List Choice) (hl:X.length<2^30):Den Γ G 478 [.t (clT b X)]=some (.t (.sl (X.map Choice.enc))):=by
 refine zs3 Γ478 rfl rfl ?_;unfold zev;cases b
 all_goals
  unfold clT;simp only;rw[if_pos ⟨by simp;omega,by simp[Choice.enc]⟩]
theorem zMl (K:SK) (p:Prog) (hs:p.sane) (hf:zak p=true) (k:Int) (hk:0<=k/\k<=2) (b:Bool) (X:List Choice) (hl:X.length<=120) {env:Nat->V} {H:Nat->Option O} {nx:Nat} {cur:V} {C:Ex->(Nat->Option O)->Nat->Prop} {w:WK C}
 (R0:SR K p k env H nx cur) (hC: ∀h' n',nx<=n'->(SR K p k env h' n' cur/\Irr p k X X.length->C .normal (updC h' K.ky (some .dead)) n')/\(zMK K p k env X h' n'->C (.exit 2) (updC h' K.ky (some .dead)) n')):
 zBm (DenR Γ G 483 [.yl K.ky,.t (.ip [clT b X])] H nx) K.ky C w:=by
 obtain⟨r,h',n',q1,q2,⟨R,SU⟩ | R⟩:=zMB K p hs hf k hk b X hl env H nx cur R0
 ·refine znN (P:=fun e h n=>e= .normal/\h=h'/\n=n') ⟨r,h',n',q1,_,_,_,_,_,R.hk,rfl,rfl,rfl,rfl⟩ ?_;rintro _ _ _ ⟨rfl,rfl,rfl⟩;exact(hC _ _ q2).1 ⟨R,SU⟩
 ·have R':=R;obtain⟨i,j,v,L,bb,y1,y3,y2,R⟩:=R;refine znN (P:=fun e h n=>e= .exit 2/\h=h'/\n=n') ⟨r,h',n',q1,_,_,_,_,_,R.hk,rfl,rfl,rfl,rfl⟩ ?_;rintro _ _ _ ⟨rfl,rfl,rfl⟩;exact(hC _ _ q2).2 R'
theorem zLg (p:Prog) (hs:p.sane) (hf:zak p=true) (k:Int) (hk:0<=k/\k<=2) (run:List Choice) (hl:run.length<=120):
 (zKm p k run=[]->Den Γ G 471 [(zP p),vi k,.t (.sl (run.map Choice.enc))]=some (.tup [.t (.sl []),vi 4]))/\
 (∀v0 L0,zKm p k run=v0::L0-> ∀I:List Choice->Prop,I (run.take (v0.at_+1).toNat)->(∀X i j v L,I X->i<X.length->j<X.length->zKm p k (woM X i j X.length)=v::L->I ((woM X i j X.length).take (v.at_+1).toNat))->
   ∃X v,GoodX p k X v/\X.length<=run.length/\I X/\Irr p k X X.length/\Den Γ G 471 [(zP p),vi k,.t (.sl (run.map Choice.enc))]=some (.tup [.t (.sl (X.map Choice.enc)),vi 0])):=by
 have hw:=zKT p hs hf k hk run hl;have hp:=zMC p k;constructor
 ·intro hn;have hc:=(zLs p hs hf k hk run hl).1 hn;unfold PT at hc;rw[hn]at hw
  (refine zag Γ471 rfl ?_;dsimp only[zM3])
  cases h2:(zGm p k (zcm p) run).2
  ·rw[h2]at hw;simp only[zG,if_false]at hw;simp -dsimp -implicitDefEqProofs only[go_sem,seval,hw,hp,hc]
  ·rw[h2]at hw;simp only[if_true]at hw;simp -dsimp -implicitDefEqProofs only[go_sem,seval,hw,hp,hc]
 ·intro v0 L0 hL I T0 T6;obtain⟨b0,hc⟩:=(zLs p hs hf k hk run hl).2 v0 L0 hL;obtain⟨g1,g2,T1⟩:=zLr hL;unfold PT at hc;rw[hL]at hw
  generalize TE:run.take (v0.at_+1).toNat=X0 at hc T1 T0
  have SW:X0.length<=run.length:=by rw[<- TE,List.length_take];omega
  suffices h: ∃r,Den Γ G 471 [(zP p),vi k,.t (.sl (run.map Choice.enc))]=some r/\ ∃X v,GoodX p k X v/\X.length<=run.length/\I X/\Irr p k X X.length/\r= .tup [.t (.sl (X.map Choice.enc)),vi 0]by
   obtain⟨r,q1,X,v,q2,q3,q4,q5,rfl⟩:=h;exact⟨X,v,q2,q3,q4,q5,q1⟩
  refine zMH Γ471 rfl ?_;dsimp only[zM3];have T4:valOf (.t (clT b0 X0))=some (.t (clT b0 X0)):=by cases b0<;>rfl
  have Aq: ∀(b:Bool) (X:List Choice),valOf (.t (clT b X))=some (.t (clT b X)):=fun b X=>by cases b<;>rfl
  have GE: ∀(b:Bool) (X:List Choice),T.norm (clT b X)=clT b X:=fun b X=>by cases b<;>rfl
  unfold T.norm at GE;cases h2:(zGm p k (zcm p) run).2
  ·rw[h2]at hw;simp only[zG,if_false]at hw;simp -dsimp -implicitDefEqProofs only[go_sem,seval,hw,hp,hc,T4];refine zaq 7696581394432 (run.length+1) (fun i f h x=> ∃X v b c,GoodX p k X v/\X.length<=run.length/\I X/\(c=false->Irr p k X X.length)/\X.length+i<=run.length+(if c=true then 0 else 1)/\h 21=some (.rows 1 [[.t (pfT p k)]] false)/\h 29=some (.rows 1 [[.t (clT b X)]] false)/\h 30=some (.rows 1 [[vb c]] false)/\31<=x) rfl ⟨X0,v0,b0,true,T1,SW,T0,fun h=>absurd h (by simp),by simp;exact SW,by simp -dsimp -implicitDefEqProofs only[go_sem,seval,pfT,PT],by simp -dsimp -implicitDefEqProofs only[go_sem,seval],by simp -dsimp -implicitDefEqProofs only[go_sem,seval],by simp -dsimp -implicitDefEqProofs only[go_sem,seval]⟩ ?_;rintro i f u h x bb hi ⟨X,v,b,c,hG,Tn,Th,SU,Ti,Hp,Ik,To,hx⟩;have BK:=zKL b X;have By:=zLl b X (by split at Ti<;>omega);have Eh:=Aq b X;have La:=GE b X
   cases c with
   | true=>
     simp only[if_true,Nat.add_zero]at Ti;simp -dsimp -implicitDefEqProofs only[go_sem,seval,Hp,Ik,To,BK,By,Eh,La];refine zMl ⟨x+1+1+2,21,29,30⟩ p hs hf k hk b X (by omega) (cur:=.t (clT b X)) ⟨by rw[zaa,if_pos rfl],by simp -dsimp -implicitDefEqProofs only[go_sem,seval],by simp -dsimp -implicitDefEqProofs only[go_sem,seval],by simp -dsimp -implicitDefEqProofs only[go_sem,seval],?_,?_,?_,by simp,by simp only;omega⟩ ?_
     ·rw[zaa,if_neg (by simp only;omega),zaa,if_neg (by simp only;omega)];exact Hp
     ·rw[zaa,if_neg (by simp only;omega),zaa,if_neg (by simp only;omega)];exact Ik
     ·rw[zaa,if_neg (by simp only;omega),zaa,if_pos rfl]
     ·intro h' n' Jt;refine⟨fun⟨R,hI⟩=> ?_,fun R=> ?_⟩
      ·simp -dsimp -implicitDefEqProofs only[go_sem,seval];refine⟨by omega,X,v,b,false,hG,Tn,Th,fun _=>hI,by simp;omega,?_,?_,?_,by simp -dsimp -implicitDefEqProofs only[go_sem,seval];omega⟩
       ·simp -dsimp -implicitDefEqProofs only[go_sem,seval];rw[if_neg (by omega)];exact R.h10
       ·simp -dsimp -implicitDefEqProofs only[go_sem,seval];rw[if_neg (by omega)];exact R.h11
       ·simp -dsimp -implicitDefEqProofs only[go_sem,seval];rw[if_neg (by omega)];exact R.h12
      ·obtain⟨i1,j1,v',L',bb',y1,y3,y2,R⟩:=R;have y4:=zLU X i1 j1 X.length y1;have Tg:=T6 X i1 j1 v' L' Th y1 y3 y2;obtain⟨z1,z2,T2⟩:=zLr y2;simp -dsimp -implicitDefEqProofs only[go_sem,seval];refine⟨by omega,_,v',bb',true,T2,by simp;omega,Tg,fun h=>absurd h (by simp),by simp;omega,?_,?_,?_,by simp -dsimp -implicitDefEqProofs only[go_sem,seval];omega⟩
       ·simp -dsimp -implicitDefEqProofs only[go_sem,seval];rw[if_neg (by omega)];exact R.h10
       ·simp -dsimp -implicitDefEqProofs only[go_sem,seval];rw[if_neg (by omega)];exact R.h11
       ·simp -dsimp -implicitDefEqProofs only[go_sem,seval]
        rw[if_neg (by omega)];exact R.h12
   | false=>
     simp -dsimp -implicitDefEqProofs only[go_sem,seval,Hp,Ik,To,BK,By,Eh,La];exact⟨_,rfl,X,v,hG,Tn,Th,SU rfl,rfl⟩
  ·rw[h2]at hw;simp only[if_true]at hw;simp -dsimp -implicitDefEqProofs only[go_sem,seval,hw,hp,hc,T4];refine zaq 7696581394432 (run.length+1) (fun i f h x=> ∃X v b c,GoodX p k X v/\X.length<=run.length/\I X/\(c=false->Irr p k X X.length)/\X.length+i<=run.length+(if c=true then 0 else 1)/\h 21=some (.rows 1 [[.t (pfT p k)]] false)/\h 29=some (.rows 1 [[.t (clT b X)]] false)/\h 30=some (.rows 1 [[vb c]] false)/\31<=x) rfl ⟨X0,v0,b0,true,T1,SW,T0,fun h=>absurd h (by simp),by simp;exact SW,by simp -dsimp -implicitDefEqProofs only[go_sem,seval,pfT,PT],by simp -dsimp -implicitDefEqProofs only[go_sem,seval],by simp -dsimp -implicitDefEqProofs only[go_sem,seval],by simp -dsimp -implicitDefEqProofs only[go_sem,seval]⟩ ?_;rintro i f u h x bb hi ⟨X,v,b,c,hG,Tn,Th,SU,Ti,Hp,Ik,To,hx⟩;have BK:=zKL b X;have By:=zLl b X (by split at Ti<;>omega);have Eh:=Aq b X;have La:=GE b X
   cases c with
   | true=>
     simp only[if_true,Nat.add_zero]at Ti;simp -dsimp -implicitDefEqProofs only[go_sem,seval,Hp,Ik,To,BK,By,Eh,La];refine zMl ⟨x+1+1+2,21,29,30⟩ p hs hf k hk b X (by omega) (cur:=.t (clT b X)) ⟨by rw[zaa,if_pos rfl],by simp -dsimp -implicitDefEqProofs only[go_sem,seval],by simp -dsimp -implicitDefEqProofs only[go_sem,seval],by simp -dsimp -implicitDefEqProofs only[go_sem,seval],?_,?_,?_,by simp,by simp only;omega⟩ ?_
     ·rw[zaa,if_neg (by simp only;omega),zaa,if_neg (by simp only;omega)];exact Hp
     ·rw[zaa,if_neg (by simp only;omega),zaa,if_neg (by simp only;omega)];exact Ik
     ·rw[zaa,if_neg (by simp only;omega),zaa,if_pos rfl]
     ·intro h' n' Jt;refine⟨fun⟨R,hI⟩=> ?_,fun R=> ?_⟩
      ·simp -dsimp -implicitDefEqProofs only[go_sem,seval];refine⟨by omega,X,v,b,false,hG,Tn,Th,fun _=>hI,by simp;omega,?_,?_,?_,by simp -dsimp -implicitDefEqProofs only[go_sem,seval];omega⟩
       ·simp -dsimp -implicitDefEqProofs only[go_sem,seval];rw[if_neg (by omega)];exact R.h10
       ·simp -dsimp -implicitDefEqProofs only[go_sem,seval];rw[if_neg (by omega)];exact R.h11
       ·simp -dsimp -implicitDefEqProofs only[go_sem,seval];rw[if_neg (by omega)];exact R.h12
      ·obtain⟨i1,j1,v',L',bb',y1,y3,y2,R⟩:=R;have y4:=zLU X i1 j1 X.length y1;have Tg:=T6 X i1 j1 v' L' Th y1 y3 y2;obtain⟨z1,z2,T2⟩:=zLr y2;simp -dsimp -implicitDefEqProofs only[go_sem,seval];refine⟨by omega,_,v',bb',true,T2,by simp;omega,Tg,fun h=>absurd h (by simp),by simp;omega,?_,?_,?_,by simp -dsimp -implicitDefEqProofs only[go_sem,seval];omega⟩
       ·simp -dsimp -implicitDefEqProofs only[go_sem,seval];rw[if_neg (by omega)];exact R.h10
       ·simp -dsimp -implicitDefEqProofs only[go_sem,seval];rw[if_neg (by omega)];exact R.h11
       ·simp -dsimp -implicitDefEqProofs only[go_sem,seval]
        rw[if_neg (by omega)];exact R.h12
   | false=>
     simp -dsimp -implicitDefEqProofs only[go_sem,seval,Hp,Ik,To,BK,By,Eh,La];exact⟨_,rfl,X,v,hG,Tn,Th,SU rfl,rfl⟩
end Rg
end
section
namespace Rg
open Go
def zMw:Expr:=.mk 1 1 1 []
def zKs (n:Int):Step:=⟨4,n,n+1,zMw,[⟨0,.mk 8 2 0 [.mk 2 2 0 [],.mk 1 2 1 []]⟩],false,0,0⟩
def zLx:Prog:=
 ⟨[⟨bs [77,46,120],2,0,-1,false,0⟩],[⟨bs [77],bs [65,110,110],zMw,zMw,[0]⟩],[],
  [⟨bs [97],3,[zMw,zMw,zMw],[0,0,0],[zKs 0,zKs 1],[],false⟩,
   ⟨bs [98],1,[.mk 11 1 0 [.mk 2 2 0 [],.mk 1 2 0 []]],[0],[],[],false⟩,
   ⟨bs [99],2,[zMw,zMw],[0,0],[⟨1,0,1,zMw,[],false,0,0⟩],[],false⟩]⟩
theorem zLV:zLx.sane:=by constructor<;>decide+kernel
theorem zLf:zak zLx=true:=by decide+kernel
theorem zK3 (n:Int) (h:IntKind.i64.wrap (n+1)=n+1):Den Γ G 481 [vi n,.t (.ip [ti 1,ti 1,ti 1,.sl []])]=some (zS (zKs n)):=by
 have c1:=zfI 1 2;have c2:=zvn 0 2;have c3:=znz 8 2 (.mk 2 2 0 []) (.mk 1 2 1 []);simp only[Expr.op,Expr.w,Expr.n,Expr.kids,List.map_nil,Expr.enc,List.map_cons]at c1 c2 c3
 (refine zag Γ481 rfl ?_;dsimp only[zNr])
 simp -dsimp -implicitDefEqProofs only[go_sem,seval,h,c1,c2,c3];exact⟨rfl,rfl,rfl,rfl,rfl,rfl,rfl,rfl,rfl,rfl,rfl⟩
theorem zML:Den Γ G 475 []=some (zP zLx):=by
 have c1:=zfI 1 1;have c2:=zvn 0 2;have c3:=zfI 0 2;have c4:=znz 11 1 (.mk 2 2 0 []) (.mk 1 2 0 []);have h0:=zK3 0 (by decide);have h1:=zK3 1 (by decide);simp only[Expr.op,Expr.w,Expr.n,Expr.kids,List.map_nil,Expr.enc,List.map_cons,zKs,zMw,go_sem]at c1 c2 c3 c4 h0 h1
 (refine zag Γ475 rfl ?_;dsimp only[zNw])
 simp -dsimp -implicitDefEqProofs only[go_sem,seval,c1,c2,c3,c4,h0,h1];exact⟨rfl,rfl,rfl,rfl⟩
def fvU (l:List Choice):Option (Int×Int×Int×Int):=(zKm zLx 0 l).head?.map fun v=>(v.at_,v.kind,v.module,v.thread)
theorem zMp:(fvU [⟨2,0,0⟩,⟨0,0,0⟩,⟨0,1,0⟩]).map Prod.fst=some 1:=by decide+kernel
theorem zLP:fvU [⟨0,0,0⟩]=some (0,1,0,1):=by decide+kernel
theorem zMS:fvU [⟨2,0,0⟩]=none:=by decide+kernel
theorem zLQ:fvU []=none:=by decide+kernel
theorem zK0 {l:List Choice} {v:Viol} {L:List Viol} (h:zKm zLx 0 l=v::L):fvU l=some (v.at_,v.kind,v.module,v.thread):=by rw[fvU,h];rfl
theorem zL1 {l:List Choice} (h:zKm zLx 0 l=[]):fvU l=none:=by rw[fvU,h];rfl
theorem zL4: ∃v,GoodX zLx 0 [⟨0,0,0⟩] v/\v.kind=1/\v.module=0/\v.thread=1/\
 Den Γ G 471 [(zP zLx),vi 0,.t (.sl ([⟨2,0,0⟩,⟨0,0,0⟩,⟨0,1,0⟩].map Choice.enc))]=some (.tup [.t (.sl ([⟨0,0,0⟩].map Choice.enc)),vi 0]):=by
 obtain⟨_,hs⟩:=zLg zLx zLV zLf 0 (by decide) [⟨2,0,0⟩,⟨0,0,0⟩,⟨0,1,0⟩] (by decide)
 cases hL:zKm zLx 0 [⟨2,0,0⟩,⟨0,0,0⟩,⟨0,1,0⟩]with
 | nil=>
   have:=zMp
   rw[zL1 hL]at this;cases this
 | cons v0 L0=>
 have Fz:=zMp;rw[zK0 hL]at Fz;simp only[Option.map_some,zA]at Fz
 obtain⟨X,v,hG,-,hI,SU,hd⟩:=hs v0 L0 hL (fun X=>X=[⟨2,0,0⟩,⟨0,0,0⟩]\/X=[⟨0,0,0⟩]) (by rw[Fz];exact .inl rfl) (by
  rintro X i j v L (rfl | rfl) hi hj hw
  ·have Aw:=zK0 hw
   match i,j,hi,hj with
   | 0,0,_,_=>
     rw[show woM [⟨2,0,0⟩,⟨0,0,0⟩] 0 0 [(⟨2,0,0⟩:Choice),⟨0,0,0⟩].length=[⟨0,0,0⟩]from rfl]at Aw⊢;rw[zLP]at Aw;simp only[zA,Prod.mk.injEq]at Aw;rw[<- Aw.1]
     exact .inr rfl
   | 0,1,_,_=>
     rw[show woM [⟨2,0,0⟩,⟨0,0,0⟩] 0 1 [(⟨2,0,0⟩:Choice),⟨0,0,0⟩].length=[]from rfl,zLQ]at Aw
     cases Aw
   | 1,0,_,_=>
     rw[show woM [⟨2,0,0⟩,⟨0,0,0⟩] 1 0 [(⟨2,0,0⟩:Choice),⟨0,0,0⟩].length=[]from rfl,zLQ]at Aw
     cases Aw
   | 1,1,_,_=>
     rw[show woM [⟨2,0,0⟩,⟨0,0,0⟩] 1 1 [(⟨2,0,0⟩:Choice),⟨0,0,0⟩].length=[⟨2,0,0⟩]from rfl,zMS]at Aw
     cases Aw
   | i+2,_,h,_=>exact absurd h (by simp)
   | _,j+2,_,h=>exact absurd h (by simp)
  ·have Aw:=zK0 hw
   match i,j,hi,hj with
   | 0,0,_,_=>
     rw[show woM [⟨0,0,0⟩] 0 0 [(⟨0,0,0⟩:Choice)].length=[]from rfl,zLQ]at Aw
     cases Aw
   | i+1,_,h,_=>exact absurd h (by simp)
   | _,j+1,_,h=>exact absurd h (by simp))
 rcases hI with rfl | rfl
 ·have:=zL1 (SU 0 (by decide));rw[show woM [⟨2,0,0⟩,⟨0,0,0⟩] 0 0 [(⟨2,0,0⟩:Choice),⟨0,0,0⟩].length=[⟨0,0,0⟩]from rfl,zLP]at this;cases this
 ·obtain⟨L,hw⟩:=hG.hd;have:=zK0 hw;rw[zLP]at this;simp only[zA,Prod.mk.injEq]at this;exact⟨v,hG,this.2.1.symm,this.2.2.1.symm,this.2.2.2.symm,hd⟩
theorem zMr {r:V} {h:Nat->Option O} {a b:V} {K:V->(Nat->Option O)->Prop} {w:WK K} {k n:Nat} {rs:List (List V)} {fz:Bool} (hk:h k=some (.rows 3 rs fz)) (hf: ∀r∈rs,∀v∈r,V.tree v=true)
 (ha: [a,b].flatMap (zba h)=[]) (hK: ∀h',K r h'):zlN (some r) false h [a,b,.ms k 0 n] K w:=by
 refine zs5 hk ?_ fun h' _ _=>hK h'
 have:=zo6 (i:=0) (n:=n) hk hf;rw[show [a,b,V.ms k 0 n]=[a,b]++[V.ms k 0 n]from rfl,List.flatMap_append,ha,this];rfl
theorem zMo:Den Γ G 470 []=some (vb true):=by
 obtain⟨v,hG,v1,v2,v3,h1⟩:=zL4;obtain⟨L,hw⟩:=hG.hd;have h2:=zK9 zLx zLV zLf 0 (by decide) [⟨0,0,0⟩] (by decide);rw[hG.ok,if_pos rfl,hw]at h2;have h0:=zML
 generalize zLx=P at h0 h1 h2
 simp only[go_sem,Choice.enc,zL2,Viol.enc,v1,v2,v3,List.map_cons,List.map_nil]at h1 h2
 (refine zag Γ470 rfl ?_;dsimp only[zNz])
 simp -dsimp -implicitDefEqProofs only[go_sem,seval,h0,h1,h2];have tr: ∀(l:List (List V)),(l.all fun r=>r.all V.tree)=true-> ∀r∈l,∀v∈r,V.tree v=true:=fun l h r hr v hv=>zN.1 (zN.1 h r hr) v hv
 refine zMr (by rw[zaa,if_pos rfl]) (tr _ rfl) rfl fun h'=> ?_
 simp -dsimp -implicitDefEqProofs only[go_sem,seval,h0,h1,h2]
theorem zLT {p:Prog} (h:zak p=true) {x:Cell} (hx:x∈p.cells): -1<=x.thread:=by
 have:=zfc (zha (zam h).2.1 x hx);exact this.2.2.2.2.2.1
theorem zLy (p:Prog) (hs:p.sane) (hf:zak p=true) {t i:Nat} {x:Thread} {s:Step} {m:Contract} (hx:p.threads[t]? =some x) (AE:x.steps[i]? =some s) (hm:p.modules[s.module.toNat]? =some m):
 Den Γ G 480 [(zP p),(zS s)]=some (vb (zMg p m s)):=by
 obtain⟨m',m0,m1,Fm⟩:=zKp hf hx AE;rw[hm]at Fm;cases Fm;have D8:m∈p.modules:=zL hm;have H5:m.frame.length<2^48:=(hs.mname m D8).2.2;have BA:s.set.length<2^48:=hs.sets x (zL hx) s (zL AE)
 (refine zag Γ480 rfl ?_;dsimp only[zNs])
 simp -dsimp -implicitDefEqProofs only[go_sem,seval];refine zaT 281474976703184 s.set.length (fun j f=>(f 13).v=vi j/\zMg p m s=(s.set.drop j).any fun a=>zKO p a.cell&& !m.frame.contains a.cell) rfl rfl ⟨by simp -dsimp -implicitDefEqProofs only[go_sem,seval],rfl⟩ ?_;rintro j f u kk bb hj ⟨g13,hq⟩;have hw:=zan j (by omega)
 by_cases AN:j<s.set.length
 ·have Ba:=eq_true AN;obtain⟨a,ha,Cp⟩:=zai AN;have hr:=((zb7 hf hx AE).rng.2 a Cp).1;simp only[inR,decide_eq_true_eq]at hr;obtain⟨c0,c1⟩:=hr;obtain⟨y,hy,Eq⟩:=zai (show a.cell.toNat<p.cells.length by omega);have Bo:zKO p a.cell=decide (y.thread= -1):=by simp only[zKO,hy]
  have GW:=zdo ha;have TG:=zLT hf Eq
  by_cases IP:0<=y.thread
  ·simp -dsimp -implicitDefEqProofs only[go_sem,seval,g13,Ba,ha,c0,c1,hy,IP];exact⟨AN,by simp -dsimp -implicitDefEqProofs only[go_sem,seval,hw],by rw[hq,GW,List.any_cons,Bo,decide_eq_false (by omega)];rfl⟩
  ·have P9:=eq_false IP;simp -dsimp -implicitDefEqProofs only[go_sem,seval,g13,Ba,ha,c0,c1,hy,P9,m0,m1,hm];refine zaT 35175782154880 m.frame.length (fun q f=>(f 33).v=vi q/\(f 7).v=vb ((m.frame.take q).contains a.cell)) rfl rfl ⟨by simp -dsimp -implicitDefEqProofs only[go_sem,seval],by simp -dsimp -implicitDefEqProofs only[go_sem,seval];rfl⟩ ?_;rintro q f1 u1 kk1 bb1 Iz ⟨g33,g7⟩;have Kc:=zan q (by omega)
   by_cases Ed:q<m.frame.length
   ·have Si:=eq_true Ed;obtain⟨n,hn,_⟩:=zai Ed;have Dv:=zaf hn;cases hc:(m.frame.take q).contains a.cell
    ·rw[hc]at g7
     have e1:(decide (n=a.cell))=(m.frame.take (q+1)).contains a.cell:=by
      rw[Dv,List.contains_append,hc,Bool.false_or]
      by_cases e:n=a.cell
      ·simp[e]
      ·simp[e,Ne.symm e]
     simp -dsimp -implicitDefEqProofs only[go_sem,seval,g33,g7,Si,hn];exact⟨Ed,by simp -dsimp -implicitDefEqProofs only[go_sem,seval,Kc],by simp -dsimp -implicitDefEqProofs only[go_sem,seval,e1]⟩
    ·rw[hc]at g7
     have e1:(m.frame.take (q+1)).contains a.cell=true:=by
      rw[Dv,List.contains_append,hc,Bool.true_or]
     simp -dsimp -implicitDefEqProofs only[go_sem,seval,g33,g7,Si,hn];exact⟨Ed,by simp -dsimp -implicitDefEqProofs only[go_sem,seval,Kc],by simp -dsimp -implicitDefEqProofs only[go_sem,seval,e1]⟩
   ·have Si:=eq_false Ed;have:q=m.frame.length:=by omega
    subst this;rw[List.take_length]at g7;cases hc:m.frame.contains a.cell
    ·rw[hc]at g7
     have hO:zMg p m s=true:=by
      rw[hq,GW,List.any_cons,Bo,hc,decide_eq_true (show y.thread= -1 by omega)];rfl
     rw[hO];simp -dsimp -implicitDefEqProofs only[go_sem,seval,g33,g7,Si]
    ·rw[hc]at g7;simp -dsimp -implicitDefEqProofs only[go_sem,seval,g33,g7,Si,g13];exact⟨AN,by simp -dsimp -implicitDefEqProofs only[go_sem,seval,hw],by rw[hq,GW,List.any_cons,Bo,hc];simp⟩
 ·have Ba:=eq_false AN;have:j=s.set.length:=by omega
  subst this;simp -dsimp -implicitDefEqProofs only[go_sem,seval,g13,Ba];rw[hq,List.drop_length];rfl
inductive VT (p:Prog) (X:List Choice) (cs:List Config) (c:Config):Viol->Prop
 | k1 (at_ md:Int) (t:Nat) (x:Thread) (n:Nat) (a:Expr) (h0:0<=md) (h1:md<p.modules.length) (hx:p.threads[t]? =some x) (hn:c.at_[t]? =some (n:Int)) (hp:(n:Int)<x.points) (ha:x.asserts[n]? =some a) (he:a.eval [] c.mem=0):VT p X cs c ⟨at_,1,md,t,n⟩
 | k2 (at_ md th:Int) (i:Nat) (l:Lock) (h0:0<=md) (h1:md<p.modules.length) (hl:p.locks[i]? =some l) (CM:0<=l.cell) (hc:c.mem[l.cell.toNat]? =some 0) (he:l.inv.eval [] c.mem=0):VT p X cs c ⟨at_,2,md,th,i⟩
 | st (v:Viol) (t i:Nat) (ce:Int) (x:Thread) (s:Step) (m:Contract) (b:Config) (hn:0<X.length) (hy:X[X.length-1]? =some ⟨t,i,ce⟩) (hx:p.threads[t]? =some x) (hs:x.steps[i]? =some s) (hm:p.modules[s.module.toNat]? =some m) (hb:cs[X.length-1]? =some b)
    (h:(v.kind=4/\v.module=s.module/\zMg p m s=true)\/(v.kind=3/\v.module=s.module/\m.guar.eval b.mem c.mem=0)\/
      (v.kind=5/\zMg p m s=false/\m.guar.eval b.mem c.mem=1/\v.thread≠t/\0<=v.module/\v.module<p.modules.length/\ ∃d,p.modules[v.module.toNat]? =some d/\d.rely.eval b.mem c.mem=0)):VT p X cs c v
theorem zMF {p:Prog} (hf:zak p=true) {j:Nat} {m:Contract} (h:p.modules[j]? =some m) (o n:List Int) (h0:m.guar.eval o n≠0):m.guar.eval o n=1:=by
 obtain⟨g1,g2,_⟩:=zMd hf h;have h1:=zMf m.guar o n
 have h2:m.guar.formed=true:=by
  have:=g1;simp only[Expr.valid,zF]at this;exact this.1
 have h3:=h1.2 h2;rw[g2]at h3;have h4:=h1.1;have:(2:Int)^(1:Int).toNat=2:=rfl;omega
theorem zNE {p:Prog} (hs:p.sane) (hf:zak p=true) {k:Int} {X:List Choice} {v:Viol} (G:GoodX p k X v): ∃c,(zKk p k X)[X.length]? =some c/\IsB p c/\VT p X (zKk p k X) c v:=by
 have hE:=zMq hf hs X X.length (k:=k) (by rw[G.len];omega);have Tt:=G.vp;obtain⟨c,hc,_⟩:=zai (show X.length<(zKk p k X).length by rw[G.len];omega);have Tm:(zKz p X (zKk p k X) X.length).af=c:=by simp only[zKz,zK,hc,Option.getD_some]
 have Ty:(zKz p X (zKk p k X) X.length).p=p:=rfl;have Bj:(zKz p X (zKk p k X) X.length).at_=(X.length:Int)-1:=rfl
 have Tz:0<X.length->X[X.length-1]? =some (zKz p X (zKk p k X) X.length).ch:=fun h=>by
  obtain⟨y,hy,_⟩:=zai (show X.length-1<X.length by omega);simp only[zKz,if_neg (show ¬X.length=0 by omega),zK,hy,Option.getD_some]
 have Sm:0<X.length->(zKk p k X)[X.length-1]? =some (zKz p X (zKk p k X) X.length).bf:=fun h=>by
  obtain⟨y,hy,_⟩:=zai (show X.length-1<(zKk p k X).length by rw[G.len];omega);simp only[zKz,if_neg (show ¬X.length=0 by omega),zK,hy,Option.getD_some]
 refine⟨c,hc,by rw[<- Tm];exact hE.af,?_⟩
 revert hE Tt Tm Ty Bj Tz Sm
 generalize zKz p X (zKk p k X) X.length=e
 intro hE Tt Tm Ty Bj Tz Sm;subst Tm;subst Ty
 have AE: ∀{s:Step},zKy e=true->zKS e=some s-> ∃t i x,0<X.length/\X[X.length-1]? =some ⟨(t:Nat),(i:Nat),e.ch.cell⟩/\e.ch.thread=(t:Nat)/\e.p.threads[t]? =some x/\x.steps[i]? =some s:=fun{s} h1 h2=>by
  obtain⟨a1,a2⟩:=zKQ h1;obtain⟨x,s',t,i,hS⟩:=hE.st a1 a2;rw[hS.step]at h2;cases h2;have hn:0<X.length:=by omega
  refine⟨t,i,x,hn,?_,hS.ht,hS.hx,hS.hs⟩;rw[Tz hn,<- hS.ht,<- hS.hi]
 cases Tt with
 | k4 s m h h2 hm ho hv=>
   obtain⟨t,i,x,n0,y1,y2,y3,y4⟩:=AE h h2;subst hv
   exact .st _ t i _ x s m _ n0 y1 y3 y4 hm (Sm n0) (.inl ⟨rfl,rfl,ho⟩)
 | k3 s m h h2 hm ho hv=>
   obtain⟨t,i,x,n0,y1,y2,y3,y4⟩:=AE h h2;subst hv
   exact .st _ t i _ x s m _ n0 y1 y3 y4 hm (Sm n0) (.inr (.inl ⟨rfl,rfl,ho⟩))
 | k5 t h hF hG ht hv=>
   obtain⟨x0,s0,t0,i0,hS⟩:=hE.st (zKQ h).1 (zKQ h).2;obtain⟨m0,m1,m2,hm⟩:=zKp hf hS.hx hS.hs;obtain⟨t,i,x,n0,y1,y2,y3,y4⟩:=AE h hS.step
   have o1:zMg e.p m0 s0=false:=by
    cases q:zMg e.p m0 s0
    ·rfl
    ·simp only[zKB,h,hS.step,hm,q,if_true]at hF;cases hF
   have o2:m0.guar.eval e.bf.mem e.af.mem=1:=by
    refine zMF hf hm _ _ fun q=> ?_
    simp only[zKW,h,hS.step,hm,q,if_true]at hG;cases hG
   unfold zKv at hv;split at hv
   ·rename_i z n hz hn;split at hv
    ·cases hv
    ·rename_i Az;split at hv
     ·rename_i md TB;split at hv
      ·rename_i d hd;split at hv
       ·rename_i hr;cases hv;have BC:=(zKt hf hz).2.2.1 md (zL TB);exact .st _ t i _ x s0 m0 _ n0 y1 y3 y4 hm (Sm n0) (.inr (.inr ⟨rfl,o1,o2,fun q=>Az (.inl (by rw[y2];exact q)),BC.1,BC.2,d,hd,hr.2⟩))
       ·cases hv
      ·cases hv
     ·cases hv
   ·cases hv
 | k2 i hi hv=>
   have Fz:=hv;unfold zKA at hv;split at hv
   ·rename_i l hl;obtain⟨l0,l1,l2,l3,l4,l5⟩:=zLF hf hl;split at hv
    ·cases hv
    ·rename_i Az;cases hv;simp only[not_or,Decidable.not_not]at Az
     have Ju:0<=zKx e l/\zKx e l<e.p.modules.length:=by
      unfold zKx;split
      ·rename_i s h1 h2;simp only[zKo,zF,decide_eq_true_eq]at h1;obtain⟨x,s',t,j,hS⟩:=hE.st h1.1 h1.2;rw[hS.step]at h2;cases h2;obtain⟨m,q1,q2,_⟩:=zKp hf hS.hx hS.hs;exact⟨q1,q2⟩
      ·split
       ·rename_i h0;obtain⟨t,x,a,y1,y2,y3,y4⟩:=hE.th h0;rw[y1,Int.toNat_natCast,y2,y3];simp only[Int.toNat_natCast];obtain⟨_,ml,mr,_⟩:=zKt hf y2;have:a<x.modules.length:=by omega
        rw[zK,zI this,Option.getD_some];exact mr _ (List.getElem_mem _)
       ·exact⟨l2,l3⟩
     obtain⟨z,hz,_⟩:=zai (show l.cell.toNat<e.af.mem.length by rw[hE.af.lm];omega);have Ip:=Az.1;rw[zK,hz,Option.getD_some]at Ip;subst Ip;exact .k2 _ _ _ i l Ju.1 Ju.2 hl l0 hz (by rw[<- Az.2];exact zLj l4 fun _ _=>rfl)
   ·cases hv
 | k1 t ht hv=>
   unfold zKY at hv;split at hv
   ·rename_i x n hx hn;split at hv
    ·cases hv
    ·rename_i Fj;split at hv
     ·rename_i a ha;split at hv
      ·cases hv
      ·rename_i Az;cases hv;simp only[Decidable.not_not]at Az;obtain⟨al,ml,mr,mv⟩:=zKt hf hx;obtain⟨n0,n1,_⟩:=hE.af.at_ t n x hn hx;have RG:((n.toNat:Nat):Int)=n:=by omega
       have Ju:0<=zKw e x t n/\zKw e x t n<e.p.modules.length:=by
        have hg:0<=x.modules.getD n.toNat 0/\x.modules.getD n.toNat 0<e.p.modules.length:=by
         have:n.toNat<x.modules.length:=by omega
         rw[zK,zI this,Option.getD_some];exact mr _ (List.getElem_mem _)
        unfold zKw;split
        ·rename_i s h1 h2;simp only[zKo,zF,decide_eq_true_eq]at h1;obtain⟨x',s',t',j,hS⟩:=hE.st h1.1 h1.2;rw[hS.step]at h2;cases h2;obtain⟨m,q1,q2,_⟩:=zKp hf hS.hx hS.hs;split
         ·exact⟨q1,q2⟩
         ·exact hg
        ·exact hg
       have:=VT.k1 (p:=e.p) (X:=X) (cs:=zKk e.p k X) (c:=e.af) e.at_ (zKw e x t n) t x n.toNat a Ju.1 Ju.2 hx (by rw[RG];exact hn) (by omega) ha (by rw[<- Az];exact zLj (mv a (zL ha)).1 fun _ _=>rfl);rw[RG]at this;exact this
     ·cases hv
   ·cases hv
set_option maxRecDepth 100000
theorem zLK (p:Prog) (hs:p.sane) (hf:zak p=true) (X:List Choice) (hX:X.length<=120) (cs:List Config) (AL:cs.length=X.length+1) {c:Config} (hc:cs[X.length]? =some c) (hB:IsB p c) {v:Viol} (hv:VT p X cs c v):
 Den Γ G 474 [(zP p),.t (.sl (X.map Choice.enc)),.t (.sl (cs.map Config.enc)),.agg (v.enc.map V.t)]=some (vb true):=by
 have Bb:(X.map Choice.enc).length=X.length:=by simp
 have Iy:(cs.map Config.enc).length=X.length+1:=by simp[AL]
 have w1:IntKind.i64.wrap (((X.length+1:Nat):Int)-1)=(X.length:Int):=by rw[zaH (by omega)];omega
 have la:=hB.la;have lm:=hB.lm
 cases hv with
 | k1 at_ md t x n a h0 h1 hx hn hp ha he=>
   have e1:Den Γ G 27 [(.agg [.t (ti (a).op),.t (ti (a).w),.t (ti (a).n),.t (.sl ((a).kids.map (Expr.enc)))]),.t (.sl []),.t (ints c.mem)]=some (vi 0):=(zd4 a [] c.mem).trans (by rw[he]);have m1:(md<0)=False:=eq_false (by omega);have m2:(md>=(p.modules.length:Int))=False:=eq_false (by omega);have ht:=(zH.1 hx).1;have t1:((t:Int)<(p.threads.length:Int))=True:=eq_true (by omega);have DN:=eq_true hp
   (refine zag Γ474 rfl ?_;dsimp only[zMJ])
   simp -dsimp -implicitDefEqProofs only[go_sem,seval,Viol.enc,Bb,Iy,w1,hc,m1,m2,la,lm,t1,hx,hn,DN,ha,e1]
 | k2 at_ md th i l h0 h1 hl CM BI he=>
   have e1:Den Γ G 27 [(.agg [.t (ti (l.inv).op),.t (ti (l.inv).w),.t (ti (l.inv).n),.t (.sl ((l.inv).kids.map (Expr.enc)))]),.t (.sl []),.t (ints c.mem)]=some (vi 0):=(zd4 l.inv [] c.mem).trans (by rw[he]);have m1:(md<0)=False:=eq_false (by omega);have m2:(md>=(p.modules.length:Int))=False:=eq_false (by omega);have ht:=(zH.1 hl).1;have t1:((i:Int)<(p.locks.length:Int))=True:=eq_true (by omega)
   (refine zag Γ474 rfl ?_;dsimp only[zMJ])
   simp -dsimp -implicitDefEqProofs only[go_sem,seval,Viol.enc,Bb,Iy,w1,hc,m1,m2,la,lm,t1,hl,CM,BI,e1]
 | st _ t i ce x s m b hn hy hx AE hm hb h=>
   obtain⟨at_,kd,md,th,it⟩:=v;simp only at h;have Mn:=zLy p hs hf hx AE hm;obtain⟨m',m0,m1,Fm⟩:=zKp hf hx AE;have Bv:=zd4 m.guar b.mem c.mem;have e0:((X.length:Int)=0)=False:=eq_false (by omega);have w3:IntKind.i64.wrap ((X.length:Int)-1)=(X.length:Int)-1:=zaH (by omega);have w4:IntKind.i64.wrap (((X.length+1:Nat):Int)-2)=(X.length:Int)-1:=by rw[zaH (by omega)];omega
   have t3:((X.length:Int)-1).toNat=X.length-1:=by omega
   have p3:(0<=(X.length:Int)-1)=True:=eq_true (by omega);have i0:((i:Int)<0)=False:=eq_false (by omega);rcases h with⟨rfl,rfl,h1⟩ | ⟨rfl,rfl,h1⟩ | ⟨rfl,h1,h2,h3,h4,h5,d,h6,h7⟩
   ·have z1:(s.module<0)=False:=eq_false (by omega);have z2:(s.module>=(p.modules.length:Int))=False:=eq_false (by omega);rw[h1]at Mn
    (refine zag Γ474 rfl ?_;dsimp only[zMJ])
    simp -dsimp -implicitDefEqProofs only[go_sem,seval,Viol.enc,Bb,Iy,w1,hc,z1,z2,la,lm,e0,w3,w4,t3,p3,i0,hy,hb,hx,AE,Mn,m0,m1,hm,Bv]
   ·have z1:(s.module<0)=False:=eq_false (by omega);have z2:(s.module>=(p.modules.length:Int))=False:=eq_false (by omega);rw[h1]at Bv
    (refine zag Γ474 rfl ?_;dsimp only[zMJ])
    simp -dsimp -implicitDefEqProofs only[go_sem,seval,Viol.enc,Bb,Iy,w1,hc,z1,z2,la,lm,e0,w3,w4,t3,p3,i0,hy,hb,hx,AE,Mn,m0,m1,hm,Bv]
   ·have z1:(md<0)=False:=eq_false (by omega);have z2:(md>=(p.modules.length:Int))=False:=eq_false (by omega);have Bh:=zd4 d.rely b.mem c.mem;have z3:=eq_false h3;rw[h1]at Mn;rw[h2]at Bv;rw[h7]at Bh
    (refine zag Γ474 rfl ?_;dsimp only[zMJ])
    simp -dsimp -implicitDefEqProofs only[go_sem,seval,Viol.enc,Bb,Iy,w1,hc,z1,z2,la,lm,e0,w3,w4,t3,p3,i0,hy,hb,hx,AE,Mn,m0,m1,hm,Bv,z3,h4,h5,h6,Bh]
end Rg
end
section
namespace Rg
open Go
theorem zGx: ∀(l:List Choice) (x:Choice),zGn (l++[x])=if l=[]then zGp x else zGn l++32::zGp x
 | [],x=>rfl
 | [y],x=>rfl
 | y::z::r,x=>by
   have ih:=zGx (z::r) x;rw[if_neg (by simp)]at ih⊢;show zGp y++32::zGn ((z::r)++[x])=_;rw[ih];simp[zGn]
set_option maxHeartbeats 4000000 in
theorem zHJ (run:List Choice) (hr: ∀x∈run,zGI x=true) (hl:run.length<=120):
 Den Γ G 457 [.t (.sl (run.map Choice.enc)),.t (.str (bs [32])),.t (.fn 458 [] [])]=some (.t (.str (bs (zGn run)))):=by
 (refine zag Γ457 rfl ?_;dsimp only[zIB])
 simp -dsimp -implicitDefEqProofs only[go_sem,seval]
 refine zaq 67105536 run.length (fun i f h x=>(f 12).v=vi i/\Bld h 1 (zGn (run.take i))/\zGF h x) rfl
  ⟨by simp -dsimp -implicitDefEqProofs only[go_sem,seval],by simp -dsimp -implicitDefEqProofs only[go_sem,seval];exact .inl ⟨by simp -dsimp -implicitDefEqProofs only[go_sem,seval],rfl⟩,by simp -dsimp -implicitDefEqProofs only[go_sem,seval];exact fun q hq=>by rw[zaa,if_neg (by omega)]⟩ ?_
 rintro i f u h x bb hi ⟨h12,hB,hF⟩;have BF:=zan i (by omega)
 by_cases AV:i<run.length
 ·have DB:=eq_true AV;obtain⟨y,hy,Eq⟩:=zai AV;have Sw:=hr y Eq;obtain⟨b1,b2⟩:=zGA.1 Sw;have Sx:=zHP y b1 (by omega) (by omega);have Er:=zGt Sw;have ht:run.take (i+1)=run.take i++[y]:=by rw[List.take_add_one,hy];rfl
  have Ac:=zGC (run.take i) fun z hz=>hr z (List.mem_of_mem_take hz)
  rw[List.length_take]at Ac;have Ap:(run.map Choice.enc)[i]? =some [ti y.thread,ti y.step,ti y.cell]:=by rw[zJ,hy];rfl
  simp -dsimp -implicitDefEqProofs only[go_sem,seval,h12,DB,Ap,Choice.enc]
  by_cases h0:i=0
  ·subst h0;simp -dsimp -implicitDefEqProofs only[go_sem,seval,Sx];refine zas (zGJ (s:=bs (zGp y)) hB (hF.mono (by omega)) (by rw[zxe];simp[zGn];omega)) ?_;rintro r h' n' ⟨q1,_,q3,q4⟩;simp -dsimp -implicitDefEqProofs only[go_sem,seval,BF,h12];refine⟨AV,by simp -dsimp -implicitDefEqProofs only[go_sem,seval,h12,BF],?_,by simp -dsimp -implicitDefEqProofs only[go_sem,seval];exact q4.mono (by omega)⟩;rw[ht,zGx,List.take_zero,if_pos rfl];rw[List.take_zero,zxf]at q1;exact q1
  ·have Mi:((i:Int)>0)=True:=eq_true (by omega);simp -dsimp -implicitDefEqProofs only[go_sem,seval,Mi];refine zas (zGJ (s:=bs [32]) hB (hF.mono (by omega)) (by rw[zxe];simp;omega)) ?_;rintro r h' n' ⟨q1,_,q3,q4⟩;simp -dsimp -implicitDefEqProofs only[go_sem,seval,Sx,Ap,h12,Choice.enc];refine zas (zGJ (s:=bs (zGp y)) q1 (q4.mono (by omega)) (by rw[zxe,zxf];simp;omega)) ?_;rintro r h2 n2 ⟨p1,_,p3,p4⟩;simp -dsimp -implicitDefEqProofs only[go_sem,seval,BF,h12];refine⟨AV,by simp -dsimp -implicitDefEqProofs only[go_sem,seval,h12,BF],?_,by simp -dsimp -implicitDefEqProofs only[go_sem,seval];exact p4.mono (by omega)⟩;rw[ht,zGx,if_neg (by rw[List.take_eq_nil_iff];exact fun e=>e.elim h0 fun e=>absurd AV (by rw[e];simp))];rw[zxf,zxf]at p1;simpa using p1
 ·have DB:=eq_false AV;have:i=run.length:=by omega
  subst this;rw[List.take_length]at hB;simp -dsimp -implicitDefEqProofs only[go_sem,seval,h12,DB];refine zas (zH6 hB) ?_;rintro r h' n' rfl;simp -dsimp -implicitDefEqProofs only[go_sem,seval]
  done
end Rg
end
section
namespace Rg
open Go
theorem zGO (run:List Choice) (hr: ∀x∈run,zGI x=true) (hl:run.length<=120):Den Γ G 447 [.t (.sl (run.map Choice.enc))]=some (.tup [.t (.str (bs (zGn run))),vi 0]):=by
 have hj:=zHJ run hr hl;have Bb:(run.map Choice.enc).length=run.length:=by simp
 have Im: ¬((run.length:Int)>120):=by omega
 (refine zag Γ447 rfl ?_;dsimp only[zIK])
 simp -dsimp -implicitDefEqProofs only[go_sem,seval,Bb,Im];refine zaT 522284 run.length (fun i f=>(f 11).v=vi i) rfl rfl (by simp -dsimp -implicitDefEqProofs only[go_sem,seval]) ?_;rintro i f u kk bb hi h11;have hw:=zan i (by omega)
 by_cases AV:i<run.length
 ·have DB:=eq_true AV;obtain⟨y,hy,Eq⟩:=zai AV;have Ap:(run.map Choice.enc)[i]? =some [ti y.thread,ti y.step,ti y.cell]:=by rw[zJ,hy];rfl
  have Sx:=zGz y;rw[hr y Eq]at Sx;simp -dsimp -implicitDefEqProofs only[go_sem,seval,h11,DB,Ap,Sx];exact⟨AV,by simp -dsimp -implicitDefEqProofs only[go_sem,seval,hw]⟩
 ·have DB:=eq_false AV;have:i=run.length:=by omega
  subst this;simp -dsimp -implicitDefEqProofs only[go_sem,seval,h11,DB,hj]
theorem zGY (run:List Choice) (hl:run.length<2^40):Den Γ G 449 [.t (.sl (run.map Choice.enc)),.t (.sl (run.map Choice.enc))]=some (vb true):=by
 have Bb:(run.map Choice.enc).length=run.length:=by simp
 (refine zag Γ449 rfl ?_;dsimp only[zIJ])
 simp -dsimp -implicitDefEqProofs only[go_sem,seval,Bb,bne_self_eq_false];refine zaT 67106864 run.length (fun i f=>(f 5).v=vi i) rfl rfl (by simp -dsimp -implicitDefEqProofs only[go_sem,seval]) ?_;rintro i f u kk bb hi h5;have hw:=zan i (by omega)
 by_cases AV:i<run.length
 ·have DB:=eq_true AV;obtain⟨y,hy,Eq⟩:=zai AV;have Ap:(run.map Choice.enc)[i]? =some [ti y.thread,ti y.step,ti y.cell]:=by rw[zJ,hy];rfl
  simp -dsimp -implicitDefEqProofs only[go_sem,seval,h5,DB,Ap,Bb,bne_self_eq_false];exact⟨AV,by simp -dsimp -implicitDefEqProofs only[go_sem,seval,hw]⟩
 ·have DB:=eq_false AV;have:i=run.length:=by omega
  subst this;simp -dsimp -implicitDefEqProofs only[go_sem,seval,h5,DB,Bb]
def zH7:Prop:= ∀l:List UInt8,l.length<=100000->Den Γ G 459 [.t (.str (bs l)),.t (.str (bs [32]))]=some (.tup [.t (.str (bs (Go.Lib.cut l [32]).1)),.t (.str (bs (Go.Lib.cut l [32]).2.1)),vb (Go.Lib.cut l [32]).2.2])
theorem zHR {x:Choice} {r:List Choice} (h:zGI x=true):zGn (x::r)≠[]:=by
 have:=zGt h;intro e
 cases r with
 | nil=>rw[zGn]at e;rw[e]at this;simp at this
 | cons y r=>rw[zGn]at e;simp at e
set_option maxHeartbeats 4000000 in
theorem zHE (SP:zH7) (run:List Choice) (hr: ∀x∈run,zGI x=true) (hl:run.length<=120) (h0:run≠[]):
 Den Γ G 448 [.t (.str (bs (zGn run)))]=some (.tup [.t (.sl (run.map Choice.enc)),vi 0]):=by
 have CB:0<run.length:=List.length_pos_iff.2 h0
 have Az:((bs (zGn run)).toList==(bs []).toList)=false:=by
  rw[beq_eq_false_iff_ne,ByteArray.toList_eq,ByteArray.toList_eq,zxf,zxf]
  cases run with
  | nil=>exact absurd rfl h0
  | cons x r=>exact zHR (hr x (by simp))
 (refine zag Γ448 rfl ?_;dsimp only[zIs])
 simp -dsimp -implicitDefEqProofs only[go_sem,seval,Az]
 refine zaq 590295810358705537008 run.length (fun i f h x=>(f 7).v=vb (decide (i<run.length))/\(f 6).v= .t (.str (bs (zGn (run.drop i))))/\(f 5).v=vb true/\zaF h x (f 4).v 3 (zbe (run.take i))) rfl
  ⟨by simp -dsimp -implicitDefEqProofs only[go_sem,seval,CB],by simp -dsimp -implicitDefEqProofs only[go_sem,seval],by simp -dsimp -implicitDefEqProofs only[go_sem,seval],by simp -dsimp -implicitDefEqProofs only[go_sem,seval];exact .inl ⟨rfl,by simp[zbe]⟩⟩ ?_
 rintro i f u h x bb hi ⟨h7,h6,h5,hO⟩
 by_cases AV:i<run.length
 ·obtain⟨y,hy,Eq⟩:=zai AV;have Sw:=hr y Eq;have hd:run.drop i=y::run.drop (i+1):=zdo hy;have Ez:=SP (zGn (run.drop i)) (by have:=zGC (run.drop i) (fun z hz=>hr z (List.mem_of_mem_drop hz));rw[List.length_drop]at this;omega);rw[hd,zH2 y _ Sw]at Ez;rw[hd]at h6;have W:=zHu Sw;have hA:=W.a;have hB:=W.b;have Er:(zGp y).length=(num y.thread).length+1+(zH1 y).length:=by rw[zGu,zM,List.length_cons];omega
  simp -dsimp -implicitDefEqProofs only[go_sem,seval,h7,AV,h6,Ez]
  refine zaq 1125899839737376 (zGp y).length (fun j g h' x'=>(g 26).v=vi j/\(g 9).v=vi (if j<=(num y.thread).length then -1 else(num y.thread).length)/\(g 5).v=vb true/\h'=h/\x<=x') rfl
   ⟨by simp -dsimp -implicitDefEqProofs only[go_sem,seval],by simp -dsimp -implicitDefEqProofs only[go_sem,seval,Nat.zero_le],by simp -dsimp -implicitDefEqProofs only[go_sem,seval,h5],rfl,by simp -dsimp -implicitDefEqProofs only[go_sem,seval];omega⟩ ?_
  rintro j g u' h' x' bb' hj ⟨g26,g9,g5,rfl,Dc⟩;have C9:=zan j (by omega)
  by_cases AN:j<(zGp y).length
  ·have Ba:=eq_true AN;obtain⟨b,hb,EW⟩:=zai AN;have Om:(bs (zGp y))[j]? =some b:=by rw[zGv];exact hb
   have Cx:=hb;rw[zGu]at Cx;rcases Nat.lt_trichotomy j (num y.thread).length with Ad | Fq | B5
   ·rw[List.getElem?_append_left Ad]at Cx;have Kx:=hA.2.2 b (zL Cx);rw[if_pos (by omega)]at g9;have e1:((b.toNat:Int)=46)=False:=eq_false (by omega);have e2:((b.toNat:Int)=33)=False:=eq_false (by omega);have e3:((b.toNat:Int)<48)=False:=eq_false (by omega);have e4:((b.toNat:Int)>57)=False:=eq_false (by omega);simp -dsimp -implicitDefEqProofs only[go_sem,seval,g26,g9,Ba,Om,e1,e2,e3,e4];exact⟨AN,by simp -dsimp -implicitDefEqProofs only[go_sem,seval,C9],by simp -dsimp -implicitDefEqProofs only[go_sem,seval,g9];rw[if_pos (by omega)],by simp -dsimp -implicitDefEqProofs only[go_sem,seval,g5],rfl,by simp -dsimp -implicitDefEqProofs only[go_sem,seval];omega⟩
   ·subst Fq;rw[List.getElem?_append_right (Nat.le_refl _),Nat.sub_self]at Cx;cases Cx;rw[if_pos (Nat.le_refl _)]at g9;rcases(show zHs y=33\/zHs y=46 by unfold zHs;split<;>simp)with hm | hm
    ·have Pc:((zHs y).toNat:Int)=33:=by rw[hm];rfl
     simp -dsimp -implicitDefEqProofs only[go_sem,seval,g26,g9,Ba,Om,Pc];exact⟨AN,by simp -dsimp -implicitDefEqProofs only[go_sem,seval,C9],by simp -dsimp -implicitDefEqProofs only[go_sem,seval];rw[if_neg (by omega)],by simp -dsimp -implicitDefEqProofs only[go_sem,seval,g5],rfl,by simp -dsimp -implicitDefEqProofs only[go_sem,seval];omega⟩
    ·have Pc:((zHs y).toNat:Int)=46:=by rw[hm];rfl
     simp -dsimp -implicitDefEqProofs only[go_sem,seval,g26,g9,Ba,Om,Pc];exact⟨AN,by simp -dsimp -implicitDefEqProofs only[go_sem,seval,C9],by simp -dsimp -implicitDefEqProofs only[go_sem,seval];rw[if_neg (by omega)],by simp -dsimp -implicitDefEqProofs only[go_sem,seval,g5],rfl,by simp -dsimp -implicitDefEqProofs only[go_sem,seval];omega⟩
   ·rw[List.getElem?_append_right (by omega),show j-(num y.thread).length=(j-(num y.thread).length-1)+1 by omega,List.getElem?_cons_succ]at Cx;have Kx:=hB.2.2 b (zL Cx);rw[if_neg (by omega)]at g9;have e3:((b.toNat:Int)<48)=False:=eq_false (by omega);have e4:((b.toNat:Int)>57)=False:=eq_false (by omega);have e5:((((num y.thread).length:Nat):Int)<0)=False:=eq_false (by omega);simp -dsimp -implicitDefEqProofs only[go_sem,seval,g26,g9,Ba,Om,e3,e4,e5];exact⟨AN,by simp -dsimp -implicitDefEqProofs only[go_sem,seval,C9],by simp -dsimp -implicitDefEqProofs only[go_sem,seval,g9];rw[if_neg (by omega)],by simp -dsimp -implicitDefEqProofs only[go_sem,seval,g5],rfl,by simp -dsimp -implicitDefEqProofs only[go_sem,seval];omega⟩
  ·have Ba:=eq_false AN;have:j=(zGp y).length:=by omega
   subst this;rw[if_neg (by omega)]at g9;have e5:((((num y.thread).length:Nat):Int)<0)=False:=eq_false (by omega);have BX:=hO.lenS;rw[zbe,List.length_map,List.length_map,List.length_take,Nat.min_eq_left (by omega)]at BX;have e6:((i:Int)=120)=False:=eq_false (by omega);have hv:=hO.valOf;have r1:=(hO.upd (q:=x'+1+7+9+2+2) (by omega) (some (O.rows 3 [[vi y.thread,vi y.step,vi y.cell]] false))).rowsS;simp -dsimp -implicitDefEqProofs only[go_sem,seval,g26,g9,Ba,e5,BX,e6,W.den,hv,r1];refine zav (hO.upd (q:=x'+1+7+9+2+2) (by omega) _) (by omega) (by rw[zbe,List.length_map,List.length_map,List.length_take];omega) (by decide) rfl (zd0 _) ?_;intro v hp hP _ _;have w1:=hP.valOf;have w2:=hP.cellsV;unfold V.cells at w2;simp -dsimp -implicitDefEqProofs only[go_sem,seval,w1,w2];have ht:run.take (i+1)=run.take i++[y]:=by rw[List.take_add_one,hy];rfl
   have Sy:decide (run.drop (i+1)≠[])=decide (i+1<run.length):=by
    have:(run.drop (i+1)≠[])<->i+1<run.length:=by rw[Ne,List.drop_eq_nil_iff];omega
    exact decide_eq_decide.2 this
   refine⟨AV,by simp -dsimp -implicitDefEqProofs only[go_sem,seval,Sy],by simp -dsimp -implicitDefEqProofs only[go_sem,seval],by simp -dsimp -implicitDefEqProofs only[go_sem,seval,g5],?_⟩;rw[ht,zcY];simp -dsimp -implicitDefEqProofs only[go_sem,seval];exact hP.le (by omega)
 ·have:i=run.length:=by omega
  subst this;have Kr:=eq_false (Nat.lt_irrefl run.length);rw[List.take_length]at hO;rcases hO with⟨_,h4⟩ | ⟨kk,h4,_,AB⟩
  ·have:=congrArg List.length h4;rw[zbX]at this;exact absurd CB (by rw[show run.length=0 from this];exact Nat.lt_irrefl 0)
  ·simp -dsimp -implicitDefEqProofs only[go_sem,seval,h7,Kr,h5,h4,AB];rw[if_pos (Nat.le_refl _),List.take_length,zD,show(zbe run).mapM (fun row=>row.mapM (toT h 999))=some (run.map Choice.enc)from zdJ h 999 _ (zcN _)];rfl
theorem zHl:Den Γ G 448 [.t (.str (bs []))]=some (.tup [.t (.sl []),vi 0]):=by
 (refine zag Γ448 rfl ?_;dsimp only[zIs])
 simp -dsimp -implicitDefEqProofs only[go_sem,seval,beq_self_eq_true]
 try rfl
end Rg
end

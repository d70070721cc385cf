/- Part of the proof of laws of relyguardlaw31. No condition. -/
import Derived.Test.YtcmeofagpechdaaGreatDoorPartAW
set_option linter.unusedSimpArgs false
set_option linter.unusedVariables false
section
set_option maxRecDepth 100000
namespace Rg
open Go
set_option maxHeartbeats 2000000
theorem zdX (p:Prog) (hp:p.ok) (hs:p.sane) (he:p.smE) (l:List Pl) (hl:l.length<2^20) (hpl: ∀x∈l,znZ p x):Den Γ G 404 [(.agg [.t (.sl ((p).cells.map (Cell.enc))),.t (.sl ((p).modules.map (Contract.enc))),.t (.sl ((p).locks.map (Lock.enc))),.t (.sl ((p).threads.map (Thread.enc)))]),.t (.sl (l.map Pl.enc))]=some (.tup [(.agg [.t (.sl (((insM p l).1).cells.map (Cell.enc))),.t (.sl (((insM p l).1).modules.map (Contract.enc))),.t (.sl (((insM p l).1).locks.map (Lock.enc))),.t (.sl (((insM p l).1).threads.map (Thread.enc)))]),vi (insM p l).2]):=by
 have hv:=zeq p hs;have hvb:validB p=true:=by simpa[validB]using hp
 rw[hvb]at hv;have hins:=zfH p hp he l hl hpl
 (refine den_ofY Γ404 rfl ?_;dsimp only[zrq])
 simp -dsimp -implicitDefEqProofs only[go_sem,seval,hv];refine zaz 562949953405104 l.length (fun i f=>(f 14).v=vi i/\(f 4).v= .lb/\ ∃b,(f 4).box=some b/\b.length=4) rfl rfl ⟨by simp -dsimp -implicitDefEqProofs only[go_sem,seval],by simp -dsimp -implicitDefEqProofs only[go_sem,seval],[zn,zn,zn,zn],by simp -dsimp -implicitDefEqProofs only[go_sem,seval],rfl⟩ ?_;rintro i f u x bs hi ⟨h14,h4,b,h4b,hb⟩;have hw:=zah i (by omega);simp -dsimp -implicitDefEqProofs only[go_sem,seval,h14]
 by_cases hlt:i<l.length
 ·have hlt1:=eq_true hlt;obtain⟨z,hz,hzm⟩:=zaf hlt;obtain⟨y,hy,hyl⟩:=hpl z hzm;have htl:=(zH.1 hy).1;have k1: ¬((z.1:Int)<0):=by omega
  have k2: ¬((z.2:Int)<0):=by omega
  have k3: ¬((z.1:Int)>=(p.threads.length:Int)):=by omega
  have k4: ¬((z.2:Int)>=(y.steps.length:Int)):=by omega
  simp -dsimp -implicitDefEqProofs only[go_sem,seval,h14,hlt1,hz,hy,k1,k2,k3,k4];exact⟨hlt,by simp -dsimp -implicitDefEqProofs only[go_sem,seval,hw],by simp -dsimp -implicitDefEqProofs only[go_sem,seval];exact h4,b,by simp -dsimp -implicitDefEqProofs only[go_sem,seval];exact h4b,hb⟩
 ·have hlt1:=eq_false hlt
  obtain⟨a1,a2,a3,a4,rfl⟩: ∃a1 a2 a3 a4,b=[a1,a2,a3,a4]:=by
   match b,hb with
   | [a1,a2,a3,a4],_=>exact⟨_,_,_,_,rfl⟩
  simp -dsimp -implicitDefEqProofs only[go_sem,seval,h14,hlt1,hins,h4,h4b]
theorem zjz (p:Prog) (hl:p.lite):Den Γ G 409 [(.agg [.t (.sl ((p).cells.map (Cell.enc))),.t (.sl ((p).modules.map (Contract.enc))),.t (.sl ((p).locks.map (Lock.enc))),.t (.sl ((p).threads.map (Thread.enc)))])]=some (vb (fewM p&&formedM p)):=by
 have h1:=zni p hl.steps
 (refine den_ofY Γ409 rfl ?_;dsimp only[zro])
 simp -dsimp -implicitDefEqProofs only[go_sem,seval,h1];cases h:fewM p
 ·simp -dsimp -implicitDefEqProofs only[go_sem,seval];rfl
 ·have h2:=zh2 p (few_sane hl h);simp -dsimp -implicitDefEqProofs only[go_sem,seval,h2]
theorem zhx (l:List Pl) (n:Nat) (hl:l.length<2^20):Den Γ G 405 [.t (.sl (l.map Pl.enc)),vi n]=some (.t (.sl ((l.eraseIdx n).map Pl.enc))):=by
 (refine den_ofY Γ405 rfl ?_;dsimp only[zrp])
 simp -dsimp -implicitDefEqProofs only[go_sem,seval];refine zaj 8388576 l.length (fun i f h z=>(f 6).v=vi i/\OwnB h z (f 5).v 2 (rwG Pl.enc ((l.take i).eraseIdx n))) rfl ⟨by simp -dsimp -implicitDefEqProofs only[go_sem,seval],.inl ⟨by simp -dsimp -implicitDefEqProofs only[go_sem,seval],by simp[rwG]⟩⟩ ?_;rintro i f u H q bq hi ⟨h6,hO⟩;have hw:=zah i (by omega);simp -dsimp -implicitDefEqProofs only[go_sem,seval,h6]
 by_cases hlt:i<l.length
 ·have hlt1:=eq_true hlt;obtain⟨x,hx,hxm⟩:=zaf hlt
  by_cases hn:i=n
  ·have hn1:((i:Int)=(n:Int))=True:=eq_true (by omega);simp -dsimp -implicitDefEqProofs only[go_sem,seval,h6,hlt1,hn1];refine⟨hlt,by simp -dsimp -implicitDefEqProofs only[go_sem,seval,hw],?_⟩;simp -dsimp -implicitDefEqProofs only[go_sem,seval]
   rw[show(l.take (i+1)).eraseIdx n=(l.take i).eraseIdx n by
    have hlen:(l.take i).length=i:=by simp;omega
    rw[zae hx,List.eraseIdx_append_of_length_le (by omega),hlen,hn,Nat.sub_self,List.eraseIdx_of_length_le (l:=l.take n) (by simp;omega)];simp]
   exact hO.le (by omega)
  ·have hn1:((i:Int)=(n:Int))=False:=eq_false (by omega);replace hO:=hO.le (y:=q+4+3) (by omega);have v1:=hO.valOf;have v2:=hO.r1;have hel:((l.take i).eraseIdx n).length<=i:=Nat.le_trans (List.length_eraseIdx_le _ _) (by simp;omega)
   have hes:(l.take (i+1)).eraseIdx n=(l.take i).eraseIdx n++[x]:=by
    have hlen:(l.take i).length=i:=by simp;omega
    rw[zae hx]
    by_cases h:n<i
    ·rw[List.eraseIdx_append_of_lt_length (by omega)]
    ·rw[List.eraseIdx_append_of_length_le (by omega),List.eraseIdx_of_length_le (l:=l.take i) (by omega),List.eraseIdx_of_length_le (by rw[hlen];simp;omega)]
   simp -dsimp -implicitDefEqProofs only[go_sem,seval,h6,hlt1,hn1,v1,v2,hx];refine zas ((hO.le (y:=q+4+3+5) (by omega)).upd (Nat.le_refl _) _) (by omega) (by rw[zbm];omega) (by decide) rfl (rwG_all _ pl_elen _) ?_;intro v hp hO3 hoffs hkeep;have w1:=hO3.valOf;replace hO3:=zdQ hO3 (show _=rwG Pl.enc ((l.take (i+1)).eraseIdx n)by rw[hes,zcf];rfl);simp -dsimp -implicitDefEqProofs only[go_sem,seval,h6,w1];refine⟨hlt,by simp -dsimp -implicitDefEqProofs only[go_sem,seval,hw],?_⟩;simp -dsimp -implicitDefEqProofs only[go_sem,seval];exact hO3.le (by omega)
 ·have hil:i=l.length:=by omega
  have hlt1:=eq_false hlt;rw[hil,List.take_length]at hO;have t0:=hO.reify (rwG_norm _ pl_norm _);have t1:=hO.valOf;have t2:=hO.resVal;simp only[Rg.resVal]at t2;simp -dsimp -implicitDefEqProofs only[go_sem,seval,h6,hlt1,t1,t2];exact t0
theorem zjQ (p:Prog) (hp:p.ok):Den Γ G 414 [(.agg [.t (.sl ((p).cells.map (Cell.enc))),.t (.sl ((p).modules.map (Contract.enc))),.t (.sl ((p).locks.map (Lock.enc))),.t (.sl ((p).threads.map (Thread.enc)))])]=some (.t (.sl ((candM p).map Pl.enc))):=by
 obtain⟨⟨b1,b2,b3,b4⟩,b5⟩:=limits_iff.1 (ok_iff.1 hp).lim
 (refine den_ofY Γ414 rfl ?_;dsimp only[zrn])
 simp -dsimp -implicitDefEqProofs only[go_sem,seval];refine zaj 18014398509481976 p.threads.length (fun t f h z=>(f 4).v=vi t/\OwnB h z (f 3).v 2 (rwG Pl.enc (candN p t))) rfl ⟨by simp -dsimp -implicitDefEqProofs only[go_sem,seval],.inl ⟨by simp -dsimp -implicitDefEqProofs only[go_sem,seval],rfl⟩⟩ ?_;rintro t f u H q bq ht ⟨h4,hO⟩;have hw:=zah t (by omega);simp -dsimp -implicitDefEqProofs only[go_sem,seval,h4]
 by_cases hlt:t<p.threads.length
 ·have hlt1:=eq_true hlt;obtain⟨x,hx,hxm⟩:=zaf hlt;have hsl:=(b5 x hxm).2.1;have hcn:=zdD (fun x hx=>(b5 x hx).2.1) t (by omega);simp -dsimp -implicitDefEqProofs only[go_sem,seval,h4,hlt1,hx]
  refine zaj 18014398505288136 x.steps.length (fun i f h z=>(f 6).v=vi i/\OwnB h z (f 3).v 2 (rwG Pl.enc (candN p t++firN t x i))) rfl
   ⟨by simp -dsimp -implicitDefEqProofs only[go_sem,seval],by simp -dsimp -implicitDefEqProofs only[go_sem,seval];rw[show firN t x 0=[]from rfl,List.append_nil];exact hO.le (by omega)⟩ ?_
  rintro i f2 u2 H2 q2 bq2 hi ⟨h6,hO2⟩;have hwi:=zah i (by omega);simp -dsimp -implicitDefEqProofs only[go_sem,seval,h6]
  by_cases hil:i<x.steps.length
  ·have hil1:=eq_true hil;obtain⟨s,hs,hsm⟩:=zaf hil;have hsuc:=zhf t x i;have hln:=zh4 t x i;simp -dsimp -implicitDefEqProofs only[go_sem,seval,h6,hil1,hs];refine zaj 140737219920256 i (fun k f h z=>(f 8).v=vi k/\(f 7).v=vb ((x.steps.take k).all fun z=>decide (z.fr≠s.fr))/\OwnB h z (f2 3).v 2 (rwG Pl.enc (candN p t++firN t x i))) rfl ⟨by simp -dsimp -implicitDefEqProofs only[go_sem,seval],by simp -dsimp -implicitDefEqProofs only[go_sem,seval],by simp -dsimp -implicitDefEqProofs only[go_sem,seval];exact hO2.le (by omega)⟩ ?_;rintro k f3 u3 H3 q3 b3 hk ⟨h8,h7,hO3⟩;have hwk:=zah k (by omega);simp -dsimp -implicitDefEqProofs only[go_sem,seval,h8,h6]
   by_cases hki:k<i
   ·have hki1:=eq_true hki;obtain⟨z,hz,hzm⟩:=zaf (show k<x.steps.length by omega)
    have hall:(x.steps.take (k+1)).all (fun z=>decide (z.fr≠s.fr))=((x.steps.take k).all (fun z=>decide (z.fr≠s.fr))&&decide (z.fr≠s.fr)):=by
     rw[zae hz,List.all_append];simp
    simp -dsimp -implicitDefEqProofs only[go_sem,seval,hki1,h7];cases hb:(x.steps.take k).all fun z=>decide (z.fr≠s.fr)
    ·rw[hb]at hall;simp -dsimp -implicitDefEqProofs only[go_sem,seval,h8];refine⟨hki,by simp -dsimp -implicitDefEqProofs only[go_sem,seval,hwk],by simp -dsimp -implicitDefEqProofs only[go_sem,seval];rw[hall];rfl,?_⟩;simp -dsimp -implicitDefEqProofs only[go_sem,seval];exact hO3.le (by omega)
    ·rw[hb]at hall;simp -dsimp -implicitDefEqProofs only[go_sem,seval,h8,hz,h6,hs];refine⟨hki,by simp -dsimp -implicitDefEqProofs only[go_sem,seval,hwk],by simp -dsimp -implicitDefEqProofs only[go_sem,seval];rw[hall];simp,?_⟩;simp -dsimp -implicitDefEqProofs only[go_sem,seval];exact hO3.le (by omega)
   ·have hki2:k=i:=by omega
    have hki1:=eq_false hki;subst hki2;simp -dsimp -implicitDefEqProofs only[go_sem,seval,hki1,h7]
    have hfi:isFirst x k=(x.steps.take k).all fun z=>decide (z.fr≠s.fr):=by
     unfold isFirst;rw[show x.steps.getD k default=s by simp[List.getD_eq_getElem?_getD,hs]];exact Bool.decide_coe _
    rw[<- hfi];cases hb:isFirst x k
    ·rw[hb]at hsuc;simp only[zG,if_false,List.append_nil]at hsuc;simp -dsimp -implicitDefEqProofs only[go_sem,seval,h6];refine⟨hil,by simp -dsimp -implicitDefEqProofs only[go_sem,seval,hwi],?_⟩;simp -dsimp -implicitDefEqProofs only[go_sem,seval];rw[hsuc];exact hO3.le (by omega)
    ·rw[hb]at hsuc;simp only[if_true]at hsuc;replace hO3:=hO3.le (y:=q3+3+1) (by omega);have v1:=hO3.valOf;have v2:=hO3.r1;simp -dsimp -implicitDefEqProofs only[go_sem,seval,h6,h4,v1,v2];refine zas ((hO3.le (y:=q3+3+1+4) (by omega)).upd (Nat.le_refl _) _) (by omega) (by rw[zbm,List.length_append];omega) (by decide) rfl (rwG_all _ pl_elen _) ?_;intro v hp hO4 hoffs hkeep;have w1:=hO4.valOf
     replace hO4:=zdQ hO4 (show _=rwG Pl.enc (candN p t++firN t x (k+1))by
      rw[hsuc,<- List.append_assoc,zcf];rfl)
     simp -dsimp -implicitDefEqProofs only[go_sem,seval,h6,w1];refine⟨hil,by simp -dsimp -implicitDefEqProofs only[go_sem,seval,hwi],?_⟩;simp -dsimp -implicitDefEqProofs only[go_sem,seval];exact hO4.le (by omega)
  ·have hil2:i=x.steps.length:=by omega
   have hil1:=eq_false hil;rw[hil2]at hO2;rw[show candN p t++firN t x x.steps.length=candN p (t+1)by rw[zdU hx];rfl]at hO2;simp -dsimp -implicitDefEqProofs only[go_sem,seval,h6,hil1,h4];refine⟨hlt,by simp -dsimp -implicitDefEqProofs only[go_sem,seval,hw],?_⟩;simp -dsimp -implicitDefEqProofs only[go_sem,seval];exact hO2.le (by omega)
 ·have ht2:t=p.threads.length:=by omega
  have hlt1:=eq_false hlt;rw[ht2]at hO;have t0:=hO.reify (rwG_norm _ pl_norm _);have t1:=hO.valOf;have t2:=hO.resVal;simp only[Rg.resVal]at t2;simp -dsimp -implicitDefEqProofs only[go_sem,seval,h4,hlt1,t1,t2];exact t0
end Rg
end
section
-- APPS
set_option maxRecDepth 100000
namespace Rg
open Go
def e31:Expr:=.mk 1 1 1 []
def zs1 (n:UInt8) (t:Int):Thread:=⟨bs [n],3,[e31,e31,e31],[0,0,0],[⟨3,0,1,e31,[⟨t,e31⟩],false,0,0⟩,⟨2,1,2,e31,[⟨2+t,.mk 2 1 (1-t) []⟩],false,0,0⟩],[],false⟩
def exH:Prog:=
 ⟨[⟨bs [77,46,120],1,0,-1,false,0⟩,⟨bs [77,46,121],1,0,-1,false,0⟩,⟨bs [97,46,114],1,0,0,false,0⟩,⟨bs [98,46,114],1,0,1,false,0⟩],[⟨bs [77],bs [111],.mk 0 0 0 [],e31,[0,1]⟩],[],
  [zs1 97 0,zs1 98 1]⟩
set_option maxHeartbeats 4000000
theorem zwn:Den Γ G 412 []=some (.agg [.t (.sl ((exH).cells.map (Cell.enc))),.t (.sl ((exH).modules.map (Contract.enc))),.t (.sl ((exH).locks.map (Lock.enc))),.t (.sl ((exH).threads.map (Thread.enc)))]):=by
 have c1:=zlT 1 1;have c2:=zwu 1 1;have c3:=zwu 0 1
 (refine den_ofY Γ412 rfl ?_;dsimp only[zsY])
 simp -dsimp -implicitDefEqProofs only[go_sem,seval,appS,c1];refine zbg ?_;simp -dsimp -implicitDefEqProofs only[go_sem,seval,appS,c2,Expr.op,Expr.w,Expr.n,Expr.kids];refine zbg ?_;simp -dsimp -implicitDefEqProofs only[go_sem,seval,appS,c3,Expr.op,Expr.w,Expr.n,Expr.kids];refine zbg ?_;simp -dsimp -implicitDefEqProofs only[go_sem,seval,appS];exact⟨rfl,rfl,rfl,rfl⟩
theorem zwP {r:V} {h:Nat->Option O} {vs:List V} {K:V->(Nat->Option O)->Prop} {w:WK K} (hk: ∀h',K r h'):zid (some r) false h vs K w:=by
 unfold zid;simp only;split
 ·exact hk _
 ·exact⟨fun h=>Bool.noConfusion h,hk _⟩
theorem zww:Den Γ G 413 [.t (.sl [[ti 0,ti 1],[ti 1,ti 1]]),.t (.sl [[ti 0,ti 1],[ti 1,ti 1]])]=some (vb true):=by
 (refine den_ofY Γ413 rfl ?_;dsimp only[zsX])
 simp -dsimp -implicitDefEqProofs only[go_sem,seval,appS];refine zbg ?_;simp -dsimp -implicitDefEqProofs only[go_sem,seval,appS,bne_self_eq_false];refine zbg ?_;simp -dsimp -implicitDefEqProofs only[go_sem,seval,appS,bne_self_eq_false];refine zbg ?_;simp -dsimp -implicitDefEqProofs only[go_sem,seval,appS]
theorem zs2:validB exH=true:=by decide+kernel
theorem zug:minM exH 1=some [(0,1),(1,1)]:=by decide+kernel
theorem zuh:minM exH 0=some []:=by decide+kernel
theorem zuf:zhW (ptB exH [(0,1)]) exH=false:=by decide+kernel
theorem zue:robM (exH.ins (ptB exH [(0,1)])) 1=false:=by decide+kernel
theorem exHS:exH.sane:=⟨by decide,by decide,by decide,by decide,by decide+kernel,by decide+kernel,by decide+kernel,by decide+kernel,by decide+kernel⟩
theorem exHT: ∀x∈exH.threads,∀s∈x.steps,s.set.length<2^20:=by decide+kernel
theorem zs4:exH.smE:=⟨by decide+kernel,by decide+kernel,by decide+kernel⟩
theorem exHK:exH.ok:=by have:=zs2;simpa[validB]using this
theorem zs3: ∀x∈[((0,1):Pl)],znZ exH x:=by
 intro x hx;simp only[List.mem_singleton]at hx;subst hx;exact⟨zs1 97 0,rfl,by decide⟩
def zw7:Step:=⟨3,0,1,e31,[⟨0,e31⟩],false,0,0⟩
def zw6:Step:=⟨2,2,3,e31,[⟨2,.mk 2 1 1 []⟩],false,0,0⟩
def zwT:Step:=⟨5,1,2,e31,[],false,0,0⟩
def exX:Thread:=⟨bs [97],4,[e31,e31,e31,e31],[0,0,0,0],[zw7,zw6,zwT],[],false⟩
def exI:Prog:={ exH with threads:=[exX,zs1 98 1] }
set_option maxHeartbeats 4000000
theorem zfK:Den Γ G 401 []=some (vb true):=by
 have h1:=zwn
 have h2:Den Γ G 403 [(.agg [.t (.sl ((exH).cells.map (Cell.enc))),.t (.sl ((exH).modules.map (Contract.enc))),.t (.sl ((exH).locks.map (Lock.enc))),.t (.sl ((exH).threads.map (Thread.enc)))]),vi 1]=some (.tup [.t (.sl [[ti 0,ti 1],[ti 1,ti 1]]),vi 0]):=by
  have:=zcj exH exHS zs4 exHT 1;unfold minR at this;rw[zs2,zug]at this;exact this
 have h3:Den Γ G 403 [(.agg [.t (.sl ((exH).cells.map (Cell.enc))),.t (.sl ((exH).modules.map (Contract.enc))),.t (.sl ((exH).locks.map (Lock.enc))),.t (.sl ((exH).threads.map (Thread.enc)))]),vi 0]=some (.tup [.t (.sl []),vi 0]):=by
  have:=zcj exH exHS zs4 exHT 0;unfold minR at this;rw[zs2,zuh]at this;exact this
 have h4:Den Γ G 404 [(.agg [.t (.sl ((exH).cells.map (Cell.enc))),.t (.sl ((exH).modules.map (Contract.enc))),.t (.sl ((exH).locks.map (Lock.enc))),.t (.sl ((exH).threads.map (Thread.enc)))]),.t (.sl [[ti 0,ti 1]])]=some (.tup [(.agg [.t (.sl ((exI).cells.map (Cell.enc))),.t (.sl ((exI).modules.map (Contract.enc))),.t (.sl ((exI).locks.map (Lock.enc))),.t (.sl ((exI).threads.map (Thread.enc)))]),vi 0]):=by
  have:=zdX exH exHK exHS zs4 [(0,1)] (by decide) zs3;rw[insM,zuf]at this;exact this
 have h5:Den Γ G 289 [(.agg [.t (.sl ((exI).cells.map (Cell.enc))),.t (.sl ((exI).modules.map (Contract.enc))),.t (.sl ((exI).locks.map (Lock.enc))),.t (.sl ((exI).threads.map (Thread.enc)))]),vi 1]=some (vb false):=by
  have:=zcT (exH.ins (ptB exH [(0,1)])) (ins_sane exHK exHS _) (ins_set exHT _) 1;rw[zue]at this;exact this
 have h6:=zww
 (refine den_ofY Γ401 rfl ?_;dsimp only[zsZ])
 simp -dsimp -implicitDefEqProofs only[go_sem,seval,appS,h1,h2,h3,h4];refine zwP fun H=> ?_
 have e1:exI.threads.length=2:=rfl;have e2:exI.threads[0]? =some exX:=rfl;have e3:exX.steps.length=3:=rfl;have e4:exX.points=4:=rfl;have e5:exX.steps[0]? =some zw7:=rfl;have e6:exX.steps[1]? =some zw6:=rfl;have e7:exX.steps[2]? =some zwT:=rfl;have f1:zw7.to=1:=rfl;have f2:zw6.fr=2:=rfl;have f3:zw6.to=3:=rfl;have f4:zwT.kind=5:=rfl;have f5:zwT.fr=1:=rfl;have f6:zwT.to=2:=rfl;simp -dsimp -implicitDefEqProofs only[go_sem,seval,appS,h6,h5,e1,e2,e3,e4,e5,e6,e7,f1,f2,f3,f4,f5,f6]
end Rg
end
section
namespace Rg
open Go
theorem zoS {p:Prog} (h:fewM p=true):p.smE:=by
 simp only[fewM,zF,decide_eq_true_eq,List.all_eq_true]at h;obtain⟨⟨⟨⟨⟨⟨h1,h2⟩,h3⟩,h4⟩,h5⟩,h6⟩,h7⟩:=h;have ht:=zeU h5 (by omega);refine⟨fun m hm=> ?_,fun l hl=> ?_,fun x hx=> ?_⟩
 ·have:=h6 m hm;simp only[zlA,zb5,zF,decide_eq_true_eq]at this;omega
 ·have:=h7 l hl;simp only[zb5,decide_eq_true_eq]at this;omega
 ·obtain⟨a,b,c,d,e⟩:=ht x hx;simp only[fewT,zlz,zoU,zme,zb5,zF,List.all_eq_true,decide_eq_true_eq]at e;refine⟨fun e' he=> ?_,fun s hs=> ?_,fun l hl=> ?_⟩
  ·have:=e.1.2 e' he;omega
  ·have:=e.1.1 s hs;exact⟨by omega,by omega,fun a ha=>by have:=this.2 a ha;omega⟩
  ·have:=e.2 l hl;omega
theorem znh {p:Prog} (h:fewM p=true): ∀x∈p.threads,∀s∈x.steps,s.set.length<2^20:=by
 simp only[fewM,zF,decide_eq_true_eq,List.all_eq_true]at h;obtain⟨⟨⟨⟨⟨⟨h1,h2⟩,h3⟩,h4⟩,h5⟩,h6⟩,h7⟩:=h;intro x hx s hs;obtain⟨a,b,c,d,e⟩:=zeU h5 (by omega) x hx;simp only[fewT,zlz,zoU,zme,zb5,zF,List.all_eq_true,decide_eq_true_eq]at e;have:=e.1.1 s hs;omega
structure Prog.r31 (p:Prog):Prop where
 ok:p.ok
 sane:p.sane
 smE:p.smE
 set: ∀x∈p.threads,∀s∈x.steps,s.set.length<2^20
theorem few_r31 {p:Prog} (hl:p.lite) (hf:fewM p=true) (hg:formedM p=true):p.r31:=
 ⟨by simpa[formedM]using hg,few_sane hl hf,zoS hf,znh hf⟩
theorem Prog.r31.vb {p:Prog} (h:p.r31):validB p=true:=by have:=h.ok;simpa[validB]using this
def tinyM (p:Prog):Bool:=(fewM p&&formedM p)&&decide ((candM p).length<=8)
theorem zio (p:Prog) (hl:p.lite):Den Γ G 402 [(.agg [.t (.sl ((p).cells.map (Cell.enc))),.t (.sl ((p).modules.map (Contract.enc))),.t (.sl ((p).locks.map (Lock.enc))),.t (.sl ((p).threads.map (Thread.enc)))])]=some (vb (tinyM p)):=by
 have h1:=zjz p hl
 (refine den_ofY Γ402 rfl ?_;dsimp only[zrs])
 simp -dsimp -implicitDefEqProofs only[go_sem,seval,h1];unfold tinyM;cases hg:fewM p&&formedM p
 ·simp -dsimp -implicitDefEqProofs only[go_sem,seval];rfl
 ·rw[zF]at hg;have h2:=zjQ p (few_r31 hl hg.1 hg.2).ok;simp -dsimp -implicitDefEqProofs only[go_sem,seval,h2];exact decide_eq_decide.2 (by omega)
theorem zdv {p:Prog} (h:p.r31) {m:Int} (hm:m=0\/m=1\/m=2) {l:List Pl} (hl:minM p m=some l):Den Γ G 403 [(.agg [.t (.sl ((p).cells.map (Cell.enc))),.t (.sl ((p).modules.map (Contract.enc))),.t (.sl ((p).locks.map (Lock.enc))),.t (.sl ((p).threads.map (Thread.enc)))]),vi m]=some (.tup [.t (.sl (l.map Pl.enc)),vi 0]):=by
 have:=zcj p h.sane h.smE h.set m;unfold minR at this;rw[h.vb,show(m==0||m==1||m==2)=true by rcases hm with rfl | rfl | rfl<;>rfl,hl]at this;exact this
theorem zgd {p:Prog} (h:p.r31) {m:Int} (hm:m=0\/m=1\/m=2) (hl:minM p m=none):Den Γ G 403 [(.agg [.t (.sl ((p).cells.map (Cell.enc))),.t (.sl ((p).modules.map (Contract.enc))),.t (.sl ((p).locks.map (Lock.enc))),.t (.sl ((p).threads.map (Thread.enc)))]),vi m]=some (.tup [.t (.sl []),vi 310]):=by
 have:=zcj p h.sane h.smE h.set m;unfold minR at this;rw[h.vb,show(m==0||m==1||m==2)=true by rcases hm with rfl | rfl | rfl<;>rfl,hl]at this;exact this
set_option maxHeartbeats 2000000
theorem lawModels31_den (p:Prog) (hl:p.lite):Den Γ G 398 [(.agg [.t (.sl ((p).cells.map (Cell.enc))),.t (.sl ((p).modules.map (Contract.enc))),.t (.sl ((p).locks.map (Lock.enc))),.t (.sl ((p).threads.map (Thread.enc)))])]=some (vb true):=by
 have ht:=zio p hl
 (refine den_ofY Γ398 rfl ?_;dsimp only[zrt])
 simp -dsimp -implicitDefEqProofs only[go_sem,seval,zfK,ht];cases hg:tinyM p
 ·simp -dsimp -implicitDefEqProofs only[go_sem,seval]
 ·have hr:p.r31:=by
   simp only[tinyM,zF]at hg;exact few_r31 hl hg.1.1 hg.1.2
  have m0:=zdv hr (m:=0) (by omega) (minM_sc hr.ok);simp only[List.map_nil]at m0
  cases h2:minM p 2 with
  | none=>
    have m2:=zgd hr (m:=2) (by omega) h2
    cases h1:minM p 1 with
    | none=>
      have m1:=zgd hr (m:=1) (by omega) h1
      simp -dsimp -implicitDefEqProofs only[go_sem,seval,m0,m1,m2]
    | some b=>
      have m1:=zdv hr (m:=1) (by omega) h1
      simp -dsimp -implicitDefEqProofs only[go_sem,seval,m0,m1,m2]
  | some c=>
    obtain⟨b,h1,hb⟩:=zhR h2;have m2:=zdv hr (m:=2) (by omega) h2;have m1:=zdv hr (m:=1) (by omega) h1;have hb1: ¬((b.length:Int)>(c.length:Int)):=by omega
    simp -dsimp -implicitDefEqProofs only[go_sem,seval,m0,m1,m2,hb1]
end Rg
end

/- Part of the proof of laws of relyguardlaw31. No condition. -/
import Derived.Test.YtcmeofagpechdaaGreatDoorRartBI
import Derived.Test.YtcmeofagpechdaaGreatDoorRartAR
import Derived.Test.YtcmeofagpechdaaGreatDoorRartAP
import Derived.ProofKit
import Derived.Test.YtcmeofagpechdaaGreatDoorRartBF
import Derived.Test.YtcmeofagpechdaaGreatDoorRartBA
set_option linter.unusedSimpArgs false
set_option linter.unusedVariables false
section
namespace Rg
open Go
set_option maxHeartbeats 4000000
theorem lawRes31_den (hh:Den Γ G 401 []=some (vb true)) (p:Prog) (hl:p.lite) (ks:List Int) (hks: ∀k∈ks,0<=k/\k<256) (rs:List Int) (hrs: ∀k∈rs,0<=k/\k<256) (mo:Int) (hmo:0<=mo/\mo<256):Den Γ G 400 [(.agg [.t (.sl ((p).cells.map (Cell.enc))),.t (.sl ((p).modules.map (Contract.enc))),.t (.sl ((p).locks.map (Lock.enc))),.t (.sl ((p).threads.map (Thread.enc)))]),.t (bytesT ks),.t (bytesT rs),.t (.int .u8 mo)]=some (vb true):=by
 have ht:=zjz p hl;have hlb:(ks.map fun n=>[T.int .u8 n]).length=ks.length:=by simp
 have hlr:(rs.map fun n=>[T.int .u8 n]).length=rs.length:=by simp
 (refine den_ofY Γ400 rfl ?_;dsimp only[zBA])
 simp -dsimp only[go_sem,seval,hh,ht];cases hg:fewM p&&formedM p
 ·simp -dsimp only[go_sem,seval]
 ·have hg':=hg;simp only[zF]at hg';have hr:p.r31:=zAt hl hg'.1 hg'.2;have hf:=hg'.2;simp -dsimp only[go_sem,seval,hlb]
  by_cases h6:(ks.length:Int)>6
  ·have h61:=eq_true h6;simp -dsimp only[go_sem,seval,h61]
  ·have h61:=eq_false h6
   by_cases h7:(rs.length:Int)>30
   ·have h71:=eq_true h7;simp -dsimp only[go_sem,seval,h61,hlr,h71]
   ·have h71:=eq_false h7;have hpd:=zwB p hr.ok ks hks (by omega);obtain⟨l,hl'⟩: ∃l,l=placesM p ks:=⟨_,rfl⟩
    have hll:l.length<2^20:=by rw[hl'];exact Nat.lt_of_le_of_lt (places_len p ks) (by omega)
    have hpl: ∀x∈l,znZ p x:=by rw[hl'];exact zwE
    rw[<- hl']at hpd;have hin:=zwt p hr.ok hr.sane hr.smE l hll hpl;have hIn:=zdX p hr.ok hr.sane hr.smE l hll hpl;simp -dsimp only[go_sem,seval,h61,hlr,h71,hpd];cases hL:zhW (ptB p l) p
    ·rw[show insM p l=(p.ins (ptB p l),0)by rw[insM,hL];rfl]at hin hIn;obtain⟨B,hBe⟩: ∃B,B=ptB p l:=⟨_,rfl⟩
     have hFB:zzs p B:=by rw[hBe];exact fen_ok hr.ok hpl
     have okq:(p.ins B).ok:=by rw[hBe];exact zAW hr.ok hL (fen_ok hr.ok hpl)
     have hq:formedM (p.ins B)=true:=decide_eq_true okq;have hqs:(p.ins B).sane:=ins_sane hr.ok hr.sane B;have hlen:(p.ins B).threads.length=p.threads.length:=zxv;have hlenT:(((p.threads.length:Nat):Int)=p.threads.length)=True:=eq_true rfl;rw[<- hBe]at hin hIn;have hs1:=zx0 p hr.sane;have hs2:=zx0 (p.ins B) hqs;have okqf:=hq
     have hov: ∀(t:Nat) (x:Thread),p.threads[t]? =some x->(x.ins (B t)).steps.length<=64:=fun t x hx=>by
      obtain⟨_,h5⟩:=limits_iff.1 (ok_iff.1 okq).lim;exact(h5 _ (List.mem_of_getElem? (insP_get (B:=B) hx))).2.1
     have stpq: ∀(t:Nat) (x:Thread),p.threads[t]? =some x->(x.ins (B t)).steps.length<=64:=hov
     have stpl: ∀y∈(p.ins B).threads,y.steps.length<2^31:=fun y hy=>by
      obtain⟨t,x,hx,rfl⟩:=zlk hy;have:=hov t x hx;omega
     obtain⟨q,hqe⟩: ∃q,q=p.ins B:=⟨_,rfl⟩
     rw[<- hqe]at hin hIn hlen hs2 hqs hq;have hwm:IntKind.i64.wrap mo=mo:=zan (by omega);obtain⟨m,hm⟩: ∃m,m=mo.tmod 3:=⟨_,rfl⟩
     have hm3:0<=m/\m<=2:=by rw[hm,Int.tmod_eq_emod_of_nonneg hmo.1];omega
     have hwm2:IntKind.i64.wrap m=m:=zan (by omega);simp -dsimp only[go_sem,seval,hin,hIn,hs1,hs2,hwm,<- hm,hwm2]
     refine zaz 43556142965880123323164375798676688142592 rs.length (fun i f=>(f 18).v=vi i/\(f 15).v=vi m/\ ∃c d:Config,IsK p m c/\IsK (p.ins B) m d/\RelC p B c d/\(f 16).v= .lb/\(f 16).box=some [.t (ints c.mem),.t (ints c.at_),.t (.sl (c.buf.map fun b=>[.sl (b.map Entry.enc)]))]/\
      (f 17).v= .lb/\(f 17).box=some [.t (ints d.mem),.t (ints d.at_),.t (.sl (d.buf.map fun b=>[.sl (b.map Entry.enc)]))]) rfl rfl
      ⟨by simp -dsimp only[go_sem,seval],by simp -dsimp only[go_sem,seval],startM p,startM q,zy8 hf m,by rw[hqe];exact zy8 okqf m,by rw[hqe];exact zzb hf okqf,by simp -dsimp only[go_sem,seval],by simp -dsimp only[go_sem,seval],by simp -dsimp only[go_sem,seval],by simp -dsimp only[go_sem,seval]⟩ ?_
     rintro i f u kk bb hi ⟨h18,h15,c,d,hc,hd,hrel,b1,b2,b3,b4⟩;have hw:=zah i (by omega)
     have entS: ∀{c:Config},IsK p m c-> ∀b∈c.buf,zxI b:=fun{c} hc b hb=>by
      obtain⟨j,hj⟩:=List.getElem?_of_mem hb;obtain⟨e1,e2,_⟩:=hc.b.buf j b hj;refine⟨by omega,fun e he=> ?_⟩;have e3:=zxy (e2 e he);have e4:=(e2 e he).len;have e5:=hr.sane.cells;omega
     have hrd0:=zxH p hr.ok l hll hpl c d (by rw[<- hBe];exact hrel) (hc.b.sane hr.sane) (entS hc);simp -dsimp only[go_sem,seval,h18]
     by_cases hlt:i<rs.length
     ·have hlt1:=eq_true hlt;obtain⟨k,hk,hkm⟩:=zaf hlt;obtain⟨k0,k1⟩:=hrs k hkm;have hen:=zzo (p.ins B) (by rw[<- hqe];exact hqs) okqf m hm3 d hd;rw[<- hqe]at hen;simp -dsimp only[go_sem,seval,h18,h15,hlt1,b3,b4,hen]
      by_cases he:choicesK q m d=[]
      ·have he0:(choicesK q m d).length=0:=by rw[he];rfl
       simp -dsimp only[go_sem,seval,he0,b1,b2,b3,b4,hrd0]
      ·have he1:0<(choicesK q m d).length:=List.length_pos_iff.2 he;have he0: ¬(((choicesK q m d).length:Nat):Int)=0:=by omega
       have hwk8:IntKind.i64.wrap k=k:=zan (by omega)
       have hrem:k.tmod (choicesK q m d).length=((k.toNat % (choicesK q m d).length:Nat):Int):=by
        rw[Int.tmod_eq_emod_of_nonneg k0,Int.natCast_emod,Int.toNat_of_nonneg k0]
       have hri:k.toNat % (choicesK q m d).length<(choicesK q m d).length:=Nat.mod_lt _ he1;obtain⟨y,hy,hym⟩:=zaf hri;obtain⟨d',hn1,hd',t,x,hx,hyt,hcase⟩:=zAz hf hFB okqf hc hd hrel (by rw[<- hqe];exact hym);have hnq:=zzd (p.ins B) (by rw[<- hqe];exact hqs) okqf m hm3 d hd y;rw[hn1,<- hqe]at hnq;obtain⟨yt,ys,yc⟩:=y;simp only at hyt hcase hnq;subst hyt;simp -dsimp only[go_sem,seval,he0,h18,h15,hk,hwk8,hrem,hy,b3,b4,hnq];rcases hcase with⟨g1,g2,g3⟩ | ⟨g1,c',g2,g3,g4⟩
       ·have s1:(ys<0)=False:=eq_false (by omega);have s2:(ys<(x.steps.length:Int))=False:=eq_false (by omega);have hrd:=zxH p hr.ok l hll hpl c d' (by rw[<- hBe];exact g3) (hc.b.sane hr.sane) (entS hc);simp -dsimp only[go_sem,seval,s1,s2,hx,h18,b1,b2,hrd];exact⟨hlt,by simp -dsimp only[go_sem,seval,hw],by simp -dsimp only[go_sem,seval,h15],c,d',hc,hd',g3,by simp -dsimp only[go_sem,seval,b1],by simp -dsimp only[go_sem,seval,b2],by simp -dsimp only[go_sem,seval,b3],by simp -dsimp only[go_sem,seval]⟩
       ·have hnp:=zzd p hr.sane hf m hm3 c hc ⟨t,ys,yc⟩;rw[g2]at hnp;have hrd:=zxH p hr.ok l hll hpl c' d' (by rw[<- hBe];exact g4) (g3.b.sane hr.sane) (entS g3)
        by_cases g0:ys<0
        ·have s1:=eq_true g0;simp -dsimp only[go_sem,seval,s1,hx,h18,h15,b1,b2,b3,hnp,hrd];exact⟨hlt,by simp -dsimp only[go_sem,seval,hw],by simp -dsimp only[go_sem,seval,h15],c',d',g3,hd',g4,by simp -dsimp only[go_sem,seval,b1],by simp -dsimp only[go_sem,seval],by simp -dsimp only[go_sem,seval,b3],by simp -dsimp only[go_sem,seval]⟩
        ·have s1:=eq_false g0;have s2:(ys<(x.steps.length:Int))=True:=eq_true (by omega);simp -dsimp only[go_sem,seval,s1,s2,hx,h18,h15,b1,b2,b3,hnp,hrd];exact⟨hlt,by simp -dsimp only[go_sem,seval,hw],by simp -dsimp only[go_sem,seval,h15],c',d',g3,hd',g4,by simp -dsimp only[go_sem,seval,b1],by simp -dsimp only[go_sem,seval],by simp -dsimp only[go_sem,seval,b3],by simp -dsimp only[go_sem,seval]⟩
     ·have:i=rs.length:=by omega
      subst this;have hlt1:=eq_false hlt;simp -dsimp only[go_sem,seval,h18,hlt1,b1,b2,b3,b4,hrd0]
    ·rw[show insM p l=(zeroP,2)by rw[insM,hL];rfl]at hin;simp -dsimp only[go_sem,seval,hin]
end Rg
end
section
namespace Rg
open Go
inductive Tr (α:Type)where
 | nil
 | node (v:Option α) (l r:Tr α)
namespace Tr
variable {α:Type}
noncomputable def get (t:Tr α):Nat->Option α:=
 Tr.rec (motive:=fun _=>Nat->Option α) (fun _=>none) (fun v _ _ a b n=>Nat.rec v (fun m _=>Nat.rec (a (Nat.div m 2)) (fun _ _=>b (Nat.div m 2)) (Nat.mod m 2)) n) t
noncomputable def node1 (ih:Tr α->Nat->α->Tr α) (v:Option α) (l r:Tr α) (n:Nat) (x:α):Tr α:=
 Nat.rec (.node (some x) l r) (fun m _=>Nat.rec (.node v (ih l (Nat.div m 2) x) r) (fun _ _=> .node v l (ih r (Nat.div m 2) x)) (Nat.mod m 2)) n
noncomputable def put (f:Nat):Tr α->Nat->α->Tr α:=
 Nat.rec (fun t _ _=>t) (fun _ ih t=>Tr.rec (motive:=fun _=>Nat->α->Tr α) (node1 ih none .nil .nil) (fun v l r _ _=>node1 ih v l r) t) f
theorem zye (v:Option α) (l r:Tr α) (m:Nat):(Tr.node v l r).get (m+1)=if m % 2=0 then l.get (m/ 2)else r.get (m/ 2):=by
 show Nat.rec (motive:=fun _=>Option α) (l.get (m/ 2)) (fun _ _=>r.get (m/ 2)) (m % 2)=_;cases m % 2<;>rfl
theorem zz0 (ih:Tr α->Nat->α->Tr α) (v:Option α) (l r:Tr α) (m:Nat) (x:α):node1 ih v l r (m+1) x=if m % 2=0 then .node v (ih l (m/ 2) x) r else .node v l (ih r (m/ 2) x):=by
 show Nat.rec (motive:=fun _=>Tr α) (.node v (ih l (m/ 2) x) r) (fun _ _=> .node v l (ih r (m/ 2) x)) (m % 2)=_;cases m % 2<;>rfl
theorem zzf (ih:Tr α->Nat->α->Tr α) (n:Nat) (x:α) (hi: ∀m,m<n-> ∀t j,(ih t m x).get j=if j=m then some x else t.get j) (v:Option α) (l r:Tr α) (j:Nat):
 (node1 ih v l r n x).get j=if j=n then some x else(Tr.node v l r).get j:=by
 cases n with
 | zero=>cases j<;>rfl
 | succ m=>
   rw[zz0]
   by_cases h:m % 2=0
   ·rw[if_pos h]
    cases j with
    | zero=>rfl
    | succ j=>
      rw[zye,zye]
      by_cases h2:j % 2=0
      ·rw[if_pos h2,if_pos h2,hi _ (by omega)]
       by_cases h3:j=m
       ·rw[if_pos (by rw[h3]),if_pos (by rw[h3])]
       ·rw[if_neg (by omega),if_neg (by omega)]
      ·rw[if_neg h2,if_neg h2,if_neg (by omega)]
   ·rw[if_neg h]
    cases j with
    | zero=>rfl
    | succ j=>
      rw[zye,zye]
      by_cases h2:j % 2=0
      ·rw[if_pos h2,if_pos h2,if_neg (by omega)]
      ·rw[if_neg h2,if_neg h2,hi _ (by omega)]
       by_cases h3:j=m
       ·rw[if_pos (by rw[h3]),if_pos (by rw[h3])]
       ·rw[if_neg (by omega),if_neg (by omega)]
theorem get_put: ∀(f:Nat) (t:Tr α) (n:Nat) (x:α),n<f-> ∀j,(put f t n x).get j=if j=n then some x else t.get j:=by
 intro f
 induction f with
 | zero=>intro t n x h;omega
 | succ f ih=>
   intro t n x h j;have hi: ∀m,m<n-> ∀t j,(put f t m x).get j=if j=m then some x else t.get j:=fun m hm t j=>ih t m x (by omega) j
   cases t with
   | nil=>
     show(node1 (put f) none .nil .nil n x).get j=_;rw[zzf _ n x hi]
     have : ∀k,(Tr.node none .nil .nil:Tr α).get k=(Tr.nil:Tr α).get k:=by
      intro k
      cases k with
      | zero=>rfl
      | succ k=>rw[zye];split<;>rfl
     rw[this]
   | node v l r=>exact zzf _ n x hi v l r j
end Tr
structure Fn (α:Type)where
 base:Nat->α
 ov:Tr α
namespace Fn
variable {α:Type}
noncomputable def app (f:Fn α) (k:Nat):α:=match f.ov.get k with
 | some v=>v
 | none=>f.base k
noncomputable def set (f:Fn α) (k:Nat) (v:α):Fn α:=Fn.rec (fun b o=>⟨b,o.put (k+1) k v⟩) f
def of (f:Nat->α):Fn α:=⟨f,.nil⟩
theorem app_set (f:Fn α) (k:Nat) (v:α):(f.set k v).app=upd f.app k v:=by
 funext j
 unfold app set upd;simp only;rw[Tr.get_put (k+1) f.ov k v (by omega)]
 by_cases h:j=k
 ·rw[if_pos h,if_pos h]
 ·rw[if_neg h,if_neg h]
end Fn
structure E where
 env:Fn V
 loc:Fn (Option (List V))
 adr:Fn (Option (Nat×Nat))
 used:Fn Bool
 heap:Fn (Option O)
 nxt:Nat
 bas:Nat
namespace E
noncomputable def st (e:E):St:=⟨e.env.app,e.loc.app,e.adr.app,e.used.app,e.heap.app,e.nxt,e.bas⟩
def begin (e:E) (n:Nat):E:={ e with adr:=.of fun _=>none,used:=.of fun _=>false,bas:=e.nxt,nxt:=e.nxt+n }
noncomputable def hpSet (h:Fn (Option O)):List (Nat×O)->Fn (Option O)
 | []=>h
 | (k,o)::r=>hpSet (h.set k (some o)) r
theorem zlt (h:Fn (Option O)) (l:List (Nat×O)):(hpSet h l).app=hpUpd h.app l:=by
 induction l generalizing h with
 | nil=>rfl
 | cons a l ih=>rw[hpSet,hpUpd,ih,Fn.app_set]
noncomputable def apply(s:E) (dst:Option Nat) (e:Eff):E:=
 { s with
   env:=match dst with | some d=>s.env.set d e.val | none=>s.env
   adr:=match dst with | some d=>s.adr.set d e.adr | none=>s.adr
   loc:=match dst with
    | some d=>(match e.wloc with | some (b,cs)=>s.loc.set b (some cs) | none=>s.loc).set d e.loc
    | none=>match e.wloc with | some (b,cs)=>s.loc.set b (some cs) | none=>s.loc
   used:=match e.adr with | some (b,_)=>s.used.set b true | none=>s.used
   heap:=hpSet s.heap e.hp }
theorem apply_st (s:E) (dst:Option Nat) (e:Eff):(s.apply dst e).st=s.st.apply dst e:=by
 unfold apply st St.apply;rcases dst with _ | d<;>rcases e with⟨val,adr,loc,wloc,hp⟩<;>rcases wloc with _ | ⟨b,cs⟩<;>rcases adr with _ | ⟨a1,a2⟩<;>simp only[Fn.app_set,zlt]
def init (args:List V) (h:Fn (Option O)) (n:Nat):E:=⟨.of (initEnv args),.of fun _=>none,.of fun _=>none,.of fun _=>false,h,n,n⟩
noncomputable def fill:Fn V->List Nat->List V->Fn V
 | env,t::ts,v::vs=>fill (env.set t v) ts vs
 | env,_,_=>env
theorem zng (f:Fn V) (ts:List Nat) (vs:List V):(fill f ts vs).app=fillEnv f.app ts vs:=by
 induction ts generalizing f vs with
 | nil=>cases vs<;>rfl
 | cons t ts ih=>cases vs with
   | nil=>rfl
   | cons v vs=>rw[fill,fillEnv,ih,Fn.app_set]
noncomputable def round (h:Fn (Option O)) (n k:Nat) (env:Nat->V) (ps:List Nat) (bd:C) (vs:List V):E:=
 ⟨fill (.of env) ps vs,.of fun _=>none,.of fun _=>none,.of fun _=>false,h.set k (some (.loop env ps bd .enter)),n,n⟩
theorem round_st (h:Fn (Option O)) (n k:Nat) (env:Nat->V) (ps:List Nat) (bd:C) (vs:List V):(round h n k env ps bd vs).st=roundSt h.app n k env ps bd vs:=by
 unfold round st roundSt;simp only[zng,Fn.app_set];rfl
noncomputable def freeB (s:E) (dst:Option Nat) (e:Eff):Bool:=match dst with
 | none=>true
 | some d=> !s.used.app d&&match e.adr with
   | some (b,_)=> !decide (b=d)
   | none=>true
theorem free_of {s:E} {dst:Option Nat} {e:Eff} (h:s.freeB dst e=true):s.st.free dst e:=by
 intro d hd;subst hd;unfold freeB at h;simp only[zF,Bool.not_eq_true']at h;refine⟨h.1,fun b o hb=> ?_⟩;rw[hb]at h;simpa using h.2
end E
inductive ET where
 | code (c:C) (s:E)
 | loop (b:C) (s:E)
 | ops (draw:Bool) (p:Nat) (l:List ROp) (s:E)
 | pcall (f:Nat) (args:List V)
 | rcall (f:Nat) (args:List V) (h:Fn (Option O)) (n:Nat)
inductive EO where
 | code (e:Ex) (s:E)
 | ops (s:E)
 | val (v:V)
 | vals (v:V) (h:Fn (Option O)) (n:Nat)
noncomputable def ET.task:ET->Task
 | .code c s=> .code c s.st
 | .loop b s=> .loop b s.st
 | .ops d p l s=> .ops d p l s.st
 | .pcall f a=> .pcall f a
 | .rcall f a h n=> .rcall f a h.app n
noncomputable def EO.out:EO->Out
 | .code e s=> .code e s.st
 | .ops s=> .ops s.st
 | .val v=> .val v
 | .vals v h n=> .vals v h.app n
def noExit:Ex->Bool
 | .exit _=>false
 | _=>true
theorem noExit_of {e:Ex} (h:noExit e=true): ∀id,e≠ .exit id:=by
 rintro id rfl;cases h
def asCode:Option EO->Option (Ex×E)
 | some (.code e s)=>some (e,s)
 | _=>none
def asOps:Option EO->Option E
 | some (.ops s)=>some s
 | _=>none
def asVal:Option EO->Option V
 | some (.val v)=>some v
 | _=>none
def asVals:Option EO->Option (V×Fn (Option O)×Nat)
 | some (.vals v h n)=>some (v,h,n)
 | _=>none
theorem asCode_eq {x:Option EO} {e:Ex} {s:E} (h:asCode x=some (e,s)):x=some (.code e s):=by
 unfold asCode at h;split at h
 ·cases h;rfl
 ·cases h
theorem asOps_eq {x:Option EO} {s:E} (h:asOps x=some s):x=some (.ops s):=by
 unfold asOps at h;split at h
 ·cases h;rfl
 ·cases h
theorem asVal_eq {x:Option EO} {v:V} (h:asVal x=some v):x=some (.val v):=by
 unfold asVal at h;split at h
 ·cases h;rfl
 ·cases h
theorem asVals_eq {x:Option EO} {v:V} {hp:Fn (Option O)} {n:Nat} (h:asVals x=some (v,hp,n)):x=some (.vals v hp n):=by
 unfold asVals at h;split at h
 ·cases h;rfl
 ·cases h
noncomputable def loopAt (h:Fn (Option O)) (k:Nat):Option ((Nat->V)×List Nat×C×LSt):=match h.app k with
 | some (.loop env ps b st)=>some (env,ps,b,st)
 | _=>none
theorem loopAt_eq {h:Fn (Option O)} {k:Nat} {env:Nat->V} {ps:List Nat} {b:C} {st:LSt} (e:loopAt h k=some (env,ps,b,st)):h.app k=some (.loop env ps b st):=by
 unfold loopAt at e;split at e
 ·rename_i h0;cases e;exact h0
 ·cases e
def LSt.isReady:LSt->Bool
 | .ready=>true
 | _=>false
def LSt.isEnter:LSt->Bool
 | .enter=>true
 | _=>false
def LSt.isBusy:LSt->Bool
 | .busy=>true
 | _=>false
def roundOf:C->Option (C×C)
 | .round a b=>some (a,b)
 | _=>none
def zoV:C->Option Ext
 | .ext e=>some e
 | _=>none
def ztj:V->Option Nat
 | .yl k=>some k
 | _=>none
def zn7:AOp->Option (Bool×Opd×List Opd)
 | .call r f a=>some (r,f,a)
 | _=>none
def zlB:AOp->Option (Opd×List Opd)
 | .fcall f a=>some (f,a)
 | _=>none
def ask (b:Bool):Option Unit:=if b then some ()else none
theorem ask_eq {b:Bool} {u:Unit} (h:ask b=some u):b=true:=by
 unfold ask at h;split at h
 ·assumption
 ·cases h
section
variable (Γ:Nat->Option F) (G:Nat->List T) (R:ET->Option EO)
noncomputable def evCode (s:E):C->Option EO
 | .skip=>some (.code .normal s)
 | .ret=>some (.code .ret s)
 | .exit id=>some (.code (.exit id) s)
 | .region d l=>(asOps (R (.ops d 0 l (s.begin l.length)))).bind fun s'=>some (.code .normal s')
 | .regionD ck l=>(asOps (R (.ops true 0 l (s.begin l.length)))).bind fun s'=>(ask (sepAll G s'.st l ck)).bind fun _=>some (.code .normal s')
 | .seq a b=>(asCode (R (.code a s))).bind fun q=>match q with
   | (.normal,s1)=>(asCode (R (.code b s1))).bind fun q=>some (.code q.1 q.2)
   | (e,s1)=>some (.code e s1)
 | .cond c a b=>(evBool G s.st c).bind fun t=>(asCode (R (.code (if t then a else b) s))).bind fun q=>some (.code q.1 q.2)
 | .block id b=>(asCode (R (.code b s))).bind fun q=>some (.code (if q.1= .exit id then .normal else q.1) q.2)
 | .loop b=>(asCode (R (.loop b s))).bind fun q=>some (.code q.1 q.2)
 | .rangeF x ps bd=>(evl G s.st x).bind fun fv=>(fnOf fv).bind fun g=>(Γ g.1).bind fun fn=>(ask fn.raw).bind fun _=>
   (asVals (R (.rcall g.1 (g.2.1++[.yl s.nxt]++g.2.2) (s.heap.set s.nxt (some (.loop s.env.app ps bd .ready))) (s.nxt+1)))).bind fun r=>
   (loopAt r.2.1 s.nxt).bind fun q=>(LSt.ends q.2.2.2).bind fun e=>some (.code e { s with heap:=r.2.1.set s.nxt (some .dead),nxt:=r.2.2 })
 | .ext _=>none
 | .round _ _=>none
noncomputable def evRest (d:Bool) (p:Nat) (o:ROp) (l:List ROp) (s:E) (e:Eff):Option EO:=
 (asOps (R (.ops d (p+1) l (s.apply o.dst e)))).bind fun s'=>some (.ops s')
noncomputable def evYield (d:Bool) (p:Nat) (o:ROp) (l:List ROp) (s:E) (k:Nat) (vs:List V):Option EO:=
 (loopAt s.heap k).bind fun q=>(ask (LSt.isReady q.2.2.2)).bind fun _=>(roundOf q.2.2.1).bind fun c=>(ask (decide (vs.length=q.2.1.length))).bind fun _=>
 (asCode (R (.code c.1 (.round s.heap s.nxt k q.1 q.2.1 (.round c.1 c.2) vs)))).bind fun r1=>(ask (decide (r1.1= .normal))).bind fun _=>
 (loopAt r1.2.heap k).bind fun q1=>(ask (LSt.isEnter q1.2.2.2)).bind fun _=>
 (asCode (R (.code c.2 { r1.2 with heap:=r1.2.heap.set k (some (.loop q1.1 q1.2.1 q1.2.2.1 .busy)) }))).bind fun r2=>
 (loopAt r2.2.heap k).bind fun q2=>(ask (LSt.isBusy q2.2.2.2)).bind fun _=>
 evRest R d p o l { s with heap:=r2.2.heap.set k (some (.loop q2.1 q2.2.1 q2.2.2.1 r2.1.toL)),nxt:=r2.2.nxt } { val:=.t (.bool (decide (r2.1=Ex.normal))) }
noncomputable def evOp (d:Bool) (p:Nat) (o:ROp) (l:List ROp) (s:E):Option EO:=match zn7 o.op with
 | some (raw,f,args)=>(ask (s.freeB o.dst {})).bind fun _=>(evl G s.st f).bind fun fv=>(evls G s.st args).bind fun vs=>match ztj fv with
   | some k=>(ask raw).bind fun _=>evYield R d p o l s k vs
   | none=>(fnOf fv).bind fun g=>(Γ g.1).bind fun fn=>if raw then
      (ask fn.raw).bind fun _=>(asVals (R (.rcall g.1 (g.2.1++vs++g.2.2) s.heap s.nxt))).bind fun r=>evRest R d p o l { s with heap:=r.2.1,nxt:=r.2.2 } { val:=r.1 }
     else(ask (!fn.raw)).bind fun _=>((g.2.1++vs++g.2.2).mapM (toT1 s.st.heap)).bind fun rs=>(asVal (R (.pcall g.1 rs))).bind fun r=>
      (ask (!d||r.scalar||((g.2.1++vs++g.2.2).flatMap (reach1 s.st.heap)).isEmpty)).bind fun _=>
      evRest R d p o l s { val:=r,hp:=if r.scalar then []else freezes s.st.heap ((g.2.1++vs++g.2.2).flatMap (reach1 s.st.heap)) }
 | none=>match zlB o.op with
   | some (f,args)=>(ask (s.freeB o.dst {})).bind fun _=>(evl G s.st f).bind fun fv=>(evls G s.st args).bind fun vs=>(fnOf fv).bind fun g=>(Γ g.1).bind fun fn=>(ask fn.raw).bind fun _=>
     ((g.2.1++vs++g.2.2).mapM (toT1 s.st.heap)).bind fun rs=>(ask ((g.2.1++vs++g.2.2).flatMap (reach1 s.st.heap)).isEmpty).bind fun _=>
     (asVals (R (.rcall g.1 rs (.of fun _=>none) 0))).bind fun r=>(ownR (s.bas+p) r.1 r.2.1.app).bind fun e=>evRest R d p o l s e
   | none=>(aeval G p s.st o.op).bind fun e=>(ask (s.freeB o.dst e)).bind fun _=>evRest R d p o l s e
noncomputable def evStep:ET->Option EO
 | .code c s=>evCode Γ G R s c
 | .loop b s=>(asCode (R (.code b s))).bind fun q=>match q with
   | (.normal,s1)=>(asCode (R (.loop b s1))).bind fun q=>some (.code q.1 q.2)
   | (e,s1)=>some (.code e s1)
 | .ops _ _ [] s=>some (.ops s)
 | .ops d p (o::l) s=>(wants s.st o.guard).bind fun w=>if w then evOp Γ G R d p o l s else(ask (s.freeB o.dst {})).bind fun _=>evRest R d p o l s {}
 | .pcall g args=>(Γ g).bind fun fn=>(ask (!fn.raw)).bind fun _=>match zoV fn.body with
   | some e=>(extPure e args).bind fun r=>some (.val r)
   | none=>(asCode (R (.code fn.body (.init args (.of fun _=>none) 0)))).bind fun q=>(ask (noExit q.1)).bind fun _=>(resAll q.2.st fn.results).bind fun v=>(reify q.2.st.heap v).bind fun r=>some (.val r)
 | .rcall g args h m=>(Γ g).bind fun fn=>(ask fn.raw).bind fun _=>match zoV fn.body with
   | some e=>(extSem e args h.app m).bind fun r=>some (.vals r.1 (.of r.2.1) r.2.2)
   | none=>(asCode (R (.code fn.body (.init args h m)))).bind fun q=>(ask (noExit q.1)).bind fun _=>(resAll q.2.st fn.results).bind fun v=>some (.vals v q.2.heap q.2.nxt)
end
noncomputable def ev (Γ:Nat->Option F) (G:Nat->List T):Nat->ET->Option EO
 | 0=>fun _=>none
 | n+1=>evStep Γ G (ev Γ G n)
section
variable {Γ:Nat->Option F} {G:Nat->List T} {R:ET->Option EO}
def zdm (Γ:Nat->Option F) (G:Nat->List T) (R:ET->Option EO):Prop:= ∀t o,R t=some o->Big Γ G t.task o.out
theorem bind_some {α β:Type} {x:Option α} {f:α->Option β} {b:β} (h:x.bind f=some b): ∃a,x=some a/\f a=some b:=by
 cases x with
 | none=>cases h
 | some a=>exact⟨a,rfl,h⟩
theorem zhk (hR:zdm Γ G R) {s:E} {c:C} {o:EO} (h:evCode Γ G R s c=some o):Big Γ G (.code c s.st) o.out:=by
 cases c with
 | skip=>simp only[evCode,zA]at h;subst h;exact .skip
 | ret=>simp only[evCode,zA]at h;subst h;exact .ret
 | exit id=>simp only[evCode,zA]at h;subst h;exact .exit
 | region d l=>
   simp only[evCode]at h;obtain⟨s',h1,h⟩:=bind_some h;simp only[zA]at h;subst h
   exact .region (hR _ _ (asOps_eq h1))
 | regionD ck l=>
   simp only[evCode]at h;obtain⟨s',h1,h⟩:=bind_some h;obtain⟨u,h2,h⟩:=bind_some h;simp only[zA]at h;subst h
   exact .regionD (hR _ _ (asOps_eq h1)) (ask_eq h2)
 | seq a b=>
   simp only[evCode]at h;obtain⟨⟨e,s1⟩,h1,h⟩:=bind_some h;have g1:=hR _ _ (asCode_eq h1)
   cases e with
   | normal=>
     obtain⟨⟨e2,s2⟩,h2,h⟩:=bind_some h;simp only[zA]at h;subst h
     exact .seqN g1 (hR _ _ (asCode_eq h2))
   | exit id=>simp only[zA]at h;subst h;exact .seqX g1 (by intro h;cases h)
   | ret=>simp only[zA]at h;subst h;exact .seqX g1 (by intro h;cases h)
 | cond c a b=>
   simp only[evCode]at h;obtain⟨t,ht,h⟩:=bind_some h;obtain⟨⟨e,s1⟩,h1,h⟩:=bind_some h;simp only[zA]at h;subst h
   exact .cond ht (hR _ _ (asCode_eq h1))
 | block id b=>
   simp only[evCode]at h;obtain⟨⟨e,s1⟩,h1,h⟩:=bind_some h;simp only[zA]at h;subst h
   exact .block (hR _ _ (asCode_eq h1))
 | loop b=>
   simp only[evCode]at h;obtain⟨⟨e,s1⟩,h1,h⟩:=bind_some h;simp only[zA]at h;subst h
   exact .loop (hR _ _ (asCode_eq h1))
 | rangeF x ps bd=>
   simp only[evCode]at h;obtain⟨fv,hfv,h⟩:=bind_some h;obtain⟨⟨g,a,b⟩,hfn,h⟩:=bind_some h;obtain⟨fn,hg,h⟩:=bind_some h;obtain⟨_,hr,h⟩:=bind_some h;obtain⟨⟨r,h',n'⟩,hc,h⟩:=bind_some h;obtain⟨⟨env',ps',bd',st⟩,hl,h⟩:=bind_some h;obtain⟨e,he,h⟩:=bind_some h;simp only[zA]at h;subst h;have g1:=hR _ _ (asVals_eq hc);simp only[ET.task,EO.out,Fn.app_set]at g1;have:=Big.rangeF (s:=s.st) (ps:=ps) (bd:=bd) hfv hfn hg (ask_eq hr) g1 (loopAt_eq hl) he
   simpa only[EO.out,E.st,Fn.app_set]using this
 | ext e=>simp[evCode]at h
 | round a b=>simp[evCode]at h
theorem zbf (hR:zdm Γ G R) {d:Bool} {p:Nat} {ro:ROp} {l:List ROp} {s:E} {e:Eff} {o:EO} (h:evRest R d p ro l s e=some o): ∃s',o= .ops s'/\Big Γ G (.ops d (p+1) l (s.st.apply ro.dst e)) (.ops s'.st):=by
 obtain⟨s',h1,h⟩:=bind_some h;simp only[zA]at h;subst h;have:=hR _ _ (asOps_eq h1);simp only[ET.task,EO.out,E.apply_st]at this;exact⟨s',rfl,this⟩
theorem zjt {st:LSt} (h:st.isReady=true):st= .ready:=by cases st<;>first | rfl | cases h
theorem zju {st:LSt} (h:st.isEnter=true):st= .enter:=by cases st<;>first | rfl | cases h
theorem zlf {st:LSt} (h:st.isBusy=true):st= .busy:=by cases st<;>first | rfl | cases h
theorem zjl {c a b:C} (h:roundOf c=some (a,b)):c= .round a b:=by cases c<;>first | (cases h;rfl) | cases h
theorem extOf_eq {c:C} {e:Ext} (h:zoV c=some e):c= .ext e:=by cases c<;>first | (cases h;rfl) | cases h
theorem zoc {v:V} {k:Nat} (h:ztj v=some k):v= .yl k:=by cases v<;>first | (cases h;rfl) | cases h
theorem zlZ {o:AOp} {r:Bool} {f:Opd} {a:List Opd} (h:zn7 o=some (r,f,a)):o= .call r f a:=by cases o<;>first | (cases h;rfl) | cases h
theorem zjD {o:AOp} {f:Opd} {a:List Opd} (h:zlB o=some (f,a)):o= .fcall f a:=by cases o<;>first | (cases h;rfl) | cases h
theorem zgp (hR:zdm Γ G R) {d:Bool} {p:Nat} {ro:ROp} {l:List ROp} {s:E} {k:Nat} {vs:List V} {o:EO} {f:Opd} {args:List Opd} (hw:wants s.st ro.guard=some true) (hf:s.st.free ro.dst {}) (ho:ro.op= .call true f args)
 (hfv:evl G s.st f=some (.yl k)) (hvs:evls G s.st args=some vs) (h:evYield R d p ro l s k vs=some o):Big Γ G (.ops d p (ro::l) s.st) o.out:=by
 unfold evYield at h;obtain⟨⟨env,ps,bd,st⟩,hk,z1⟩:=bind_some h;obtain⟨_,hst,z2⟩:=bind_some z1;obtain⟨⟨ca,cb⟩,hc,z3⟩:=bind_some z2;obtain⟨_,hlen,z4⟩:=bind_some z3;obtain⟨⟨e1,s1⟩,h1,z5⟩:=bind_some z4;obtain⟨_,he1,z6⟩:=bind_some z5;obtain⟨⟨env1,ps1,bd1,st1⟩,hk1,z7⟩:=bind_some z6;obtain⟨_,hst1,z8⟩:=bind_some z7;obtain⟨⟨e2,s2⟩,h2,z9⟩:=bind_some z8;obtain⟨⟨env',ps',bd',st2⟩,hk2,z10⟩:=bind_some z9;obtain⟨_,hst2,z11⟩:=bind_some z10;have q1:=zjt (ask_eq hst);have q2:=zju (ask_eq hst1);have q3:=zlf (ask_eq hst2);have q4:=zjl hc;have q5:=of_decide_eq_true (ask_eq he1);have q6:=of_decide_eq_true (ask_eq hlen);simp only at q1 q2 q3 q4 q5 q6 h1 h2 hk hk1 hk2 z11;subst q1 q2 q3 q4 q5;obtain⟨s',rfl,hb⟩:=zbf hR z11;have g1:=hR _ _ (asCode_eq h1);have g2:=hR _ _ (asCode_eq h2);simp only[ET.task,EO.out,E.round_st]at g1 g2;refine .opsYield (s:=s.st) (s1:=s1.st) (s2:=s2.st) (e:=e2) hw hf ho hfv (loopAt_eq hk) hvs q6 g1 (loopAt_eq hk1) ?_ (loopAt_eq hk2) ?_
 ·simpa only[E.st,Fn.app_set]using g2
 ·simpa only[E.st,Fn.app_set]using hb
theorem zjH (hR:zdm Γ G R) {d:Bool} {p:Nat} {ro:ROp} {l:List ROp} {s:E} {o:EO} (hw:wants s.st ro.guard=some true) (h:evOp Γ G R d p ro l s=some o):Big Γ G (.ops d p (ro::l) s.st) o.out:=by
 unfold evOp at h;split at h
 ·rename_i raw f args hcall;have ho:=zlZ hcall;obtain⟨_,hf,h⟩:=bind_some h;obtain⟨fv,hfv,h⟩:=bind_some h;obtain⟨vs,hvs,h⟩:=bind_some h;have hfree:=E.free_of (ask_eq hf);split at h
  ·rename_i k hk;obtain⟨_,hr,h⟩:=bind_some h;have hk':=zoc hk;rw[hk']at hfv;rw[ask_eq hr]at ho;exact zgp hR hw hfree ho hfv hvs h
  ·obtain⟨⟨g,a,b⟩,hfn,h⟩:=bind_some h;obtain⟨fn,hg,h⟩:=bind_some h;split at h
   ·rename_i hraw;rw[hraw]at ho;obtain⟨_,hr,h⟩:=bind_some h;obtain⟨⟨r,h',n'⟩,hc,h⟩:=bind_some h;obtain⟨s',rfl,hb⟩:=zbf hR h;have g1:=hR _ _ (asVals_eq hc);exact .opsRaw hw hfree ho hfv hfn hg (ask_eq hr) hvs g1 hb
   ·rename_i hraw;have hraw:raw=false:=by simpa using hraw
    rw[hraw]at ho;obtain⟨_,hr,h⟩:=bind_some h;obtain⟨rs,hrs,h⟩:=bind_some h;obtain⟨r,hc,h⟩:=bind_some h;obtain⟨_,hd,h⟩:=bind_some h;obtain⟨s',rfl,hb⟩:=zbf hR h;have g1:=hR _ _ (asVal_eq hc);have hr':fn.raw=false:=by simpa using ask_eq hr
    have hd':=ask_eq hd;simp only[Bool.or_eq_true,Bool.not_eq_true',List.isEmpty_iff]at hd';refine .opsPure hw hfree ho hfv hfn hg hr' hvs hrs g1 (fun h0=> ?_) hb;rcases hd' with(hd' | hd') | hd'
    ·rw[hd']at h0;cases h0
    ·exact .inl hd'
    ·exact .inr hd'
 ·split at h
  ·rename_i f args hcall;have ho:=zjD hcall;obtain⟨_,hf,h⟩:=bind_some h;obtain⟨fv,hfv,h⟩:=bind_some h;obtain⟨vs,hvs,h⟩:=bind_some h;obtain⟨⟨g,a,b⟩,hfn,h⟩:=bind_some h;obtain⟨fn,hg,h⟩:=bind_some h;obtain⟨_,hr,h⟩:=bind_some h;obtain⟨rs,hrs,h⟩:=bind_some h;obtain⟨_,hd,h⟩:=bind_some h;obtain⟨⟨r,h',n'⟩,hc,h⟩:=bind_some h;obtain⟨e,he,h⟩:=bind_some h;obtain⟨s',rfl,hb⟩:=zbf hR h;have g1:=hR _ _ (asVals_eq hc);exact .opsFresh hw (E.free_of (ask_eq hf)) ho hfv hfn hg (ask_eq hr) hvs hrs (List.isEmpty_iff.1 (ask_eq hd)) g1 he hb
  ·obtain⟨e,he,h⟩:=bind_some h;obtain⟨_,hf,h⟩:=bind_some h;obtain⟨s',rfl,hb⟩:=zbf hR h;exact .opsEff hw (E.free_of (ask_eq hf)) he hb
theorem zd7 (hR:zdm Γ G R):zdm Γ G (evStep Γ G R):=by
 intro t o h
 cases t with
 | code c s=>exact zhk hR h
 | loop b s=>
   simp only[evStep]at h;obtain⟨⟨e,s1⟩,h1,h⟩:=bind_some h;have g1:=hR _ _ (asCode_eq h1)
   cases e with
   | normal=>
     obtain⟨⟨e2,s2⟩,h2,h⟩:=bind_some h;simp only[zA]at h;subst h
     exact .loopN g1 (hR _ _ (asCode_eq h2))
   | exit id=>simp only[zA]at h;subst h;exact .loopX g1 (by intro h;cases h)
   | ret=>simp only[zA]at h;subst h;exact .loopX g1 (by intro h;cases h)
 | ops d p l s=>
   cases l with
   | nil=>simp only[evStep,zA]at h;subst h;exact .opsNil
   | cons ro l=>
     simp only[evStep]at h;obtain⟨w,hw,h⟩:=bind_some h
     cases w with
     | true=>exact zjH hR hw h
     | false=>
       simp only[zG,if_false]at h;obtain⟨_,hf,h⟩:=bind_some h;obtain⟨s',rfl,hb⟩:=zbf hR h
       exact .opsSkip hw (E.free_of (ask_eq hf)) hb
 | pcall g args=>
   simp only[evStep]at h;obtain⟨fn,hg,h⟩:=bind_some h;obtain⟨_,hr,h⟩:=bind_some h;have hr':fn.raw=false:=by simpa using ask_eq hr
   split at h
   ·rename_i e he;obtain⟨r,hx,h⟩:=bind_some h;simp only[zA]at h;subst h;exact .pext hg hr' (extOf_eq he) hx
   ·obtain⟨⟨e,s1⟩,h1,h⟩:=bind_some h;obtain⟨_,hn,h⟩:=bind_some h;obtain⟨v,hv,h⟩:=bind_some h;obtain⟨r,hre,h⟩:=bind_some h;simp only[zA]at h;subst h
    exact .pcall hg hr' (hR _ _ (asCode_eq h1)) (noExit_of (ask_eq hn)) hv hre
 | rcall g args hp m=>
   simp only[evStep]at h;obtain⟨fn,hg,h⟩:=bind_some h;obtain⟨_,hr,h⟩:=bind_some h;split at h
   ·rename_i e he;obtain⟨⟨r,h',n'⟩,hx,h⟩:=bind_some h;simp only[zA]at h;subst h;exact .rext hg (ask_eq hr) (extOf_eq he) hx
   ·obtain⟨⟨e,s1⟩,h1,h⟩:=bind_some h;obtain⟨_,hn,h⟩:=bind_some h;obtain⟨v,hv,h⟩:=bind_some h;simp only[zA]at h;subst h;exact .rcall hg (ask_eq hr) (hR _ _ (asCode_eq h1)) (noExit_of (ask_eq hn)) hv
end
/-! The same evaluator in a form that the kernel runs with less room. -/
abbrev TG:=Nat->Option F
abbrev TL:=Nat->List T
abbrev TR:=ET->Option EO
theorem zxE {α β:Type} (x:Option α) (f:α->Option β):x.bind f=Option.rec none f x:=by cases x<;>rfl
theorem zxx {α:Type} (x:Option EO) (f:E->Option α):(asOps x).bind f=Option.rec none (fun o=>EO.rec (fun _ _=>none) f (fun _=>none) (fun _ _ _=>none) o) x:=by
 cases x with
 | none=>rfl
 | some o=>cases o<;>rfl
theorem zxB {α:Type} (x:Option EO) (f:Ex×E->Option α):(asCode x).bind f=Option.rec none (fun o=>EO.rec (fun e s=>f (e,s)) (fun _=>none) (fun _=>none) (fun _ _ _=>none) o) x:=by
 cases x with
 | none=>rfl
 | some o=>cases o<;>rfl
theorem zxJ {α:Type} (x:Option EO) (f:V->Option α):(asVal x).bind f=Option.rec none (fun o=>EO.rec (fun _ _=>none) (fun _=>none) f (fun _ _ _=>none) o) x:=by
 cases x with
 | none=>rfl
 | some o=>cases o<;>rfl
theorem zxA {α:Type} (x:Option EO) (f:V×Fn (Option O)×Nat->Option α):(asVals x).bind f=Option.rec none (fun o=>EO.rec (fun _ _=>none) (fun _=>none) (fun _=>none) (fun v h n=>f (v,h,n)) o) x:=by
 cases x with
 | none=>rfl
 | some o=>cases o<;>rfl
noncomputable def valsE (v:V) (s:E):EO:=E.rec (fun _ _ _ _ heap nxt _=>EO.vals v heap nxt) s
theorem zxO (v:V) (s:E):EO.vals v s.heap s.nxt=valsE v s:=by cases s;rfl
theorem zxT {α:Type} (b:Bool) (f:Unit->Option α):(ask b).bind f=Bool.rec none (f ()) b:=by cases b<;>rfl
theorem zx8 {α:Type} (b:Bool) (x y:α):(if b=true then x else y)=Bool.rec y x b:=by cases b<;>rfl
noncomputable def stE (t:Option Nat) (env:Fn V) (loc:Fn (Option (List V))) (adr:Fn (Option (Nat×Nat))) (used:Fn Bool) (heap:Fn (Option O)) (nxt bas:Nat) (v:V) (a:Option (Nat×Nat)) (c:Option (List V)) (w:Option (Nat×List V)):E:=
 Option.rec ⟨env,Option.rec loc (fun w=>loc.set w.1 (some w.2)) w,adr,Option.rec used (fun a=>used.set a.1 true) a,heap,nxt,bas⟩
  (fun t=>⟨env.set t v,(Option.rec loc (fun w=>loc.set w.1 (some w.2)) w:Fn (Option (List V))).set t c,adr.set t a,Option.rec used (fun a=>used.set a.1 true) a,heap,nxt,bas⟩) t
noncomputable def restE (R:TR) (d:Bool) (p:Nat) (t:Option Nat) (l:List ROp) (env:Fn V) (loc:Fn (Option (List V))) (adr:Fn (Option (Nat×Nat))) (used:Fn Bool) (heap:Fn (Option O)) (nxt bas:Nat) (e:Eff):Option EO:=
 Option.rec none (fun q=>EO.rec (fun _ _=>none) (fun s'=>some (.ops s')) (fun _=>none) (fun _ _ _=>none) q) (R (.ops d (p+1) l
  (Eff.rec (fun v a c w hp=>List.rec (stE t env loc adr used heap nxt bas v a c w) (fun _ _ _=>stE t env loc adr used (E.hpSet heap hp) nxt bas v a c w) hp) e)))
theorem zyZ (R:TR) (d:Bool) (p:Nat) (t:Option Nat) (g:Option (Nat×Bool)) (op:AOp) (l:List ROp) (env:Fn V) (loc:Fn (Option (List V))) (adr:Fn (Option (Nat×Nat))) (used:Fn Bool) (heap:Fn (Option O)) (nxt bas:Nat) (e:Eff):
 evRest R d p ⟨g,t,op⟩ l ⟨env,loc,adr,used,heap,nxt,bas⟩ e=restE R d p t l env loc adr used heap nxt bas e:=by
 have h:E.apply ⟨env,loc,adr,used,heap,nxt,bas⟩ t e=Eff.rec (fun v a c w hp=>List.rec (stE t env loc adr used heap nxt bas v a c w) (fun _ _ _=>stE t env loc adr used (E.hpSet heap hp) nxt bas v a c w) hp) e:=by
  obtain⟨v,a,c,w,hp⟩:=e;cases t<;>cases hp<;>rcases a with _ | ⟨a1,a2⟩<;>rcases w with _ | ⟨w1,w2⟩<;>rfl
 unfold evRest restE;rw[zxx];simp only[h]
theorem plain1 (Γ:TG) (G:TL) (R:TR) (d:Bool) (p:Nat) (g:Option (Nat×Bool)) (t:Option Nat) (op:AOp) (l:List ROp) (env:Fn V) (loc:Fn (Option (List V))) (adr:Fn (Option (Nat×Nat))) (used:Fn Bool) (heap:Fn (Option O)) (nxt bas:Nat) (h1:zn7 op=none) (h2:zlB op=none):
 (Option.rec none (fun e=>Bool.rec none (restE R d p t l env loc adr used heap nxt bas e) (E.freeB ⟨env,loc,adr,used,heap,nxt,bas⟩ t e)) (aeval G p (E.st ⟨env,loc,adr,used,heap,nxt,bas⟩) op):Option EO)=evOp Γ G R d p ⟨g,t,op⟩ l ⟨env,loc,adr,used,heap,nxt,bas⟩:=by
 simp only[evOp,h1,h2,zxT,zyZ];simp only[zxE]
noncomputable def evO1 (op:AOp): {f:TG->TL->TR->Bool->Nat->Option (Nat×Bool)->Option Nat->List ROp->Fn V->Fn (Option (List V))->Fn (Option (Nat×Nat))->Fn Bool->Fn (Option O)->Nat->Nat->Option EO//
 ∀Γ G R d p g t l env loc adr used heap nxt bas,f Γ G R d p g t l env loc adr used heap nxt bas=evOp Γ G R d p ⟨g,t,op⟩ l ⟨env,loc,adr,used,heap,nxt,bas⟩}:=by
 induction op
 case call r f a=>exact⟨_,fun Γ G R d p g t l env loc adr used heap nxt bas=>by simp only[evOp,zn7,zyZ,zxx,zxB,zxJ,zxA,zxO,zxT];(try simp only[zxE,zx8]);rfl⟩
 case fcall f a=>exact⟨_,fun Γ G R d p g t l env loc adr used heap nxt bas=>by simp only[evOp,zn7,zlB,zyZ,zxx,zxB,zxJ,zxA,zxO,zxT];(try simp only[zxE,zx8]);rfl⟩
 all_goals exact⟨_,fun Γ G R d p g t l env loc adr used heap nxt bas=>by refine Eq.trans ?_ (plain1 Γ G R d p g t _ l env loc adr used heap nxt bas rfl rfl);simp only[aeval,zC,zxE];rfl⟩
noncomputable def begE (s:E) (n:Nat):E:=
 E.rec (fun env loc _ _ heap nxt _=>Nat.rec ⟨env,loc,.of fun _=>none,.of fun _=>false,heap,n,0⟩ (fun m _=>⟨env,loc,.of fun _=>none,.of fun _=>false,heap,m+1+n,m+1⟩) nxt) s
theorem zBd (s:E) (n:Nat):s.begin n=begE s n:=by
 obtain⟨env,loc,adr,used,heap,nxt,bas⟩:=s;cases nxt
 ·show(⟨env,loc,_,_,heap,0+n,0⟩:E)=⟨env,loc,_,_,heap,n,0⟩;rw[Nat.zero_add]
 ·rfl
noncomputable def evC1 (c:C): {f:TG->TL->TR->E->Option EO// ∀Γ G R s,f Γ G R s=evCode Γ G R s c}:=by
 induction c<;>exact⟨_,fun Γ G R s=>by simp only[evCode,zBd,zxx,zxB,zxJ,zxA,zxO,zxT];(try simp only[zxE,zx8]);rfl⟩
noncomputable def skp (env:Fn V) (loc:Fn (Option (List V))) (adr:Fn (Option (Nat×Nat))) (used:Fn Bool) (heap:Fn (Option O)) (nxt bas:Nat) (dst:Option Nat):E:=
 Option.rec ⟨env,loc,adr,used,heap,nxt,bas⟩ (fun d=>⟨env.set d .undef,loc.set d none,adr.set d none,used,heap,nxt,bas⟩) dst
theorem zBh (env:Fn V) (loc:Fn (Option (List V))) (adr:Fn (Option (Nat×Nat))) (used:Fn Bool) (heap:Fn (Option O)) (nxt bas:Nat) (dst:Option Nat):E.apply ⟨env,loc,adr,used,heap,nxt,bas⟩ dst {}=skp env loc adr used heap nxt bas dst:=by
 cases dst<;>rfl
theorem zBc (Γ:TG) (G:TL) (R:TR) (d:Bool) (p:Nat) (o:ROp) (l:List ROp) (env:Fn V) (loc:Fn (Option (List V))) (adr:Fn (Option (Nat×Nat))) (used:Fn Bool) (heap:Fn (Option O)) (nxt bas:Nat):
 (Option.rec none (fun w=>Bool.rec (Bool.rec none (Option.rec none (fun q=>EO.rec (fun _ _=>none) (fun s'=>some (.ops s')) (fun _=>none) (fun _ _ _=>none) q) (R (.ops d (p+1) l (skp env loc adr used heap nxt bas o.dst)))) (E.freeB ⟨env,loc,adr,used,heap,nxt,bas⟩ o.dst {}))
   ((evO1 o.op).1 Γ G R d p o.guard o.dst l env loc adr used heap nxt bas) w) (wants (E.st ⟨env,loc,adr,used,heap,nxt,bas⟩) o.guard):Option EO)=evStep Γ G R (.ops d p (o::l) ⟨env,loc,adr,used,heap,nxt,bas⟩):=by
 simp only[evStep]
 cases wants (E.st ⟨env,loc,adr,used,heap,nxt,bas⟩) o.guard with
 | none=>rfl
 | some w=>
   cases w with
   | true=>exact(evO1 o.op).2 ..
   | false=>
     simp only[zD,zG,if_false,evRest,zBh]
     cases E.freeB ⟨env,loc,adr,used,heap,nxt,bas⟩ o.dst {}with
     | false=>rfl
     | true=>
       simp only[zxx,zxT]
noncomputable def evS1 (t:ET): {f:TG->TL->TR->Option EO// ∀Γ G R,f Γ G R=evStep Γ G R t}:=by
 induction t with
 | code c s=>exact⟨fun Γ G R=>(evC1 c).1 Γ G R s,fun Γ G R=>(evC1 c).2 Γ G R s⟩
 | loop b s=>exact⟨_,fun Γ G R=>by simp only[evStep,zxx,zxB,zxJ,zxA,zxO,zxT];(try simp only[zxE,zx8]);rfl⟩
 | ops d p l s=>
   induction l with
   | nil=>exact⟨_,fun Γ G R=>by simp only[evStep,zxx,zxB,zxJ,zxA,zxO,zxT];(try simp only[zxE,zx8]);rfl⟩
   | cons o l _=>
     induction s with
     | mk env loc adr used heap nxt bas=>exact⟨_,fun Γ G R=>zBc Γ G R d p o l env loc adr used heap nxt bas⟩
 | pcall g a=>exact⟨_,fun Γ G R=>by simp only[evStep,zxx,zxB,zxJ,zxA,zxO,zxT];(try simp only[zxE,zx8]);rfl⟩
 | rcall g a h m=>exact⟨_,fun Γ G R=>by simp only[evStep,zxx,zxB,zxJ,zxA,zxO,zxT];(try simp only[zxE,zx8]);rfl⟩
noncomputable def knownT (K:Nat->List V->Option V) (t:ET):Option V:=ET.rec (fun _ _=>none) (fun _ _=>none) (fun _ _ _ _=>none) K (fun _ _ _ _=>none) t
noncomputable def ev2 (K:Nat->List V->Option V) (Γ:TG) (G:TL) (n:Nat):TR:=Nat.rec (fun _=>none) (fun _ R t=>Option.rec ((evS1 t).1 Γ G R) (fun r=>some (.val r)) (knownT K t)) n
theorem ev2_sound {Γ:TG} {G:TL} {K:Nat->List V->Option V} (hK: ∀g args r,K g args=some r->Den Γ G g args=some r): ∀n,zdm Γ G (ev2 K Γ G n)
 | 0=>fun _ _ h=>by cases h
 | n+1=>by
   intro t o h;have h':(Option.rec ((evS1 t).1 Γ G (ev2 K Γ G n)) (fun r=>some (.val r)) (knownT K t):Option EO)=some o:=h
   cases hk:knownT K t with
   | none=>
     rw[hk]at h';have h2:(evS1 t).1 Γ G (ev2 K Γ G n)=some o:=h';rw[(evS1 t).2]at h2
     exact zd7 (ev2_sound hK n) _ _ h2
   | some r=>
     rw[hk]at h';cases h'
     cases t with
     | pcall g a=>exact den_iff.1 (hK g a r hk)
     | _=>cases hk
theorem zxs {Γ:TG} {G:TL} {K:Nat->List V->Option V} (hK: ∀g args r,K g args=some r->Den Γ G g args=some r) (n:Nat) {g:Nat} {args:List V} {r:V} (h:ev2 K Γ G n (.pcall g args)=some (.val r)):Den Γ G g args=some r:=
 den_iff.2 (ev2_sound hK n _ _ h)
end Rg
end
section
set_option maxRecDepth 100000
namespace Rg
open Go
mutual
def eqT:T->T->Bool
 | .int k a,.int l b=>decide (k=l)&&decide (a=b)
 | .bool a,.bool b=>decide (a=b)
 | .str a,.str b=>decide (a.data.toList=b.data.toList)
 | .sl a,.sl b=>zpj a b
 | _,_=>false
def eqR:List T->List T->Bool
 | [],[]=>true
 | x::a,y::b=>eqT x y&&eqR a b
 | _,_=>false
def zpj:List (List T)->List (List T)->Bool
 | [],[]=>true
 | x::a,y::b=>eqR x y&&zpj a b
 | _,_=>false
end
mutual
theorem zn2: ∀{a b:T},eqT a b=true->a=b
 | .int k a,b,h=>by
   cases b<;>simp only[eqT,zF,decide_eq_true_eq,zG]at h
   rw[h.1,h.2]
 | .bool a,b,h=>by
   cases b<;>simp only[eqT,decide_eq_true_eq,zG]at h
   rw[h]
 | .str a,b,h=>by
   cases b<;>simp only[eqT,decide_eq_true_eq,zG]at h
   rename_i b
   have:a=b:=by
    cases a;cases b
    congr
    exact Array.toList_inj.1 h
   rw[this]
 | .sl a,b,h=>by
   cases b<;>simp only[eqT,zG]at h
   rw[zlH h]
 | .nilp,b,h=>by simp[eqT]at h
 | .nils,b,h=>by simp[eqT]at h
 | .nilm,b,h=>by simp[eqT]at h
 | .nilf,b,h=>by simp[eqT]at h
 | .nili,b,h=>by simp[eqT]at h
 | .ip _,b,h=>by simp[eqT]at h
 | .fn _ _ _,b,h=>by simp[eqT]at h
 | .fa _ _,b,h=>by simp[eqT]at h
 | .opq,b,h=>by simp[eqT]at h
 | .slc _,b,h=>by simp[eqT]at h
theorem zlI: ∀{a b:List T},eqR a b=true->a=b
 | [],[],_=>rfl
 | [],_::_,h=>by simp[eqR]at h
 | _::_,[],h=>by simp[eqR]at h
 | x::a,y::b,h=>by
   simp only[eqR,zF]at h;rw[zn2 h.1,zlI h.2]
theorem zlH: ∀{a b:List (List T)},zpj a b=true->a=b
 | [],[],_=>rfl
 | [],_::_,h=>by simp[zpj]at h
 | _::_,[],h=>by simp[zpj]at h
 | x::a,y::b,h=>by
   simp only[zpj,zF]at h;rw[zlI h.1,zlH h.2]
end
def cellsT:List V->Option (List T)
 | []=>some []
 | .t x::r=>(cellsT r).map (x:: ·)
 | _=>none
theorem ze6: ∀{l:List V} {r:List T},cellsT l=some r->l=r.map V.t
 | [],r,h=>by cases h;rfl
 | .t x::l,r,h=>by
   simp only[cellsT,zE]at h;obtain⟨y,hy,rfl⟩:=h
   rw[ze6 hy];rfl
 | .ms _ _ _::_,_,h=>by cases h
 | .mp _ _ _::_,_,h=>by cases h
 | .mm _::_,_,h=>by cases h
 | .yl _::_,_,h=>by cases h
 | .fn _ _ _::_,_,h=>by cases h
 | .agg _::_,_,h=>by cases h
 | .tup _::_,_,h=>by cases h
 | .undef::_,_,h=>by cases h
 | .lb::_,_,h=>by cases h
def eqV:V->V->Bool
 | .t a,.t b=>eqT a b
 | .agg a,.agg b=>match cellsT a,cellsT b with
   | some x,some y=>eqR x y
   | _,_=>false
 | _,_=>false
theorem zqi {a b:V} (h:eqV a b=true):a=b:=by
 unfold eqV at h;split at h
 ·rw[zn2 h]
 ·split at h
  ·rename_i h1 h2;rw[ze6 h1,ze6 h2,zlI h]
  ·cases h
 ·cases h
def zpi:List V->List V->Bool
 | [],[]=>true
 | x::a,y::b=>eqV x y&&zpi a b
 | _,_=>false
theorem zlG: ∀{a b:List V},zpi a b=true->a=b
 | [],[],_=>rfl
 | [],_::_,h=>by simp[zpi]at h
 | _::_,[],h=>by simp[zpi]at h
 | x::a,y::b,h=>by
   simp only[zpi,zF]at h;rw[zqi h.1,zlG h.2]
def ztM (l:List (Nat×List V×V)) (g:Nat) (args:List V):Option V:=(l.find? fun e=>e.1==g&&zpi e.2.1 args).map (·.2.2)
theorem orcl_ok {l:List (Nat×List V×V)} (h: ∀e∈l,Den Γ G e.1 e.2.1=some e.2.2): ∀g args r,ztM l g args=some r->Den Γ G g args=some r:=by
 intro g args r hr;unfold ztM at hr;rw[zE]at hr;obtain⟨e,he,rfl⟩:=hr;have h1:=List.find?_some he;simp only[zF,beq_iff_eq]at h1;rw[<- h1.1,<- zlG h1.2];exact h e (List.mem_of_find?_eq_some he)
end Rg
end
section
set_option maxRecDepth 100000
namespace Rg
open Go
def PI (l:List Pl):Prog:=exH.ins (ptB exH l)
abbrev zxt (p:Prog):V:=(.agg [.t (.sl ((p).cells.map (Cell.enc))),.t (.sl ((p).modules.map (Contract.enc))),.t (.sl ((p).locks.map (Lock.enc))),.t (.sl ((p).threads.map (Thread.enc)))])
def plV (l:List Pl):V:=.t (.sl (l.map Pl.enc))
def sets9:List (List Pl):=[[],[(0,0)],[(0,1)],[(1,0)],[(1,1)],[(0,0),(0,1)],[(0,0),(1,0)],[(0,0),(1,1)],[(0,1),(1,0)],[(0,1),(1,1)]]
def zBU:List (Nat×List V×V):=(415,[zxt exH],vb true)::sets9.map fun l=>(299,[zxt (PI l)],vb true)
theorem zBG:sets9.all (fun l=>validB (PI l))=true:=by decide+kernel
theorem kVal_ok: ∀e∈zBU,Den Γ G e.1 e.2.1=some e.2.2:=by
 intro e he;rcases List.mem_cons.1 he with rfl | he
 ·have:=zeq exH exHS;rw[zs2]at this;exact this
 ·obtain⟨l,hl,rfl⟩:=List.mem_map.1 he;have:=zhy (PI l) (ins_sane exHK exHS _);rw[List.all_eq_true.1 zBG l hl]at this;exact this
end Rg
end

/- Part of the proof of laws of relyguardtop. No condition. -/
import Derived.Test.YtoidcnbdndioaaaGreatDoorKartAJ
set_option linter.unusedSimpArgs false
set_option linter.unusedVariables false
section
namespace Rg
open Go
theorem zvb (d:Nat): ∀(e:Expr) (l:Int),l.toNat=d->l<=100->Den Γ G 68 [(.agg [.t (ti (e).op),.t (ti (e).w),.t (ti (e).n),.t (.sl ((e).kids.map (Expr.enc)))]),vi l]=some (vb (e.deep d)):=by
 induction d with
 | zero=>
   intro e l hl CE
   (refine zag Γ68 rfl ?_;dsimp only[f68])
   have h1:l<1:=by omega
   simp -dsimp only[go_sem,seval,h1]
   rfl
 | succ d ih=>
   intro e l hl CE
   (refine zag Γ68 rfl ?_;dsimp only[f68])
   have h1: ¬l<1:=by omega
   have hn:=zuv e;simp -dsimp only[go_sem,seval,h1,hn];refine zac (fun h=> ?_) (fun h=> ?_)<;>(try simp only[zah]at h)<;>(try simp -dsimp only[go_sem,seval, *])
   ·simp only[Expr.deep,h,Bool.false_and]
   ·have Ac:=zdj h;refine zaT 536862768 e.kids.length (fun i f=>(f 5).v=vi i/\(e.kids.take i).all (Expr.deep d)=true) rfl rfl ⟨by simp -dsimp only[go_sem,seval],by simp⟩ ?_;rintro i f u kk bb hi ⟨h5,Aa⟩;have hw:=zan i (by omega);simp -dsimp only[go_sem,seval,h5];refine zac (fun h=> ?_) (fun h=> ?_)<;>(try simp only[zah]at h)<;>(try simp -dsimp only[go_sem,seval, *])
    ·obtain⟨x,hx,hm⟩:=zai ‹i<e.kids.length›;have Cj:IntKind.i64.wrap (l-1)=l-1:=zaH (by omega);have hd:=ih x (l-1) (by omega) (by omega);simp -dsimp only[go_sem,seval,h5,hx,Cj,hd];refine zac (fun h=> ?_) (fun h=> ?_)<;>(try simp only[zah]at h)<;>(try simp -dsimp only[go_sem,seval, *])
     ·rw[Expr.deep,zcr hm h];simp
     ·exact⟨by omega,by simp -dsimp only[go_sem,seval,hw],zdP hx Aa h⟩
    ·have:i=e.kids.length:=by omega
     subst this;rw[List.take_length]at Aa;simp only[Expr.deep,Aa,Bool.and_true];simp_all
def Expr.formed (e:Expr):Bool:=decide (e.size<=600)&&e.deep 40
theorem zhy (e:Expr):Den Γ G 48 [(.agg [.t (ti (e).op),.t (ti (e).w),.t (ti (e).n),.t (.sl ((e).kids.map (Expr.enc)))])]=some (vb e.formed):=by
 (refine zag Γ48 rfl ?_;dsimp only[f48])
 have h1:=zoT e 601 (by omega);have h2:=zvb 40 e 40 rfl (by omega);simp -dsimp only[go_sem,seval,h1,h2];refine zac (fun h=> ?_) (fun h=> ?_)<;>(try simp only[zah]at h)<;>(try simp -dsimp only[go_sem,seval, *])
 ·have:e.size<=600:=by omega
  simp[Expr.formed,this]
 ·have : ¬e.size<=600:=by omega
  simp[Expr.formed,this]
theorem zdX (e:Expr) (l:Int) (hl:0<=l/\l<10000):Den Γ G 23 [(.agg [.t (ti (e).op),.t (ti (e).w),.t (ti (e).n),.t (.sl ((e).kids.map (Expr.enc)))]),vi l]=some (vb (decide ((e.size:Int)<=l))):=by
 (refine zag Γ23 rfl ?_;dsimp only[f23])
 have hw:IntKind.i64.wrap (l+1)=l+1:=zaH (by omega);have h1:=zoT e (l+1) (by omega);simp -dsimp only[go_sem,seval,h1,hw];rw[if_neg (by omega)];simp;omega
def zb3 (cells:List Cell) (pair:Bool) (e:Expr):Bool:=
 if e.op=3/\pair=false then false
 else if(e.op=3\/e.op=2)then(match cells[e.n.toNat]? with | some c=>decide (c.w=e.w) | none=>false)
 else true
def Expr.nneg (e:Expr):Bool:=e.allE fun x=>decide (0<=x.n/\x.kids.length<=3)
theorem zur (cells:List Cell) (pair:Bool) (e:Expr):e.nneg=true->Den Γ G 49 [(.agg [.t (ti (e).op),.t (ti (e).w),.t (ti (e).n),.t (.sl ((e).kids.map (Expr.enc)))]),.t (.sl (cells.map Cell.enc)),vb pair]=some (vb (e.allE (zb3 cells pair))):=by
 induction e using Expr.ind with
 | _ e ih=>
 intro hn;have Cg:0<=e.n/\e.kids.length<=3:=by have:=Expr.allE_self hn;simpa using this
 (refine zag Γ49 rfl ?_;dsimp only[f49])
 rcases hc:cells[e.n.toNat]? with _ | c
 ·have Bv:e.n>=(cells.length:Int):=by rw[List.getElem?_eq_none_iff]at hc;omega
  simp -dsimp only[go_sem,seval]
  repeat'(refine zac (fun h=> ?_) (fun h=> ?_)<;>(try simp only[zah]at h)<;>(try simp -dsimp only[go_sem,seval, *]))
  all_goals(try(rw[Expr.allE_eq];simp[zb3, *];done))
  all_goals(
   refine zaT 144112989052600512 e.kids.length (fun i f=>(f 7).v=vi i/\(e.kids.take i).all (Expr.allE (zb3 cells pair))=true) rfl rfl ⟨by simp -dsimp only[go_sem,seval],by simp⟩ ?_;rintro i f u kk bb hi ⟨h5,Aa⟩;have hw:=zan i (by omega);simp -dsimp only[go_sem,seval,h5];refine zac (fun h=> ?_) (fun h=> ?_)<;>(try simp only[zah]at h)<;>(try simp -dsimp only[go_sem,seval, *])
   ·obtain⟨x,hx,hm⟩:=zai ‹i<e.kids.length›;have hd:=ih x hm (Expr.allE_kid hn hm);simp -dsimp only[go_sem,seval,h5,hx,hd];refine zac (fun h=> ?_) (fun h=> ?_)<;>(try simp only[zah]at h)<;>(try simp -dsimp only[go_sem,seval, *])
    ·subst_vars;rw[Expr.allE_eq,zcr hm h];simp
    ·exact⟨by omega,by simp -dsimp only[go_sem,seval,hw],zdP hx Aa h⟩
   ·have:i=e.kids.length:=by omega
    subst this;rw[List.take_length]at Aa
    subst_vars;rw[Expr.allE_eq,Aa];simp[zb3, *])
 ·have Bv: ¬e.n>=(cells.length:Int):=by
   have:=(zH.1 hc).1;omega
  simp -dsimp only[go_sem,seval]
  repeat'(refine zac (fun h=> ?_) (fun h=> ?_)<;>(try simp only[zah]at h)<;>(try simp -dsimp only[go_sem,seval, *]))
  all_goals(try(rw[Expr.allE_eq];simp[zb3, *];done))
  all_goals(
   refine zaT 144112989052600512 e.kids.length (fun i f=>(f 7).v=vi i/\(e.kids.take i).all (Expr.allE (zb3 cells pair))=true) rfl rfl ⟨by simp -dsimp only[go_sem,seval],by simp⟩ ?_;rintro i f u kk bb hi ⟨h5,Aa⟩;have hw:=zan i (by omega);simp -dsimp only[go_sem,seval,h5];refine zac (fun h=> ?_) (fun h=> ?_)<;>(try simp only[zah]at h)<;>(try simp -dsimp only[go_sem,seval, *])
   ·obtain⟨x,hx,hm⟩:=zai ‹i<e.kids.length›;have hd:=ih x hm (Expr.allE_kid hn hm);simp -dsimp only[go_sem,seval,h5,hx,hd];refine zac (fun h=> ?_) (fun h=> ?_)<;>(try simp only[zah]at h)<;>(try simp -dsimp only[go_sem,seval, *])
    ·subst_vars;rw[Expr.allE_eq,zcr hm h];simp
    ·exact⟨by omega,by simp -dsimp only[go_sem,seval,hw],zdP hx Aa h⟩
   ·have:i=e.kids.length:=by omega
    subst this;rw[List.take_length]at Aa
    subst_vars;rw[Expr.allE_eq,Aa];simp[zb3, *])
theorem zfZ {e:Expr} (h:zbk e=true):0<=e.n:=by
 unfold zbk at h;split at h
 ·simp at h
 ·grind
theorem zs6 (d:Nat): ∀e:Expr,e.deep d=true->e.nneg=true:=by
 induction d with
 | zero=>intro e h;simp[Expr.deep]at h
 | succ d ih=>
   intro e h;simp only[Expr.deep,zF,zN]at h;unfold Expr.nneg;rw[Expr.allE_eq];simp only[zF,zN,decide_eq_true_eq];exact⟨⟨zfZ h.1,zdj h.1⟩,fun k hk=>ih k (h.2 k hk)⟩
theorem zog {e:Expr} (h:e.formed=true):e.nneg=true:=by
 simp only[Expr.formed,zF]at h;exact zs6 40 e h.2
def Expr.valid (e:Expr) (cells:List Cell) (pair:Bool):Bool:=e.formed&&e.allE (zb3 cells pair)
theorem zfT (e:Expr) (cells:List Cell) (pair:Bool):Den Γ G 24 [(.agg [.t (ti (e).op),.t (ti (e).w),.t (ti (e).n),.t (.sl ((e).kids.map (Expr.enc)))]),.t (.sl (cells.map Cell.enc)),vb pair]=some (vb (e.valid cells pair)):=by
 (refine zag Γ24 rfl ?_;dsimp only[f24])
 have h1:=zhy e
 by_cases hf:e.formed=true
 ·have h2:=zur cells pair e (zog hf);simp -dsimp only[go_sem,seval,h1,h2,hf];simp[Expr.valid,hf]
 ·have hf:e.formed=false:=by simpa using hf
  simp -dsimp only[go_sem,seval,h1,hf];simp[Expr.valid,hf]
theorem ziA (a w:Int) (hw:0<=w/\w<=62):IntKind.i64.wrap ((BitVec.ofInt IntKind.i64.bits a&&& BitVec.ofInt IntKind.i64.bits (2^w.toNat-1)).toNat)=a % 2^w.toNat:=by
 have hp:=zcn w.toNat
 have hb:(BitVec.ofInt 64 a&&& BitVec.ofInt 64 (2^w.toNat-1)).toNat=(a % 2^w.toNat).toNat:=by
  have hk:w.toNat<=62:=by omega
  generalize w.toNat=k at hk
  have e1:(2:Int)^k-1=((2^k-1:Nat):Int):=by
   have:0<2^k:=Nat.pow_pos (by omega);rw[Int.ofNat_sub this];simp
  have Ad:2^k<=2^62:=Nat.pow_le_pow_right (by omega) hk
  have e2:(BitVec.ofInt 64 ((2:Int)^k-1)).toNat=2^k-1:=by
   rw[e1];simp only[BitVec.toNat_ofInt];rw[show(((2^64:Nat):Int))=((2^64:Nat):Int)from rfl,<- Int.natCast_emod,Int.toNat_natCast,Nat.mod_eq_of_lt (by omega)]
  rw[BitVec.toNat_and,e2,Nat.and_two_pow_sub_one_eq_mod,BitVec.toNat_ofInt]
  have hd:(2:Int)^k ∣ ((2^64:Nat):Int):=by
   have:(2:Nat)^k ∣ 2^64:=Nat.pow_dvd_pow 2 (by omega)
   exact_mod_cast this
  have HC:0<=a % ((2^64:Nat):Int):=Int.emod_nonneg _ (by omega);have G6:(0:Int)<2^k:=zcn k
  have:(((a % ((2^64:Nat):Int)).toNat % 2^k:Nat):Int)=a % 2^k:=by
   rw[Int.natCast_emod,Int.toNat_of_nonneg HC];rw[show((2^k:Nat):Int)=(2:Int)^k by simp];exact Int.emod_emod_of_dvd a hd
  omega
 show IntKind.i64.wrap ((BitVec.ofInt 64 a&&& BitVec.ofInt 64 (2^w.toNat-1)).toNat)=_;rw[hb];have h1:=Int.emod_nonneg a (show(2:Int)^w.toNat≠0 by omega);have h2:=Int.emod_lt_of_pos a hp;have h3:=zes (i:=w.toNat) (k:=62) (by omega);rw[zaH (by omega)];omega
def atI (l:List Int) (n:Int):Int:=l.getD n.toNat 0
end Rg
end
section
namespace Rg
open Go
theorem zfe {a:Int} (h:0<=a/\a<2^62):(BitVec.ofInt 64 a).toNat=a.toNat:=by
 simp only[BitVec.toNat_ofInt];omega
theorem znp {a b:Int} (ha:0<=a/\a<2^62) (hb:0<=b/\b<2^62):IntKind.i64.wrap ((BitVec.ofInt IntKind.i64.bits a&&& BitVec.ofInt IntKind.i64.bits b).toNat)=((a.toNat&&& b.toNat:Nat):Int):=by
 show IntKind.i64.wrap ((BitVec.ofInt 64 a&&& BitVec.ofInt 64 b).toNat)=_;rw[BitVec.toNat_and,zfe ha,zfe hb];have:a.toNat&&& b.toNat<=a.toNat:=Nat.and_le_left;exact zaH (by omega)
theorem zpg {a b:Int} (ha:0<=a/\a<2^62) (hb:0<=b/\b<2^62):IntKind.i64.wrap ((BitVec.ofInt IntKind.i64.bits a ||| BitVec.ofInt IntKind.i64.bits b).toNat)=((a.toNat ||| b.toNat:Nat):Int):=by
 show IntKind.i64.wrap ((BitVec.ofInt 64 a ||| BitVec.ofInt 64 b).toNat)=_;rw[BitVec.toNat_or,zfe ha,zfe hb];have:a.toNat ||| b.toNat<2^62:=Nat.or_lt_two_pow (by omega) (by omega);exact zaH (by omega)
theorem zl7 {a b:Int} (ha:0<=a/\a<2^62) (hb:0<=b/\b<2^62):IntKind.i64.wrap ((BitVec.ofInt IntKind.i64.bits a^^^ BitVec.ofInt IntKind.i64.bits b).toNat)=((a.toNat^^^ b.toNat:Nat):Int):=by
 show IntKind.i64.wrap ((BitVec.ofInt 64 a^^^ BitVec.ofInt 64 b).toNat)=_;rw[BitVec.toNat_xor,zfe ha,zfe hb];have:a.toNat^^^ b.toNat<2^62:=Nat.xor_lt_two_pow (by omega) (by omega);exact zaH (by omega)
def opv (op w a b c:Int):Int:=
 if op=4 then 2^w.toNat-1-a
 else if op=5 then((a.toNat&&& b.toNat:Nat):Int)
 else if op=6 then((a.toNat ||| b.toNat:Nat):Int)
 else if op=7 then((a.toNat^^^ b.toNat:Nat):Int)
 else if op=8 then(a+b) % 2^w.toNat
 else if op=9 then(a-b) % 2^w.toNat
 else if op=10 then a*b % 2^w.toNat
 else if op=11 then(if a=b then 1 else 0)
 else if op=12 then(if a<b then 1 else 0)
 else if op=13 then(if a<=b then 1 else 0)
 else(if a=1 then b else c)
def zso (e:Expr) (v:List Int):Prop:=zbk e=true/\v.length=e.kids.length/\(∀x∈v,0<=x/\x<256)/\(e.op=14->v.getD 0 0=0\/v.getD 0 0=1)
end Rg
end
section
-- FULL
-- APPS
namespace Rg
open Go
namespace Expr
mutual
def ev (old now:List Int):Expr->Int
 | .mk op w n ks=>if op=1 then n else if op=2 then atI now n % 2^w.toNat else if op=3 then atI old n % 2^w.toNat
   else opv op w ((evs old now ks).getD 0 0) ((evs old now ks).getD 1 0) ((evs old now ks).getD 2 0)
def evs (old now:List Int):List Expr->List Int
 | []=>[]
 | e::r=>ev old now e::evs old now r
end
theorem zvZ (old now:List Int): ∀l:List Expr,evs old now l=l.map (ev old now)
 | []=>rfl
 | e::r=>by rw[evs,zvZ old now r];rfl
theorem ev_eq (old now:List Int) (e:Expr):ev old now e=if e.op=1 then e.n else if e.op=2 then atI now e.n % 2^e.w.toNat else if e.op=3 then atI old e.n % 2^e.w.toNat
 else opv e.op e.w ((e.kids.map (ev old now)).getD 0 0) ((e.kids.map (ev old now)).getD 1 0) ((e.kids.map (ev old now)).getD 2 0):=by
 cases e;simp only[ev,zvZ,op,w,n,kids];rfl
end Expr
theorem zcq {d:Nat} {e:Expr} (h:e.deep d=true):zbk e=true:=by
 cases d with
 | zero=>simp[Expr.deep]at h
 | succ d=>simp only[Expr.deep,zF]at h;exact h.1
theorem zc7 {d:Nat} {e k:Expr} (h:e.deep (d+1)=true) (hk:k∈e.kids):k.deep d=true:=by
 simp only[Expr.deep,zF,zN]at h;exact h.2 k hk
theorem zmO {e:Expr} (h:zbk e=true):1<=e.w/\e.w<=8:=by
 unfold zbk at h;grind
theorem zct {e:Expr} (h:zbk e=true):zcO e.op=(e.kids.length:Int):=by
 unfold zbk at h;grind
theorem ztm {a b:Nat} {k:Nat} (ha:a<2^k):a&&& b<2^k:=Nat.lt_of_le_of_lt Nat.and_le_left ha
theorem zix (old now:List Int) (d:Nat): ∀e:Expr,e.deep d=true->0<=e.ev old now/\e.ev old now<2^e.w.toNat:=by
 induction d with
 | zero=>intro e h;simp[Expr.deep]at h
 | succ d ih=>
   intro e h;have hn:=zcq h;have hw:=zmO hn;have ha:=zct hn;have hk: ∀k∈e.kids,0<=k.ev old now/\k.ev old now<2^k.w.toNat:=fun k hk=>ih k (zc7 h hk)
   have Nt:=zcn e.w.toNat;have D0:(2:Int)<=2^e.w.toNat:=by have:=zes (i:=1) (k:=e.w.toNat) (by omega);simpa using this
   rw[Expr.ev_eq];obtain⟨op,w,n,ks⟩:=e;simp only[Expr.op_mk,Expr.w_mk,Expr.n_mk,Expr.kids_mk]at *;have hm: ∀a:Int,0<=a % 2^w.toNat/\a % 2^w.toNat<2^w.toNat:=fun a=>⟨Int.emod_nonneg _ (by omega),Int.emod_lt_of_pos _ Nt⟩
   have Pq:((2^w.toNat:Nat):Int)=2^w.toNat:=by simp
   rcases zeg op with rfl | rfl | rfl | rfl | rfl | rfl | rfl | rfl | rfl | rfl | rfl | rfl | rfl | rfl | Ao
   rotate_right
   ·rw[zd7 Ao]at ha;omega
   all_goals(
    rcases ks with _ | ⟨a,_ | ⟨b,_ | ⟨c,_ | ⟨d,r⟩⟩⟩⟩
    all_goals(try(exfalso;simp[zcO]at ha;(try omega);done)))
   all_goals(try(have Ew:=hk a (by simp)))
   all_goals(try(have Do:=hk b (by simp)))
   all_goals(try(have DO:=hk c (by simp)))
   all_goals simp[zbk,Expr.kw,go_sem,zcO]at hn
   all_goals simp[opv,go_sem]
   ·exact of_decide_eq_true hn.2
   ·exact hm _
   ·exact hm _
   ·rw[hn.2.2]at Ew;omega
   ·rw[hn.2.2.1]at Ew;have:=ztm (b:=(b.ev old now).toNat) (k:=w.toNat) (show(a.ev old now).toNat<2^w.toNat by omega);omega
   ·rw[hn.2.2.1]at Ew;rw[hn.2.2.2]at Do;have:=Nat.or_lt_two_pow (n:=w.toNat) (x:=(a.ev old now).toNat) (y:=(b.ev old now).toNat) (by omega) (by omega);omega
   ·rw[hn.2.2.1]at Ew;rw[hn.2.2.2]at Do;have:=Nat.xor_lt_two_pow (n:=w.toNat) (x:=(a.ev old now).toNat) (y:=(b.ev old now).toNat) (by omega) (by omega);omega
   ·exact hm _
   ·exact hm _
   ·exact hm _
   ·split<;>omega
   ·split<;>omega
   ·split<;>omega
   ·rw[hn.2.2.2.1]at Do;rw[hn.2.2.2.2]at DO;split<;>omega
theorem zpl {d:Nat} {e:Expr} (old now:List Int) (h:e.deep (d+1)=true):zso e (e.kids.map (Expr.ev old now)):=by
 have hn:=zcq h;refine⟨hn,by simp,?_,?_⟩
 ·intro x hx;obtain⟨k,hk,rfl⟩:=List.mem_map.1 hx;have h1:=zix old now d k (zc7 h hk);have h2:=zmO (zcq (zc7 h hk));have h3:=zes (i:=k.w.toNat) (k:=8) (by omega);omega
 ·intro C0;have ha:=zct hn;obtain⟨op,w,n,ks⟩:=e;simp only[Expr.op_mk,Expr.kids_mk]at *;subst C0;rcases ks with _ | ⟨a,_ | ⟨b,_ | ⟨c,_ | ⟨d,r⟩⟩⟩⟩
  all_goals(try(exfalso;simp[zcO]at ha;(try omega);done))
  have h1:=zix old now _ a (zc7 h (by simp[Expr.kids_mk]));simp[zbk,Expr.kw,go_sem,zcO]at hn;rw[hn.2.2.1,show(2:Int)^(Int.toNat 1)=2 from rfl]at h1;show _\/_;simp only[List.map_cons,List.getD_cons_zero];omega
def Expr.eval (e:Expr) (old now:List Int):Int:=if e.formed then e.ev old now else 0
theorem zcp {e:Expr} (h:e.formed=true):e.deep 40=true:=by
 simp only[Expr.formed,zF]at h;exact h.2
theorem zfI (n w:Int):Den Γ G 61 [vi n,vi w]=some (.agg [.t (ti (Expr.mk 1 w n []).op),.t (ti (Expr.mk 1 w n []).w),.t (ti (Expr.mk 1 w n []).n),.t (.sl ((Expr.mk 1 w n []).kids.map (Expr.enc)))]):=by
 (refine zag Γ61 rfl ?_;dsimp only[f61])
 simp -dsimp [go_sem,zck,List.map_nil,and_self]
theorem zvn (n w:Int):Den Γ G 62 [vi n,vi w]=some (.agg [.t (ti (Expr.mk 2 w n []).op),.t (ti (Expr.mk 2 w n []).w),.t (ti (Expr.mk 2 w n []).n),.t (.sl ((Expr.mk 2 w n []).kids.map (Expr.enc)))]):=by
 (refine zag Γ62 rfl ?_;dsimp only[f62])
 simp -dsimp [go_sem,zck,List.map_nil,and_self]
theorem znz (op w:Int) (a b:Expr):Den Γ G 63 [vi op,vi w,(.agg [.t (ti (a).op),.t (ti (a).w),.t (ti (a).n),.t (.sl ((a).kids.map (Expr.enc)))]),(.agg [.t (ti (b).op),.t (ti (b).w),.t (ti (b).n),.t (.sl ((b).kids.map (Expr.enc)))])]=some (.agg [.t (ti (Expr.mk op w 0 [a,b]).op),.t (ti (Expr.mk op w 0 [a,b]).w),.t (ti (Expr.mk op w 0 [a,b]).n),.t (.sl ((Expr.mk op w 0 [a,b]).kids.map (Expr.enc)))]):=by
 (refine zag Γ63 rfl ?_;dsimp only[f63])
 simp -dsimp [go_sem,zck,List.map_nil,and_self]
theorem zk7 (ks:List Expr) (ws:List Int) (hl:ws.length<=3):Den Γ G 91 [.t (.sl (ks.map Expr.enc)),.t (ints ws)]=some (vb (decide (ks.map Expr.w=ws))):=by
 (refine zag Γ91 rfl ?_;dsimp only[f91])
 simp -dsimp only[go_sem,seval];refine zac (fun h=> ?_) (fun h=> ?_)<;>(try simp only[zah]at h)<;>(try simp -dsimp only[go_sem,seval, *])
 ·have : ¬ks.map Expr.w=ws:=fun he=>by have:=congrArg List.length he;simp at this;omega
  simp[this]
 ·have Ac:ks.length=ws.length:=by omega
  refine zaT 134201456 ws.length (fun i f=>(f 14).v=vi i/\(ks.take i).map Expr.w=ws.take i) rfl rfl ⟨by simp -dsimp only[go_sem,seval],by simp⟩ ?_;rintro i f u kk bb hi ⟨C0,ht⟩;have hw:=zan i (by omega);simp -dsimp only[go_sem,seval,C0];refine zac (fun h=> ?_) (fun h=> ?_)<;>(try simp only[zah]at h)<;>(try simp -dsimp only[go_sem,seval, *])
  ·have hx:ws[i]? =some ws[i]:=zI (by omega);have hy:ks[i]? =some ks[i]:=zI (by omega);simp -dsimp only[go_sem,seval,C0,hx,hy];refine zac (fun h=> ?_) (fun h=> ?_)<;>(try simp only[zah]at h)<;>(try simp -dsimp only[go_sem,seval, *])
   ·have : ¬ks.map Expr.w=ws:=fun he=>by
     have:=congrArg (fun l=>l[i]?) he;simp only[zJ,hx,hy,Option.map_some,zA]at this;contradiction
    simp[this]
   ·refine⟨by omega,by simp -dsimp only[go_sem,seval,hw],?_⟩;rw[zaf hx,zaf hy,List.map_append,ht];simp[h]
  ·have:i=ws.length:=by omega
   subst this;rw[List.take_length,<- Ac,List.take_length]at ht;simp[ht]
@[go_sem]theorem G_0:G 0=[ti 0,ti 1,ti 3,ti 7,ti 15,ti 31,ti 63,ti 127,ti 255]:=rfl
theorem zdR {w:Int} (h:1<=w/\w<=8):w=1\/w=2\/w=3\/w=4\/w=5\/w=6\/w=7\/w=8:=by omega
theorem zno {op:Int} (h:5<=op/\op<=13):zcO op=2:=by unfold zcO;grind
theorem zeQ (op w n:Int) (ks:List Expr):zbk (.mk op w n ks)=
 if zcO op≠ks.length\/w<1\/w>8 then false
 else if op=1 then decide (0<=n/\n<2^w.toNat)
 else if op=2\/op=3 then decide (0<=n/\n<32)
 else if op=4 then decide (n=0/\(Expr.mk op w n ks).kw 0=w)
 else if op=11\/op=12\/op=13 then decide (n=0/\w=1/\(Expr.mk op w n ks).kw 0=(Expr.mk op w n ks).kw 1)
 else if op=14 then decide (n=0/\(Expr.mk op w n ks).kw 0=1/\(Expr.mk op w n ks).kw 1=w/\(Expr.mk op w n ks).kw 2=w)
 else decide (n=0/\(Expr.mk op w n ks).kw 0=w/\(Expr.mk op w n ks).kw 1=w):=rfl
theorem zxv (op w n:Int) (a:Expr) (r:List Expr):(Expr.mk op w n (a::r)).kw 0=a.w:=rfl
theorem zyH (op w n:Int) (a b:Expr) (r:List Expr):(Expr.mk op w n (a::b::r)).kw 1=b.w:=rfl
theorem zC6 (op w n:Int) (a b c:Expr) (r:List Expr):(Expr.mk op w n (a::b::c::r)).kw 2=c.w:=rfl
theorem zbK {op w n:Int} {ks:List Expr} (h:5<=op/\op<=10) (hw:1<=w/\w<=8):zbk (.mk op w n ks)=decide (n=0/\ks.map Expr.w=[w,w]):=by
 rw[zeQ,zno (show 5<=op/\op<=13 by omega),if_neg (show ¬op=1 by omega),if_neg (show ¬(op=2\/op=3)by omega),if_neg (show ¬op=4 by omega),if_neg (show ¬(op=11\/op=12\/op=13)by omega),if_neg (show ¬op=14 by omega)];rcases ks with _ | ⟨a,_ | ⟨b,_ | ⟨c,r⟩⟩⟩
 ·rw[if_pos (by simp)];simp
 ·rw[if_pos (by simp)];simp
 ·rw[if_neg (by simp;omega),zxv,zyH];simp
 ·rw[if_pos (by simp;omega)];simp
theorem zdQ {op w n:Int} {ks:List Expr} (h:11<=op/\op<=13) (hw:1<=w/\w<=8):zbk (.mk op w n ks)=decide (n=0/\w=1/\ks.length=2/\(Expr.mk op w n ks).kw 0=(Expr.mk op w n ks).kw 1):=by
 rw[zeQ,zno (show 5<=op/\op<=13 by omega),if_neg (show ¬op=1 by omega),if_neg (show ¬(op=2\/op=3)by omega),if_neg (show ¬op=4 by omega),if_pos (show(op=11\/op=12\/op=13)by omega)]
 by_cases hl:ks.length=2
 ·rw[if_neg (by omega)];simp[hl]
 ·rw[if_pos (by omega)];simp[hl]
theorem zkB {w n:Int} {ks:List Expr} (hw:1<=w/\w<=8):zbk (.mk 4 w n ks)=decide (n=0/\ks.map Expr.w=[w]):=by
 rw[zeQ,show zcO 4=1 from rfl,if_neg (show ¬(4:Int)=1 by omega),if_neg (show ¬((4:Int)=2\/(4:Int)=3)by omega),if_pos rfl];rcases ks with _ | ⟨a,_ | ⟨b,r⟩⟩
 ·rw[if_pos (by simp)];simp
 ·rw[if_neg (by simp;omega),zxv];simp
 ·rw[if_pos (by simp;omega)];simp
theorem zkC {w n:Int} {ks:List Expr} (hw:1<=w/\w<=8):zbk (.mk 14 w n ks)=decide (n=0/\ks.map Expr.w=[1,w,w]):=by
 rw[zeQ,show zcO 14=3 from rfl,if_neg (show ¬(14:Int)=1 by omega),if_neg (show ¬((14:Int)=2\/(14:Int)=3)by omega),if_neg (show ¬(14:Int)=4 by omega),if_neg (show ¬((14:Int)=11\/(14:Int)=12\/(14:Int)=13)by omega),if_pos rfl];rcases ks with _ | ⟨a,_ | ⟨b,_ | ⟨c,_ | ⟨d,r⟩⟩⟩⟩
 ·rw[if_pos (by simp)];simp
 ·rw[if_pos (by simp)];simp
 ·rw[if_pos (by simp)];simp
 ·rw[if_neg (by simp;omega),zxv,zyH,zC6];simp
 ·rw[if_pos (by simp;omega)];simp
theorem ze3 {op w n:Int} {ks:List Expr} (h:1<=op/\op<=3) (hw:1<=w/\w<=8):zbk (.mk op w n ks)=decide (ks.length=0/\0<=n/\(if op=1 then n<2^w.toNat else n<32)):=by
 have ha:zcO op=0:=by unfold zcO;rw[if_pos h]
 rw[zeQ,ha]
 by_cases hl:ks.length=0
 ·rw[if_neg (by omega)]
  by_cases h1:op=1
  ·simp[h1,hl]
  ·rw[if_neg h1,if_pos (by omega)];simp[h1,hl]
 ·rw[if_pos (by omega)];simp[hl]
theorem zkD {op w n:Int} {ks:List Expr} (h:op<1\/14<op):zbk (.mk op w n ks)=false:=by
 rw[zeQ,zd7 h,if_pos (by omega)]
theorem zr7 {op w n:Int} {ks:List Expr} (h: ¬(1<=op/\op<=3)) (hw:1<=w/\w<=8) (hn: ¬n=0):zbk (.mk op w n ks)=false:=by
 rcases zeg op with rfl | rfl | rfl | rfl | rfl | rfl | rfl | rfl | rfl | rfl | rfl | rfl | rfl | rfl | Ao
 ·omega
 ·omega
 ·omega
 ·rw[zkB hw];simp[hn]
 ·rw[zbK (by omega) hw];simp[hn]
 ·rw[zbK (by omega) hw];simp[hn]
 ·rw[zbK (by omega) hw];simp[hn]
 ·rw[zbK (by omega) hw];simp[hn]
 ·rw[zbK (by omega) hw];simp[hn]
 ·rw[zbK (by omega) hw];simp[hn]
 ·rw[zdQ (by omega) hw];simp[hn]
 ·rw[zdQ (by omega) hw];simp[hn]
 ·rw[zdQ (by omega) hw];simp[hn]
 ·rw[zkC hw];simp[hn]
 ·exact zkD Ao
set_option maxHeartbeats 4000000 in
theorem zqb (e:Expr):Den Γ G 71 [.t (.ip [ti e.op,ti e.w,ti e.n,.sl (e.kids.map Expr.enc)])]=some (vb (zbk e)):=by
 obtain⟨op,w,n,ks⟩:=e;simp only[Expr.op_mk,Expr.w_mk,Expr.n_mk,Expr.kids_mk]
 (refine zag Γ71 rfl ?_;dsimp only[f71])
 by_cases hw:1<=w/\w<=8
 ·have h1: ¬w<1:=by omega
  have h2: ¬w>8:=by omega
  have Kx:=zk7 ks [w] (by simp);have GX:=zk7 ks [w,w] (by simp);have M4:=zk7 ks [1,w,w] (by simp);simp only[ints,List.map_cons,List.map_nil]at Kx GX M4
  by_cases Eg:op=1
  ·subst Eg;rw[ze3 (by omega) hw];clear Kx GX M4;rcases zdR hw with rfl | rfl | rfl | rfl | rfl | rfl | rfl | rfl
   all_goals(
    simp -dsimp only[go_sem,seval]
    repeat'(refine zac (fun h=> ?_) (fun h=> ?_)<;>(try simp only[zah]at h)<;>(try simp -dsimp only[go_sem,seval, *]))
    all_goals((try simp only[Int.reduceToNat,Int.reducePow,Int.reduceEq,reduceIte]);first | exact(decide_eq_false (by omega)).symm | (simp;done) | (apply decide_eq_decide.2;omega)))
  ·by_cases J0:op=2\/op=3
   ·rw[ze3 (by omega) hw];clear Kx GX M4;rcases J0 with rfl | rfl
    all_goals(
     simp -dsimp only[go_sem,seval,h1,h2]
     repeat'(refine zac (fun h=> ?_) (fun h=> ?_)<;>(try simp only[zah]at h)<;>(try simp -dsimp only[go_sem,seval, *]))
     all_goals((try simp only[Int.reduceEq,reduceIte]);first | exact(decide_eq_false (by omega)).symm | (simp;done) | (apply decide_eq_decide.2;omega)))
   ·have e1: ¬op=2:=by omega
    have e2: ¬op=3:=by omega
    by_cases hn:n=0
    ·rcases zeg op with rfl | rfl | rfl | rfl | rfl | rfl | rfl | rfl | rfl | rfl | rfl | rfl | rfl | rfl | Ao
     ·omega
     ·omega
     ·omega
     ·rw[zkB hw];simp -dsimp only[go_sem,seval,h1,h2,hn,Kx]
     ·rw[zbK (by omega) hw];simp -dsimp only[go_sem,seval,h1,h2,hn,GX]
     ·rw[zbK (by omega) hw];simp -dsimp only[go_sem,seval,h1,h2,hn,GX]
     ·rw[zbK (by omega) hw];simp -dsimp only[go_sem,seval,h1,h2,hn,GX]
     ·rw[zbK (by omega) hw];simp -dsimp only[go_sem,seval,h1,h2,hn,GX]
     ·rw[zbK (by omega) hw];simp -dsimp only[go_sem,seval,h1,h2,hn,GX]
     ·rw[zbK (by omega) hw];simp -dsimp only[go_sem,seval,h1,h2,hn,GX]
     ·rw[zdQ (by omega) hw];rcases ks with _ | ⟨a,_ | ⟨b,_ | ⟨c,r⟩⟩⟩
      all_goals(
       simp -dsimp only[go_sem,seval,h1,h2,hn]
       repeat'(refine zac (fun h=> ?_) (fun h=> ?_)<;>(try simp only[zah]at h)<;>(try simp -dsimp only[go_sem,seval, *]))
       all_goals(simp[zxv,zyH, *])
       all_goals(first | rfl | omega))
     ·rw[zdQ (by omega) hw];rcases ks with _ | ⟨a,_ | ⟨b,_ | ⟨c,r⟩⟩⟩
      all_goals(
       simp -dsimp only[go_sem,seval,h1,h2,hn]
       repeat'(refine zac (fun h=> ?_) (fun h=> ?_)<;>(try simp only[zah]at h)<;>(try simp -dsimp only[go_sem,seval, *]))
       all_goals(simp[zxv,zyH, *])
       all_goals(first | rfl | omega))
     ·rw[zdQ (by omega) hw];rcases ks with _ | ⟨a,_ | ⟨b,_ | ⟨c,r⟩⟩⟩
      all_goals(
       simp -dsimp only[go_sem,seval,h1,h2,hn]
       repeat'(refine zac (fun h=> ?_) (fun h=> ?_)<;>(try simp only[zah]at h)<;>(try simp -dsimp only[go_sem,seval, *]))
       all_goals(simp[zxv,zyH, *])
       all_goals(first | rfl | omega))
     ·rw[zkC hw];simp -dsimp only[go_sem,seval,h1,h2,hn,M4]
     ·rw[zkD Ao];have n1: ¬op=4:=by omega
      have n2: ¬op=5:=by omega
      have n3: ¬op=6:=by omega
      have n4: ¬op=7:=by omega
      have n5: ¬op=8:=by omega
      have n6: ¬op=9:=by omega
      have n7: ¬op=10:=by omega
      have n8: ¬op=11:=by omega
      have n9: ¬op=12:=by omega
      have n10: ¬op=13:=by omega
      have n11: ¬op=14:=by omega
      simp -dsimp only[go_sem,seval,h1,h2,hn,Eg,e1,e2,n1,n2,n3,n4,n5,n6,n7,n8,n9,n10,n11]
    ·rw[zr7 (by omega) hw hn];simp -dsimp only[go_sem,seval,h1,h2,Eg,e1,e2,hn]
 ·by_cases h1:w<1
  ·simp -dsimp only[go_sem,seval,h1];simp only[zbk,go_sem];grind
  ·have h2:w>8:=by omega
   simp -dsimp only[go_sem,seval,h1,h2];simp only[zbk,go_sem];grind
end Rg
end
section
namespace Rg
open Go
theorem zgK {α:Type} (f:Nat->α) (i:Nat) (v w:α):updC (updC f i v) i w=updC f i w:=by
 rw[zaL];funext j;unfold upd;split<;>rfl
def zBY (h:Nat->Option O) (kc:Nat) (v:V) (e:Expr):Prop:=
 v= .t (.ip [ti e.op,ti e.w,ti e.n,.sl (e.kids.map Expr.enc)])\/
 ∃k fz,v= .mp k 0 0/\k≠kc/\h k=some (.rows 4 [[.t (ti e.op),.t (ti e.w),.t (ti e.n),.t (.sl (e.kids.map Expr.enc))]] fz)
theorem zre (d:Nat): ∀(e:Expr) (v:V) (c:Int) (H:Nat->Option O) (n kc kv:Nat) (fz:Bool),
 d<=40->zBY H kc v e->0<=c->c<=600->kv≠kc->H kc=some (.rows 1 [[vi c]] false)->H kv=some (.rows 1 [[.fn 70 [] [.mp kc 0 0,.mp kv 0 0]]] fz)->
 ∃r h' n',DenR Γ G 70 [v,vi (41-d),.mp kc 0 0,.mp kv 0 0] H n=some (r,h',n')/\
  r=vb (e.deep d&&decide (c+e.size<=600))/\ ∃c':Int,h'=updC H kc (some (.rows 1 [[vi c']] false))/\(e.deep d=true->c+e.size<=600->c'=c+e.size):=by
 induction d with
 | zero=>
   intro e v c H n kc kv fz hd hv CM hc Az DO Eh
   (refine zay Γ70 rfl ?_;dsimp only[f70])
   have hw:IntKind.i64.wrap (c+1)=c+1:=zaH (by omega);have JR:(41-((0:Nat):Int))>40:=by omega
   rcases hv with rfl | ⟨k,fk,rfl,hk,AB⟩
   all_goals(
    simp -dsimp only[go_sem,seval,DO,hw,JR]
    repeat'(refine zac (fun h=> ?_) (fun h=> ?_)<;>(try simp only[zah]at h)<;>(try simp -dsimp only[go_sem,seval, *]))
    all_goals(exact⟨by simp -dsimp only[go_sem,seval,Expr.deep,Bool.false_and],c+1,by simp -dsimp only[go_sem,seval],by simp[Expr.deep]⟩))
 | succ d ih=>
   intro e v c H n kc kv fz hd hv CM hc Az DO Eh
   (refine zay Γ70 rfl ?_;dsimp only[f70])
   have hw:IntKind.i64.wrap (c+1)=c+1:=zaH (by omega);have JR: ¬(41-((d+1:Nat):Int))>40:=by omega
   have BO:IntKind.i64.wrap (41-((d+1:Nat):Int)+1)=41-(d:Int):=by rw[zaH (by omega)];omega
   have Bo:=zqb e;have AS:=Expr.size_eq e;have CB:=Expr.size_pos e;rcases hv with rfl | ⟨k,fk,rfl,hk,AB⟩
   all_goals(
    have CK:=hw
    (try have CK:=hk)
    simp -dsimp only[go_sem,seval,DO,hw,JR];refine zac (fun h=> ?_) (fun h=> ?_)<;>(try simp only[zah]at h)<;>(try simp -dsimp only[go_sem,seval, *])
    ·refine⟨?_,c+1,by simp -dsimp only[go_sem,seval],fun _ A5=>by omega⟩;simp -dsimp only[go_sem,seval];have : ¬(c+(e.size:Int)<=600):=by omega
     simp[this]
    ·refine zac (fun h=> ?_) (fun h=> ?_)<;>(try simp only[zah]at h)<;>(try simp -dsimp only[go_sem,seval, *])
     ·refine⟨?_,c+1,by simp -dsimp only[go_sem,seval],fun M3=>by rw[zcq M3]at h;simp at h⟩;simp -dsimp only[go_sem,seval];simp[Expr.deep,h]
     ·have Ac:=zdj h
      refine zaq 2198956146880 e.kids.length (fun i f hh x=>(f 26).v=vi i/\ ∃c':Int,hh=updC H kc (some (.rows 1 [[vi c']] false))/\c'=c+1+((e.kids.take i).map Expr.size).sum/\c'<=600/\(e.kids.take i).all (Expr.deep d)=true) rfl
       ⟨by simp -dsimp only[go_sem,seval],c+1,by simp -dsimp only[go_sem,seval],by simp,by omega,by simp⟩ ?_
      rintro i f u hh x bs hi ⟨Fx,c',rfl,Bz,A5,Aa⟩;have BF:=zan i (by omega);simp -dsimp only[go_sem,seval,Fx];refine zac (fun h=> ?_) (fun h=> ?_)<;>(try simp only[zah]at h)<;>(try simp -dsimp only[go_sem,seval, *])
      ·obtain⟨y,hy,hm⟩:=zai ‹i<e.kids.length›;simp -dsimp only[go_sem,seval,Fx,hy,Az,Eh,BO,CK];refine zas (ih y _ c' _ _ kc kv fz (by omega) (.inl rfl) (by omega) A5 Az (by rw[zaa];simp) (by rw[zaa];simp[Az,Eh])) ?_;rintro r h' n' ⟨rfl,c2,rfl,CG⟩;simp -dsimp only[go_sem,seval];have FR:=Expr.take_le_size e.kids (i+1)
       have Hw:((e.kids.take (i+1)).map Expr.size).sum=((e.kids.take i).map Expr.size).sum+y.size:=by
        rw[zaf hy];simp
       refine zac (fun h=> ?_) (fun h=> ?_)<;>(try simp only[zah]at h)<;>(try simp -dsimp only[go_sem,seval, *])
       ·refine⟨?_,c2,by simp -dsimp only[go_sem,seval,zgK],fun M3 HV=> ?_⟩
        ·simp -dsimp only[go_sem,seval];simp only[Bool.and_eq_false_iff,decide_eq_false_iff_not]at h;rcases h with h | h
         ·rw[Expr.deep,zcr hm h];simp
         ·have : ¬c+(e.size:Int)<=600:=by omega
          simp[this]
        ·have IP:=zc7 M3 hm;have:c'+(y.size:Int)<=600:=by omega
         simp[IP,this]at h
       ·simp only[zF,decide_eq_true_eq]at h;have h2:=CG h.1 h.2;exact⟨by omega,by simp -dsimp only[go_sem,seval,BF],c2,by simp -dsimp only[go_sem,seval,zgK],by omega,by omega,zdP hy Aa h.1⟩
      ·have:i=e.kids.length:=by omega
       subst this;rw[List.take_length]at Aa Bz;refine⟨?_,c',by simp -dsimp only[go_sem,seval],fun M3 HV=>by omega⟩;simp -dsimp only[go_sem,seval];have:c+(e.size:Int)<=600:=by omega
       simp[Expr.deep,Aa,this,‹zbk e=true›])
theorem zeo (e:Expr):Den Γ G 51 [(.agg [.t (ti (e).op),.t (ti (e).w),.t (ti (e).n),.t (.sl ((e).kids.map (Expr.enc)))])]=some (vb e.formed):=by
 (refine zag Γ51 rfl ?_;dsimp only[f51])
 simp -dsimp only[go_sem,seval];refine zas (zre 40 e _ 0 _ _ _ _ false (by omega) (.inr ⟨_,false,rfl,?_,?_⟩) (by omega) (by omega) ?_ ?_ ?_) ?_
 ·decide
 ·simp -dsimp only[go_sem,seval]
 ·decide
 ·simp -dsimp only[go_sem,seval]
 ·simp -dsimp only[go_sem,seval]
 ·rintro r h' n' ⟨rfl,c',rfl,_⟩;simp -dsimp only[go_sem,seval];simp only[Expr.formed];rw[Bool.and_comm]
  congr 1
  by_cases h:e.size<=600
  ·simp[h];omega
  ·simp[h];omega
theorem zjx (l:List Int) (n:Int) (hn:0<=n):Den Γ G 72 [.t (ints l),vi n]=some (vi (atI l n)):=by
 (refine zag Γ72 rfl ?_;dsimp only[f72])
 rcases hc:l[n.toNat]? with _ | c
 ·have Bv: ¬n<(l.length:Int):=by rw[List.getElem?_eq_none_iff]at hc;omega
  simp -dsimp only[go_sem,seval,Bv];simp[atI,List.getD,hc]
 ·have Bv:n<(l.length:Int):=by have:=(zH.1 hc).1;omega
  simp -dsimp only[go_sem,seval,Bv,hn,hc];simp[atI,List.getD,hc]
theorem zmd (b:Bool):Den Γ G 92 [vb b]=some (vi (if b then 1 else 0)):=by
 (refine zag Γ92 rfl ?_;dsimp only[f92])
 cases b
 ·simp -dsimp only[go_sem,seval]
 ·simp -dsimp only[go_sem,seval]
theorem zr6 {a:Int} (ha:0<=a/\a<2^62):IntKind.i64.wrap ((BitVec.ofInt IntKind.i64.bits (-1)^^^ BitVec.ofInt IntKind.i64.bits a).toNat)= -1-a:=by
 show IntKind.i64.wrap ((BitVec.ofInt 64 (-1)^^^ BitVec.ofInt 64 a).toNat)=_;have h1:BitVec.ofInt 64 (-1)=BitVec.allOnes 64:=by decide
 rw[h1,BitVec.allOnes_xor,BitVec.toNat_not,zfe ha,IntKind.wrap_i64];omega
def zv7 (op a b c:Int):Int:=
 if op=4 then -1-a
 else if op=5 then((a.toNat&&& b.toNat:Nat):Int)
 else if op=6 then((a.toNat ||| b.toNat:Nat):Int)
 else if op=7 then((a.toNat^^^ b.toNat:Nat):Int)
 else if op=8 then a+b
 else if op=9 then a-b
 else if op=10 then a*b
 else if op=11 then(if a=b then 1 else 0)
 else if op=12 then(if a<b then 1 else 0)
 else if op=13 then(if a<=b then 1 else 0)
 else if op=14 then(if a=1 then b else c)
 else 0
set_option maxHeartbeats 2000000 in
theorem zhH (op a b c:Int) (Ao:4<=op/\op<=14) (ha:0<=a/\a<256) (hb:0<=b/\b<256) (hc:0<=c/\c<256):Den Γ G 73 [vi op,.agg [vi a,vi b,vi c]]=some (vi (zv7 op a b c)):=by
 (refine zag Γ73 rfl ?_;dsimp only[f73])
 have LU:=znp (a:=a) (b:=b) (by omega) (by omega);have F6:=zpg (a:=a) (b:=b) (by omega) (by omega);have K8:=zl7 (a:=a) (b:=b) (by omega) (by omega);have GD:=zr6 (a:=a) (by omega)
 have Lh:0<=a*b/\a*b<=65536:=⟨Int.mul_nonneg ha.1 hb.1,by
  have h1:a*b<=256*b:=Int.mul_le_mul_of_nonneg_right (by omega) hb.1
  omega⟩
 have Cj:IntKind.i64.wrap (a+b)=a+b:=zaH (by omega);have BO:IntKind.i64.wrap (a+ -b)=a-b:=by rw[zaH (by omega)];omega
 have Gl:IntKind.i64.wrap (0-b)= -b:=by rw[zaH (by omega)];omega
 have Kd:IntKind.i64.wrap (a*b)=a*b:=zaH (by omega);have Hw:=zmd (decide (a=b));have HI:=zmd (decide (a<b));have PV:IntKind.i64.signed=true:=rfl;have AL:op=4\/op=5\/op=6\/op=7\/op=8\/op=9\/op=10\/op=11\/op=12\/op=13\/op=14:=by omega
 clear Lh Ao;rcases AL with rfl | rfl | rfl | rfl | rfl | rfl | rfl | rfl | rfl | rfl | rfl
 ·simp -dsimp only[go_sem,seval,GD,PV];rfl
 ·simp -dsimp only[go_sem,seval,LU];rfl
 ·simp -dsimp only[go_sem,seval,F6];rfl
 ·simp -dsimp only[go_sem,seval,K8];rfl
 ·simp -dsimp only[go_sem,seval,Cj];rfl
 ·simp -dsimp only[go_sem,seval,BO,Gl];rfl
 ·simp -dsimp only[go_sem,seval,Kd];rfl
 ·simp -dsimp only[go_sem,seval,Hw];simp[zv7]
 ·simp -dsimp only[go_sem,seval,HI];simp[zv7]
 ·simp -dsimp only[go_sem,seval,HI];refine zac (fun h=> ?_) (fun h=> ?_)<;>(try simp only[zah]at h)<;>(try simp -dsimp only[go_sem,seval, *])
  ·simp[zv7,h]
  ·have:a<=b<->a<b:=by omega
   simp[zv7,this]
 ·simp -dsimp only[go_sem,seval];refine zac (fun h=> ?_) (fun h=> ?_)<;>(try simp only[zah]at h)<;>(try simp -dsimp only[go_sem,seval, *])
  ·simp[zv7]
  ·simp[zv7,h]
end Rg
end
section
namespace Rg
open Go
theorem ztl (x m w:Int) (hw:0<=w/\w<=62) (hm:m=2^w.toNat-1):IntKind.i64.wrap ((BitVec.ofInt IntKind.i64.bits x&&& BitVec.ofInt IntKind.i64.bits m).toNat)=x % 2^w.toNat:=by
 subst hm;exact ziA x w hw
theorem zvv {op w a b c:Int} (Ao:4<=op/\op<=14) (hw:1<=w) (ho:0<=opv op w a b c/\opv op w a b c<2^w.toNat) (ha:0<=a):zv7 op a b c % 2^w.toNat=opv op w a b c:=by
 have Nt:=zcn w.toNat;have AL:op=4\/op=5\/op=6\/op=7\/op=8\/op=9\/op=10\/op=11\/op=12\/op=13\/op=14:=by omega
 rcases AL with rfl | rfl | rfl | rfl | rfl | rfl | rfl | rfl | rfl | rfl | rfl
 ·have h1:(-1-a) % 2^w.toNat=(2^w.toNat-1-a) % 2^w.toNat:=by
   rw[show 2^w.toNat-1-a=(-1-a)+2^w.toNat by omega,Int.add_emod_right]
  show(-1-a) % 2^w.toNat=2^w.toNat-1-a;rw[h1];exact Int.emod_eq_of_lt ho.1 ho.2
 ·exact Int.emod_eq_of_lt ho.1 ho.2
 ·exact Int.emod_eq_of_lt ho.1 ho.2
 ·exact Int.emod_eq_of_lt ho.1 ho.2
 ·rfl
 ·rfl
 ·rfl
 ·exact Int.emod_eq_of_lt ho.1 ho.2
 ·exact Int.emod_eq_of_lt ho.1 ho.2
 ·exact Int.emod_eq_of_lt ho.1 ho.2
 ·exact Int.emod_eq_of_lt ho.1 ho.2
theorem zsi {e:Expr} (h:zbk e=true) (h1: ¬e.op=1) (h2: ¬e.op=2) (h3: ¬e.op=3):4<=e.op/\e.op<=14:=by
 have:=zct h;rcases zeg e.op with hh | hh | hh | hh | hh | hh | hh | hh | hh | hh | hh | hh | hh | hh | Ao
 all_goals(try omega)
 rw[zd7 Ao]at this;omega
set_option maxHeartbeats 4000000 in
theorem zp2 (old now:List Int) (d:Nat): ∀e:Expr,e.deep d=true->Den Γ G 56 [.t (.ip [ti e.op,ti e.w,ti e.n,.sl (e.kids.map Expr.enc)]),.t (ints old),.t (ints now)]=some (vi (e.ev old now)):=by
 induction d with
 | zero=>intro e h;simp[Expr.deep]at h
 | succ d ih=>
   intro e h;have hn:=zcq h;have hw:=zmO hn;have Cg:=zfZ hn;have D9:=zdj hn
   (refine zag Γ56 rfl ?_;dsimp only[f56])
   by_cases h1:e.op=1
   ·simp -dsimp only[go_sem,seval,h1];rw[Expr.ev_eq,if_pos h1]
   ·have key: ∀m:Int,m=2^e.w.toNat-1->(∀x:Int,IntKind.i64.wrap ((BitVec.ofInt IntKind.i64.bits x&&& BitVec.ofInt IntKind.i64.bits m).toNat)=x % 2^e.w.toNat):=fun m hm x=>ztl x m e.w (by omega) hm
    by_cases h2:e.op=2
    ·have h3:=zjx now e.n Cg;have Ak:e.ev old now=atI now e.n % 2^e.w.toNat:=by rw[Expr.ev_eq,if_neg h1,if_pos h2]
     rw[Ak]
     generalize e.w=w at *
     rcases zdR hw with rfl | rfl | rfl | rfl | rfl | rfl | rfl | rfl
     ·have km:=key 1 rfl;simp -dsimp only[go_sem,seval,h2,h3,km]
     ·have km:=key 3 rfl;simp -dsimp only[go_sem,seval,h2,h3,km]
     ·have km:=key 7 rfl;simp -dsimp only[go_sem,seval,h2,h3,km]
     ·have km:=key 15 rfl;simp -dsimp only[go_sem,seval,h2,h3,km]
     ·have km:=key 31 rfl;simp -dsimp only[go_sem,seval,h2,h3,km]
     ·have km:=key 63 rfl;simp -dsimp only[go_sem,seval,h2,h3,km]
     ·have km:=key 127 rfl;simp -dsimp only[go_sem,seval,h2,h3,km]
     ·have km:=key 255 rfl;simp -dsimp only[go_sem,seval,h2,h3,km]
    ·by_cases h3:e.op=3
     ·have BV:=zjx old e.n Cg;have Ak:e.ev old now=atI old e.n % 2^e.w.toNat:=by rw[Expr.ev_eq,if_neg h1,if_neg h2,if_pos h3]
      rw[Ak]
      generalize e.w=w at *
      rcases zdR hw with rfl | rfl | rfl | rfl | rfl | rfl | rfl | rfl
      ·have km:=key 1 rfl;simp -dsimp only[go_sem,seval,h3,BV,km]
      ·have km:=key 3 rfl;simp -dsimp only[go_sem,seval,h3,BV,km]
      ·have km:=key 7 rfl;simp -dsimp only[go_sem,seval,h3,BV,km]
      ·have km:=key 15 rfl;simp -dsimp only[go_sem,seval,h3,BV,km]
      ·have km:=key 31 rfl;simp -dsimp only[go_sem,seval,h3,BV,km]
      ·have km:=key 63 rfl;simp -dsimp only[go_sem,seval,h3,BV,km]
      ·have km:=key 127 rfl;simp -dsimp only[go_sem,seval,h3,BV,km]
      ·have km:=key 255 rfl;simp -dsimp only[go_sem,seval,h3,BV,km]
     ·have Ao:=zsi hn h1 h2 h3;have hb:=zix old now _ e h
      have Ak:e.ev old now=opv e.op e.w ((e.kids.map (Expr.ev old now)).getD 0 0) ((e.kids.map (Expr.ev old now)).getD 1 0) ((e.kids.map (Expr.ev old now)).getD 2 0):=by
       rw[Expr.ev_eq,if_neg h1,if_neg h2,if_neg h3]
      have hk: ∀k∈e.kids,Den Γ G 56 [.t (.ip [ti k.op,ti k.w,ti k.n,.sl (k.kids.map Expr.enc)]),.t (ints old),.t (ints now)]=some (vi (k.ev old now)):=fun k hk=>ih k (zc7 h hk)
      have AJ:=(zpl old now h).2.2.1;rw[Ak]at hb;have CD:=zvv (a:=((e.kids.map (Expr.ev old now)).getD 0 0)) (b:=((e.kids.map (Expr.ev old now)).getD 1 0)) (c:=((e.kids.map (Expr.ev old now)).getD 2 0)) Ao hw.1 hb;rw[Ak];clear Ak hb ih;simp -dsimp only[go_sem,seval,h1,h2,h3]
      generalize he:e.kids=ks at *
      rcases ks with _ | ⟨a,_ | ⟨b,_ | ⟨c,_ | ⟨x,r⟩⟩⟩⟩
      ·exfalso;have ha:=zct hn;rw[he]at ha;rcases Ao with⟨o1,o2⟩
       have:1<=zcO e.op:=by unfold zcO;grind
       simp at ha;omega
      ·have Ew:=hk a (by simp);have Kv:=AJ (a.ev old now) (by simp);have hd:=zhH e.op (a.ev old now) 0 0 Ao (by omega) (by omega) (by omega);have CD:=CD (by simp only[List.map_cons,List.getD_cons_zero];omega);rw[<- CD];clear CD;refine zaD ?_;simp -dsimp only[go_sem,seval,he,Ew];refine zaD ?_
       generalize e.w=w at *
       rcases zdR hw with rfl | rfl | rfl | rfl | rfl | rfl | rfl | rfl
       ·have km:=key 1 rfl;simp -dsimp only[go_sem,seval,he,hd,km,List.map_cons,List.map_nil,List.getD_cons_zero,List.getD_cons_succ,List.getD_nil]
       ·have km:=key 3 rfl;simp -dsimp only[go_sem,seval,he,hd,km,List.map_cons,List.map_nil,List.getD_cons_zero,List.getD_cons_succ,List.getD_nil]
       ·have km:=key 7 rfl;simp -dsimp only[go_sem,seval,he,hd,km,List.map_cons,List.map_nil,List.getD_cons_zero,List.getD_cons_succ,List.getD_nil]
       ·have km:=key 15 rfl;simp -dsimp only[go_sem,seval,he,hd,km,List.map_cons,List.map_nil,List.getD_cons_zero,List.getD_cons_succ,List.getD_nil]
       ·have km:=key 31 rfl;simp -dsimp only[go_sem,seval,he,hd,km,List.map_cons,List.map_nil,List.getD_cons_zero,List.getD_cons_succ,List.getD_nil]
       ·have km:=key 63 rfl;simp -dsimp only[go_sem,seval,he,hd,km,List.map_cons,List.map_nil,List.getD_cons_zero,List.getD_cons_succ,List.getD_nil]
       ·have km:=key 127 rfl;simp -dsimp only[go_sem,seval,he,hd,km,List.map_cons,List.map_nil,List.getD_cons_zero,List.getD_cons_succ,List.getD_nil]
       ·have km:=key 255 rfl;simp -dsimp only[go_sem,seval,he,hd,km,List.map_cons,List.map_nil,List.getD_cons_zero,List.getD_cons_succ,List.getD_nil]
      ·have Ew:=hk a (by simp);have Kv:=AJ (a.ev old now) (by simp);have Do:=hk b (by simp);have LD:=AJ (b.ev old now) (by simp);have hd:=zhH e.op (a.ev old now) (b.ev old now) 0 Ao (by omega) (by omega) (by omega);have CD:=CD (by simp only[List.map_cons,List.getD_cons_zero];omega);rw[<- CD];clear CD;refine zaD ?_;simp -dsimp only[go_sem,seval,he,Ew];refine zaD ?_;simp -dsimp only[go_sem,seval,he,Do];refine zaD ?_
       generalize e.w=w at *
       rcases zdR hw with rfl | rfl | rfl | rfl | rfl | rfl | rfl | rfl
       ·have km:=key 1 rfl;simp -dsimp only[go_sem,seval,he,hd,km,List.map_cons,List.map_nil,List.getD_cons_zero,List.getD_cons_succ,List.getD_nil]
       ·have km:=key 3 rfl;simp -dsimp only[go_sem,seval,he,hd,km,List.map_cons,List.map_nil,List.getD_cons_zero,List.getD_cons_succ,List.getD_nil]
       ·have km:=key 7 rfl;simp -dsimp only[go_sem,seval,he,hd,km,List.map_cons,List.map_nil,List.getD_cons_zero,List.getD_cons_succ,List.getD_nil]
       ·have km:=key 15 rfl;simp -dsimp only[go_sem,seval,he,hd,km,List.map_cons,List.map_nil,List.getD_cons_zero,List.getD_cons_succ,List.getD_nil]
       ·have km:=key 31 rfl;simp -dsimp only[go_sem,seval,he,hd,km,List.map_cons,List.map_nil,List.getD_cons_zero,List.getD_cons_succ,List.getD_nil]
       ·have km:=key 63 rfl;simp -dsimp only[go_sem,seval,he,hd,km,List.map_cons,List.map_nil,List.getD_cons_zero,List.getD_cons_succ,List.getD_nil]
       ·have km:=key 127 rfl;simp -dsimp only[go_sem,seval,he,hd,km,List.map_cons,List.map_nil,List.getD_cons_zero,List.getD_cons_succ,List.getD_nil]
       ·have km:=key 255 rfl;simp -dsimp only[go_sem,seval,he,hd,km,List.map_cons,List.map_nil,List.getD_cons_zero,List.getD_cons_succ,List.getD_nil]
      ·have Ew:=hk a (by simp);have Kv:=AJ (a.ev old now) (by simp);have Do:=hk b (by simp);have LD:=AJ (b.ev old now) (by simp);have DO:=hk c (by simp);have RM:=AJ (c.ev old now) (by simp);have hd:=zhH e.op (a.ev old now) (b.ev old now) (c.ev old now) Ao (by omega) (by omega) (by omega);have CD:=CD (by simp only[List.map_cons,List.getD_cons_zero];omega);rw[<- CD];clear CD;refine zaD ?_;simp -dsimp only[go_sem,seval,he,Ew];refine zaD ?_;simp -dsimp only[go_sem,seval,he,Do];refine zaD ?_;simp -dsimp only[go_sem,seval,he,DO];refine zaD ?_
       generalize e.w=w at *
       rcases zdR hw with rfl | rfl | rfl | rfl | rfl | rfl | rfl | rfl
       ·have km:=key 1 rfl;simp -dsimp only[go_sem,seval,he,hd,km,List.map_cons,List.map_nil,List.getD_cons_zero,List.getD_cons_succ,List.getD_nil]
       ·have km:=key 3 rfl;simp -dsimp only[go_sem,seval,he,hd,km,List.map_cons,List.map_nil,List.getD_cons_zero,List.getD_cons_succ,List.getD_nil]
       ·have km:=key 7 rfl;simp -dsimp only[go_sem,seval,he,hd,km,List.map_cons,List.map_nil,List.getD_cons_zero,List.getD_cons_succ,List.getD_nil]
       ·have km:=key 15 rfl;simp -dsimp only[go_sem,seval,he,hd,km,List.map_cons,List.map_nil,List.getD_cons_zero,List.getD_cons_succ,List.getD_nil]
       ·have km:=key 31 rfl;simp -dsimp only[go_sem,seval,he,hd,km,List.map_cons,List.map_nil,List.getD_cons_zero,List.getD_cons_succ,List.getD_nil]
       ·have km:=key 63 rfl;simp -dsimp only[go_sem,seval,he,hd,km,List.map_cons,List.map_nil,List.getD_cons_zero,List.getD_cons_succ,List.getD_nil]
       ·have km:=key 127 rfl;simp -dsimp only[go_sem,seval,he,hd,km,List.map_cons,List.map_nil,List.getD_cons_zero,List.getD_cons_succ,List.getD_nil]
       ·have km:=key 255 rfl;simp -dsimp only[go_sem,seval,he,hd,km,List.map_cons,List.map_nil,List.getD_cons_zero,List.getD_cons_succ,List.getD_nil]
      ·exfalso;simp at D9
end Rg
end
section
namespace Rg
open Go
theorem zd4 (e:Expr) (old now:List Int):Den Γ G 27 [(.agg [.t (ti (e).op),.t (ti (e).w),.t (ti (e).n),.t (.sl ((e).kids.map (Expr.enc)))]),.t (ints old),.t (ints now)]=some (vi (e.eval old now)):=by
 (refine zag Γ27 rfl ?_;dsimp only[f27])
 have h1:=zeo e
 by_cases hf:e.formed=true
 ·have h2:=zp2 old now 40 e (zcp hf);simp -dsimp only[go_sem,seval,h1,h2,hf];simp[Expr.eval,hf]
 ·have hf:e.formed=false:=by simpa using hf
  simp -dsimp only[go_sem,seval,h1,hf];simp[Expr.eval,hf]
def inR (i n:Int):Bool:=decide (0<=i/\i<n)
theorem zbR (i n:Int):Den Γ G 96 [vi i,vi n]=some (vb (inR i n)):=by
 (refine zag Γ96 rfl ?_;dsimp only[f96])
 simp -dsimp only[go_sem,seval];refine zac (fun h=> ?_) (fun h=> ?_)<;>(try simp only[zah]at h)<;>(try simp -dsimp only[go_sem,seval, *])
 ·simp[inR];omega
 ·simp[inR];omega
theorem zej (i n:Int):Den Γ G 110 [vi i,vi n]=some (vb (inR i n)):=by
 (refine zag Γ110 rfl ?_;dsimp only[f110])
 simp -dsimp only[go_sem,seval];refine zac (fun h=> ?_) (fun h=> ?_)<;>(try simp only[zah]at h)<;>(try simp -dsimp only[go_sem,seval, *])
 ·simp[inR];omega
 ·simp[inR];omega
def Expr.absent (e:Expr):Bool:=decide (e.op=0/\e.w=0/\e.n=0/\e.kids=[])
theorem zoB (e:Expr):Den Γ G 98 [(.agg [.t (ti (e).op),.t (ti (e).w),.t (ti (e).n),.t (.sl ((e).kids.map (Expr.enc)))])]=some (vb e.absent):=by
 (refine zag Γ98 rfl ?_;dsimp only[f98])
 simp -dsimp only[go_sem,seval]
 repeat'(refine zac (fun h=> ?_) (fun h=> ?_)<;>(try simp only[zah]at h)<;>(try simp -dsimp only[go_sem,seval, *]))
 all_goals(simp[Expr.absent, *])
theorem zoA (e:Expr):Den Γ G 111 [(.agg [.t (ti (e).op),.t (ti (e).w),.t (ti (e).n),.t (.sl ((e).kids.map (Expr.enc)))])]=some (vb e.absent):=by
 (refine zag Γ111 rfl ?_;dsimp only[f111])
 simp -dsimp only[go_sem,seval]
 repeat'(refine zac (fun h=> ?_) (fun h=> ?_)<;>(try simp only[zah]at h)<;>(try simp -dsimp only[go_sem,seval, *]))
 all_goals(simp[Expr.absent, *])
def Expr.one (e:Expr):Bool:=decide (e.op=1/\e.w=1/\e.n=1/\e.kids=[])
theorem zwI (e:Expr):Den Γ G 166 [(.agg [.t (ti (e).op),.t (ti (e).w),.t (ti (e).n),.t (.sl ((e).kids.map (Expr.enc)))])]=some (vb e.one):=by
 (refine zag Γ166 rfl ?_;dsimp only[f166])
 simp -dsimp only[go_sem,seval]
 repeat'(refine zac (fun h=> ?_) (fun h=> ?_)<;>(try simp only[zah]at h)<;>(try simp -dsimp only[go_sem,seval, *]))
 all_goals(simp[Expr.one, *])
def zc0 (l:List Int):Bool:=(List.range (l.length-1)).all fun i=>decide (l.getD i 0<l.getD (i+1) 0)
theorem zmv {l:List Int} {i:Nat} (h:i+1<l.length) (h2: ¬l.getD i 0<l.getD (i+1) 0):zc0 l=false:=
 zcr (List.mem_range.2 (by omega)) (decide_eq_false h2)
theorem zkq {l:List Int} (h: ∀j,j+1<l.length->l.getD j 0<l.getD (j+1) 0):zc0 l=true:=by
 simp only[zc0,zN,List.mem_range,decide_eq_true_eq];exact fun j hj=>h j (by omega)
theorem zkr (l:List Int) (hl:l.length<2^50):Den Γ G 113 [.t (ints l)]=some (vb (zc0 l)):=by
 (refine zag Γ113 rfl ?_;dsimp only[f113])
 simp -dsimp only[go_sem,seval];refine zaT 1048572 (l.length-1) (fun i f=>(f 3).v=vi ((i+1:Nat):Int)/\ ∀j<i,l.getD j 0<l.getD (j+1) 0) rfl rfl ⟨by simp -dsimp only[go_sem,seval],by simp⟩ ?_;rintro i f u kk bb hi ⟨h3,Aa⟩;have hw:=zan (i+1) (by omega);have BO:IntKind.i64.wrap (((i+1:Nat):Int)-1)=(i:Int):=by rw[zaH (by omega)];omega
 simp -dsimp only[go_sem,seval,h3];refine zac (fun h=> ?_) (fun h=> ?_)<;>(try simp only[zah]at h)<;>(try simp -dsimp only[go_sem,seval, *])
 ·have Ad:i+1<l.length:=by omega
  have hx:l[i+1]? =some l[i+1]:=zI Ad;have hy:l[i]? =some l[i]:=zI (by omega);have gx:l.getD (i+1) 0=l[i+1]:=by simp[List.getD,hx]
  have gy:l.getD i 0=l[i]:=by simp[List.getD,hy]
  simp -dsimp only[go_sem,seval,h3,hx,hy,BO];refine zac (fun h=> ?_) (fun h=> ?_)<;>(try simp only[zah]at h)<;>(try simp -dsimp only[go_sem,seval, *])
  ·have:zc0 l=false:=zmv Ad (by rw[gx,gy];omega);rw[this]
  ·refine⟨by omega,by simp -dsimp only[go_sem,seval,hw],fun j hj=> ?_⟩
   by_cases DP:j=i
   ·subst DP;rw[gx,gy];omega
   ·exact Aa j (by omega)
 ·have:zc0 l=true:=zkq fun j hj=>Aa j (by omega)
  rw[this]
theorem zgi (l:List Int) (hl:l.length<2^50):Den Γ G 101 [.t (ints l)]=some (vb (zc0 l)):=by
 (refine zag Γ101 rfl ?_;dsimp only[f101])
 simp -dsimp only[go_sem,seval];refine zaT 1048572 (l.length-1) (fun i f=>(f 3).v=vi ((i+1:Nat):Int)/\ ∀j<i,l.getD j 0<l.getD (j+1) 0) rfl rfl ⟨by simp -dsimp only[go_sem,seval],by simp⟩ ?_;rintro i f u kk bb hi ⟨h3,Aa⟩;have hw:=zan (i+1) (by omega);have BO:IntKind.i64.wrap (((i+1:Nat):Int)-1)=(i:Int):=by rw[zaH (by omega)];omega
 simp -dsimp only[go_sem,seval,h3];refine zac (fun h=> ?_) (fun h=> ?_)<;>(try simp only[zah]at h)<;>(try simp -dsimp only[go_sem,seval, *])
 ·have Ad:i+1<l.length:=by omega
  have hx:l[i+1]? =some l[i+1]:=zI Ad;have hy:l[i]? =some l[i]:=zI (by omega);have gx:l.getD (i+1) 0=l[i+1]:=by simp[List.getD,hx]
  have gy:l.getD i 0=l[i]:=by simp[List.getD,hy]
  simp -dsimp only[go_sem,seval,h3,hx,hy,BO];refine zac (fun h=> ?_) (fun h=> ?_)<;>(try simp only[zah]at h)<;>(try simp -dsimp only[go_sem,seval, *])
  ·have:zc0 l=false:=zmv Ad (by rw[gx,gy];omega);rw[this]
  ·refine⟨by omega,by simp -dsimp only[go_sem,seval,hw],fun j hj=> ?_⟩
   by_cases DP:j=i
   ·subst DP;rw[gx,gy];omega
   ·exact Aa j (by omega)
 ·have:zc0 l=true:=zkq fun j hj=>Aa j (by omega)
  rw[this]
def zfN (b:ByteArray) (i:Nat):Bool:=match b[i]? with
 | some c=>decide (33<=c.toNat/\c.toNat<=126)
 | none=>false
def zbA (b:ByteArray):Bool:=decide (1<=b.size/\b.size<=64)&&(List.range b.size).all (zfN b)
theorem ziu {b:ByteArray} {i:Nat} (h:i<b.size) (h2:zfN b i=false):zbA b=false:=by
 rw[zbA,zcr (List.mem_range.2 h) h2,Bool.and_false]
theorem zpN {b:ByteArray} {i:Nat} (h:i<b.size): ∃c,b[i]? =some c:=⟨b[i],by simp[h]⟩
theorem zf2 (b:ByteArray):Den Γ G 95 [.t (.str b)]=some (vb (zbA b)):=by
 (refine zag Γ95 rfl ?_;dsimp only[f95])
 simp -dsimp only[go_sem,seval];refine zac (fun h=> ?_) (fun h=> ?_)<;>(try simp only[zah]at h)<;>(try simp -dsimp only[go_sem,seval, *])
 ·have : ¬(1<=b.size/\b.size<=64):=by omega
  simp[zbA,this]
 ·refine zac (fun h=> ?_) (fun h=> ?_)<;>(try simp only[zah]at h)<;>(try simp -dsimp only[go_sem,seval, *])
  ·have : ¬(1<=b.size/\b.size<=64):=by omega
   simp[zbA,this]
  ·have AS:1<=b.size/\b.size<=64:=by omega
   refine zaT 268419084 b.size (fun i f=>(f 14).v=vi i/\ ∀j<i,zfN b j=true) rfl rfl ⟨by simp -dsimp only[go_sem,seval],by simp⟩ ?_;rintro i f u kk bb hi ⟨C0,Aa⟩;have hw:=zan i (by omega);simp -dsimp only[go_sem,seval,C0];refine zac (fun h=> ?_) (fun h=> ?_)<;>(try simp only[zah]at h)<;>(try simp -dsimp only[go_sem,seval, *])
   ·obtain⟨c,hc⟩:=zpN ‹i<b.size›;simp -dsimp only[go_sem,seval,C0,hc]
    repeat'(refine zac (fun h=> ?_) (fun h=> ?_)<;>(try simp only[zah]at h)<;>(try simp -dsimp only[go_sem,seval, *]))
    ·rw[ziu ‹i<b.size› (by simp[zfN,hc];omega)]
    ·rw[ziu ‹i<b.size› (by simp[zfN,hc];omega)]
    ·refine⟨by omega,by simp -dsimp only[go_sem,seval,hw],fun j hj=> ?_⟩
     by_cases DP:j=i
     ·subst DP;simp[zfN,hc];omega
     ·exact Aa j (by omega)
   ·have:zbA b=true:=by
     simp only[zbA,AS,and_self,decide_true,Bool.true_and,zN,List.mem_range];exact fun j hj=>Aa j (by omega)
    rw[this]
theorem zf1 (b:ByteArray) (hb:b.size<2^50):Den Γ G 109 [.t (.str b)]=some (vb (zbA b)):=by
 (refine zag Γ109 rfl ?_;dsimp only[f109])
 simp -dsimp only[go_sem,seval];refine zaT 1048572 b.size (fun i f=>(f 3).v=vi i/\ ∀j<i,zfN b j=true) rfl rfl ⟨by simp -dsimp only[go_sem,seval],by simp⟩ ?_;rintro i f u kk bb hi ⟨C0,Aa⟩;have hw:=zan i (by omega);simp -dsimp only[go_sem,seval,C0];refine zac (fun h=> ?_) (fun h=> ?_)<;>(try simp only[zah]at h)<;>(try simp -dsimp only[go_sem,seval, *])
 ·obtain⟨c,hc⟩:=zpN ‹i<b.size›;simp -dsimp only[go_sem,seval,C0,hc]
  repeat'(refine zac (fun h=> ?_) (fun h=> ?_)<;>(try simp only[zah]at h)<;>(try simp -dsimp only[go_sem,seval, *]))
  ·rw[ziu ‹i<b.size› (by simp[zfN,hc];omega)]
  ·rw[ziu ‹i<b.size› (by simp[zfN,hc];omega)]
  ·refine⟨by omega,by simp -dsimp only[go_sem,seval,hw],fun j hj=> ?_⟩
   by_cases DP:j=i
   ·subst DP;simp[zfN,hc];omega
   ·exact Aa j (by omega)
 ·have:(List.range b.size).all (zfN b)=true:=by
   simp only[zN,List.mem_range];exact fun j hj=>Aa j (by omega)
  refine zac (fun h=> ?_) (fun h=> ?_)<;>(try simp only[zah]at h)<;>(try simp -dsimp only[go_sem,seval, *])
  ·simp only[zbA,this,Bool.and_true];apply decide_eq_decide.2;omega
  ·simp only[zbA,this,Bool.and_true];exact(decide_eq_false (by omega)).symm
namespace Expr
mutual
def lv:Expr->List Expr
 | .mk o w n []=>[.mk o w n []]
 | .mk o w n (k::ks)=>lv k++lvs ks
def lvs:List Expr->List Expr
 | []=>[]
 | e::r=>lv e++lvs r
end
theorem zvO: ∀l:List Expr,lvs l=l.flatMap lv
 | []=>rfl
 | e::r=>by rw[lvs,zvO r];rfl
theorem lv_eq (e:Expr):lv e=if e.kids=[]then [e]else e.kids.flatMap lv:=by
 obtain⟨o,w,n,ks⟩:=e
 cases ks with
 | nil=>simp[lv,Expr.kids]
 | cons k ks=>simp[lv,zvO,Expr.kids]
end Expr
def Sh (h:Nat->Option O) (v:V) (e:Expr):Prop:=
 v= .t (.ip [ti e.op,ti e.w,ti e.n,.sl (e.kids.map Expr.enc)])\/
 ∃k fz,v= .mp k 0 0/\h k=some (.rows 4 [[.t (ti e.op),.t (ti e.w),.t (ti e.n),.t (.sl (e.kids.map Expr.enc))]] fz)
theorem zkJ {σ:Type} (g:Nat) (cp:List V) (I:σ->(Nat->Option O)->Prop) (step:σ->Expr->σ) (lc:Expr->Bool)
 (Fe: ∀s h n v x,I s h->x.kids=[]->lc x=true->Sh h v x-> ∃r h' n',DenR Γ G g (v::cp) h n=some (r,h',n')/\I (step s x) h'):
 ∀(e:Expr) (v:V) (s:σ) (h:Nat->Option O) (n:Nat),e.allE (fun x=>lc x&&decide (x.kids.length<=3))=true->I s h->(∀s h,I s h->Sh h v e)->
  ∃r h' n',DenR Γ G 76 [v,.fn g [] cp] h n=some (r,h',n')/\I (e.lv.foldl step s) h':=by
 intro e
 induction e using Expr.ind with
 | _ e ih=>
 intro v s H n Aa hI hv;have DX:=Expr.allE_self Aa;simp only[zF,decide_eq_true_eq]at DX
 (refine zay Γ76 rfl ?_;dsimp only[f76])
 by_cases hk:e.kids=[]
 ·have Bo:=hv s H hI;have F8:e.lv=[e]:=by rw[Expr.lv_eq,if_pos hk]
  rw[F8];have hS: ∀n,∃r h' n',DenR Γ G g (v::cp) H n=some (r,h',n')/\I (step s e) h':=fun n=>Fe s H n v e hI hk DX.1 Bo
  rcases Bo with rfl | ⟨k,fz,rfl,AB⟩
  ·simp only[hk,List.map_nil]at hS;simp -dsimp only[go_sem,seval,hk];refine zas (hS _) ?_;intro r h' n' Hi;simp -dsimp only[go_sem,seval,hk];refine zaD ?_;simp -dsimp only[go_sem,seval];exact Hi
  ·simp -dsimp only[go_sem,seval,hk,AB];refine zas (hS _) ?_;intro r h' n' Hi;have:=hv _ _ Hi;rcases this with h0 | ⟨k',fz',h0,J6⟩
   ·cases h0
   ·cases h0;simp -dsimp only[go_sem,seval,hk,J6];refine zaD ?_;simp -dsimp only[go_sem,seval];exact Hi
 ·have F8:e.lv=e.kids.flatMap Expr.lv:=by rw[Expr.lv_eq,if_neg hk]
  have CB: ¬e.kids.length=0:=by simpa using hk
  have I0: ¬(e.kids.length:Int)=0:=by omega
  rw[F8];have CX: ∀i,i=e.kids.length->(e.kids.take i).flatMap Expr.lv=e.kids.flatMap Expr.lv:=by rintro i rfl;rw[List.take_length]
  rcases hv s H hI with rfl | ⟨k,fz,rfl,AB⟩
  ·simp -dsimp only[go_sem,seval,I0];refine zaq 2146959376 e.kids.length (fun i f hh x=>(f 19).v=vi i/\I (((e.kids.take i).flatMap Expr.lv).foldl step s) hh) rfl ⟨by simp -dsimp only[go_sem,seval],by simpa using hI⟩ ?_;rintro i f u hh x bs hi ⟨EZ,Hi⟩;have BF:=zan i (by omega);simp -dsimp only[go_sem,seval,EZ];refine zac (fun h=> ?_) (fun h=> ?_)<;>(try simp only[zah]at h)<;>(try simp -dsimp only[go_sem,seval, *])
   ·obtain⟨y,hy,hm⟩:=zai ‹i<e.kids.length›;simp -dsimp only[go_sem,seval,EZ,hy];refine zas (ih y hm _ _ _ _ (Expr.allE_kid Aa hm) Hi (fun _ _ _=> .inl rfl)) ?_;intro r h' n' IG;simp -dsimp only[go_sem,seval,EZ];refine⟨by omega,by simp -dsimp only[go_sem,seval,BF],?_⟩;rw[zaf hy,List.flatMap_append,List.foldl_append];simpa using IG
   ·rw[CX i (by omega)]at Hi;exact Hi
  ·simp -dsimp only[go_sem,seval,I0,AB];refine zaq 2146959376 e.kids.length (fun i f hh x=>(f 19).v=vi i/\I (((e.kids.take i).flatMap Expr.lv).foldl step s) hh) rfl ⟨by simp -dsimp only[go_sem,seval],by simpa using hI⟩ ?_;rintro i f u hh x bs hi ⟨EZ,Hi⟩;have BF:=zan i (by omega)
   have J5: ∃fz',hh k=some (.rows 4 [[.t (ti e.op),.t (ti e.w),.t (ti e.n),.t (.sl (e.kids.map Expr.enc))]] fz'):=by
    rcases hv _ _ Hi with h0 | ⟨k',fz',h0,J6⟩
    ·cases h0
    ·cases h0;exact⟨fz',J6⟩
   obtain⟨fz',J5⟩:=J5;simp -dsimp only[go_sem,seval,EZ];refine zac (fun h=> ?_) (fun h=> ?_)<;>(try simp only[zah]at h)<;>(try simp -dsimp only[go_sem,seval, *])
   ·obtain⟨y,hy,hm⟩:=zai ‹i<e.kids.length›;simp -dsimp only[go_sem,seval,EZ,hy,J5];refine zas (ih y hm _ _ _ _ (Expr.allE_kid Aa hm) Hi (fun _ _ _=> .inl rfl)) ?_;intro r h' n' IG;simp -dsimp only[go_sem,seval,EZ];refine⟨by omega,by simp -dsimp only[go_sem,seval,BF],?_⟩;rw[zaf hy,List.flatMap_append,List.foldl_append];simpa using IG
   ·rw[CX i (by omega)]at Hi;exact Hi
end Rg
end
section
-- FULL
namespace Rg
open Go
def lcV (x:Expr):Bool:=decide (0<=x.n/\(x.kids=[]->x.op=1\/x.op=2\/x.op=3))
def IV (cells:List Cell) (pair:Bool) (k3 k4 k5 k7:Nat) (e:Expr) (s:Bool) (h:Nat->Option O):Prop:=
 h k7=some (.rows 1 [[vb s]] false)/\h k4=some (.rows 1 [[.t (.sl (cells.map Cell.enc))]] false)/\h k5=some (.rows 1 [[vb pair]] false)/\
 h k3=some (.rows 4 [[.t (ti e.op),.t (ti e.w),.t (ti e.n),.t (.sl (e.kids.map Expr.enc))]] false)
theorem zp4 (cells:List Cell) (pair:Bool) (k3 k4 k5 k7:Nat) (e:Expr) (h4:k4≠k7) (h5:k5≠k7) (h3:k3≠k7) (s:Bool) (H:Nat->Option O) (n:Nat) (v:V) (x:Expr)
 (hI:IV cells pair k3 k4 k5 k7 e s H) (hk:x.kids=[]) (hl:lcV x=true) (hs:Sh H v x):
 ∃r h' n',DenR Γ G 136 [v,.mp k4 0 0,.mp k5 0 0,.mp k7 0 0] H n=some (r,h',n')/\IV cells pair k3 k4 k5 k7 e (s&&zb3 cells pair x) h':=by
 obtain⟨i7,i4,i5,i3⟩:=hI;simp only[lcV,decide_eq_true_eq]at hl;obtain⟨Cg,Ao⟩:=hl;have Ao:=Ao hk
 (refine zay Γ136 rfl ?_;dsimp only[f136])
 have yes: ∀h',h'=H->zb3 cells pair x=true->IV cells pair k3 k4 k5 k7 e (s&&zb3 cells pair x) h':=fun h' he hh=>by
  rw[hh,Bool.and_true,he];exact⟨i7,i4,i5,i3⟩
 have no: ∀h',h'=updC H k7 (some (.rows 1 [[vb false]] false))->zb3 cells pair x=false->IV cells pair k3 k4 k5 k7 e (s&&zb3 cells pair x) h':=fun h' he hh=>by
  rw[hh,Bool.and_false,he];refine⟨by simp[zaa],by simp[zaa,h4,i4],by simp[zaa,h5,i5],by simp[zaa,h3,i3]⟩
 rcases hc:cells[x.n.toNat]? with _ | c
 ·have Bv:x.n>=(cells.length:Int):=by rw[List.getElem?_eq_none_iff]at hc;omega
  rcases hs with rfl | ⟨k,fz,rfl,AB⟩
  ·rcases Ao with ho | ho | ho
   all_goals(
    simp -dsimp [go_sem,i7,i4,i5,ho,Bv]
    repeat'(refine zac (fun h=> ?_) (fun h=> ?_)<;>(try simp only[zah]at h)<;>(try simp -dsimp [go_sem, *]))
    all_goals(first | exact no _ (by simp -dsimp [go_sem]) (by simp[zb3,ho,hc]) | exact yes _ rfl (by simp[zb3,ho,hc])))
  ·rcases Ao with ho | ho | ho
   all_goals(
    simp -dsimp [go_sem,i7,i4,i5,ho,Bv,AB]
    repeat'(refine zac (fun h=> ?_) (fun h=> ?_)<;>(try simp only[zah]at h)<;>(try simp -dsimp [go_sem, *]))
    all_goals(first | exact no _ (by simp -dsimp [go_sem]) (by simp[zb3,ho,hc]) | exact yes _ rfl (by simp[zb3,ho,hc])))
 ·have Bv: ¬x.n>=(cells.length:Int):=by
   have:=(zH.1 hc).1;omega
  rcases hs with rfl | ⟨k,fz,rfl,AB⟩
  ·rcases Ao with ho | ho | ho
   all_goals(
    simp -dsimp [go_sem,i7,i4,i5,ho,Bv,hc,Cg]
    repeat'(refine zac (fun h=> ?_) (fun h=> ?_)<;>(try simp only[zah]at h)<;>(try simp -dsimp [go_sem, *]))
    all_goals(first | exact no _ (by simp -dsimp [go_sem]) (by simp[zb3, *]) | exact yes _ rfl (by simp[zb3, *])))
  ·rcases Ao with ho | ho | ho
   all_goals(
    simp -dsimp [go_sem,i7,i4,i5,ho,Bv,hc,Cg,AB]
    repeat'(refine zac (fun h=> ?_) (fun h=> ?_)<;>(try simp only[zah]at h)<;>(try simp -dsimp [go_sem, *]))
    all_goals(first | exact no _ (by simp -dsimp [go_sem]) (by simp[zb3, *]) | exact yes _ rfl (by simp[zb3, *])))
theorem zmZ (p:Expr->Bool): ∀(l:List Expr) (s:Bool),l.foldl (fun s x=>s&&p x) s=(s&&l.all p)
 | [],s=>by simp
 | x::l,s=>by simp only[List.foldl_cons,zmZ p l,List.all_cons,Bool.and_assoc]
theorem zvP {p:Expr->Bool} (hp: ∀x:Expr,x.kids≠[]->zbk x=true->p x=true) (d:Nat): ∀e:Expr,e.deep d=true->e.allE p=e.lv.all p:=by
 induction d with
 | zero=>intro e h;simp[Expr.deep]at h
 | succ d ih=>
   intro e h;rw[Expr.allE_eq,Expr.lv_eq];split
   ·rename_i hk;rw[hk];simp
   ·rename_i hk;rw[hp e hk (zcq h),Bool.true_and];have : ∀k∈e.kids,k.allE p=k.lv.all p:=fun k hk=>ih k (zc7 h hk)
    generalize e.kids=ks at this
    induction ks with
    | nil=>rfl
    | cons k ks ih2=>
      simp only[List.all_cons,List.flatMap_cons,List.all_append];rw[this k (by simp),ih2 (fun x hx=>this x (by simp[hx]))]
theorem zwQ {x:Expr} (hk:x.kids≠[]) (h:zbk x=true):4<=x.op:=by
 have ha:=zct h;have:0<x.kids.length:=List.length_pos_iff.2 hk;unfold zcO at ha;grind
theorem zje (cells:List Cell) (pair:Bool) {x:Expr} (hk:x.kids≠[]) (h:zbk x=true):zb3 cells pair x=true:=by
 have:=zwQ hk h;unfold zb3;rw[if_neg (by omega),if_neg (by omega)]
theorem zxa (d:Nat): ∀e:Expr,e.deep d=true->e.allE (fun x=>lcV x&&decide (x.kids.length<=3))=true:=by
 induction d with
 | zero=>intro e h;simp[Expr.deep]at h
 | succ d ih=>
   intro e h;rw[Expr.allE_eq];have hn:=zcq h;simp only[zF,zN,decide_eq_true_eq,lcV];refine⟨⟨⟨zfZ hn,fun hk=> ?_⟩,zdj hn⟩,fun k hk=> ?_⟩
   ·have ha:=zct hn;rw[hk]at ha;rcases zeg e.op with hh | hh | hh | hh | hh | hh | hh | hh | hh | hh | hh | hh | hh | hh | Ao
    ·exact .inl hh
    ·exact .inr (.inl hh)
    ·exact .inr (.inr hh)
    all_goals(try(rw[hh]at ha;simp[zcO]at ha;done))
    rw[zd7 Ao]at ha;simp at ha
   ·have:=ih k (zc7 h hk);simpa only[lcV]using this
theorem zfS (e:Expr) (cells:List Cell) (pair:Bool):Den Γ G 107 [(.agg [.t (ti (e).op),.t (ti (e).w),.t (ti (e).n),.t (.sl ((e).kids.map (Expr.enc)))]),.t (.sl (cells.map Cell.enc)),vb pair]=some (vb (e.valid cells pair)):=by
 (refine zag Γ107 rfl ?_;dsimp only[f107])
 have h1:=zeo e
 by_cases hf:e.formed=true
 ·simp -dsimp [go_sem,h1,hf];have hd:=zcp hf;refine zas (zkJ 136 _ (IV cells pair 0 1 2 7 e) (fun s x=>s&&zb3 cells pair x) lcV (zp4 cells pair 0 1 2 7 e (by decide) (by decide) (by decide)) e _ true _ _ (zxa 40 e hd) ⟨by simp -dsimp [go_sem],by simp -dsimp [go_sem],by simp -dsimp [go_sem],by simp -dsimp [go_sem]⟩ (fun s h hI=> .inr ⟨0,false,rfl,hI.2.2.2⟩)) ?_;rintro r h' n' ⟨i7,_⟩;simp -dsimp [go_sem,i7];rw[zmZ,Expr.valid,hf,zvP (fun x=>zje cells pair) 40 e hd]
 ·have hf:e.formed=false:=by simpa using hf
  simp -dsimp [go_sem,h1,hf];simp[Expr.valid,hf]
end Rg
end
section
-- APPS
namespace Rg
open Go
def Own (h:Nat->Option O) (x:Nat) (v:V) (sz:Nat) (rows:List (List V)):Prop:=
 (v= .t .nils/\rows=[])\/ ∃k,v= .ms k 0 rows.length/\k<x/\h k=some (.rows sz rows false)
theorem zei {α β:Type} (f:α->Option β): ∀(l:List α) (r:List β),(∀i:Nat,∀a,l[i]? =some a-> ∃b,r[i]? =some b/\f a=some b)->l.length=r.length->l.mapM f=some r
 | [],[],_,_=>rfl
 | [],_::_,_,h=>by simp at h
 | _::_,[],_,h=>by simp at h
 | a::l,b::r,h,hl=>by
   rw[List.mapM_cons];obtain⟨b',hb,hf⟩:=h 0 a rfl;simp at hb;subst hb;rw[hf,zei f l r (fun i a' ha=>by simpa using h (i+1) a' (by simpa using ha)) (by simpa using hl)];rfl
theorem zdJ (h:Nat->Option O) (d:Nat) (es:List (List T)) (hn: ∀e∈es,∀t∈e,T.norm t=t):
 (es.map (·.map V.t)).mapM (fun row=>row.mapM (toT h d))=some es:=by
 refine zei _ _ _ (fun i a ha=> ?_) (by simp);rw[zJ]at ha
 cases he:es[i]? with
 | none=>rw[he]at ha;simp at ha
 | some e=>
   rw[he]at ha;simp only[Option.map_some,zA]at ha;subst ha;refine⟨e,rfl,?_⟩;refine zei _ _ _ (fun j b hb=> ?_) (by simp);rw[zJ]at hb
   cases ht:e[j]? with
   | none=>rw[ht]at hb;simp at hb
   | some t=>
     rw[ht]at hb;simp only[Option.map_some,zA]at hb;subst hb;have:=hn e (zL he) t (zL ht);refine⟨t,rfl,?_⟩;cases d<;>simp[toT,this]
theorem zcc {h:Nat->Option O} {x:Nat} {v:V} {sz:Nat} {es:List (List T)} (ho:Own h x v sz (es.map (·.map V.t))) (hn: ∀e∈es,∀t∈e,T.norm t=t):
 toT h 1000 v=some (.sl es):=by
 rcases ho with⟨rfl,he⟩ | ⟨k,rfl,hk,hh⟩
 ·have:es=[]:=by simpa using he
  subst this;rfl
 ·rw[toT,hh];simp only[rd,Nat.zero_add,Nat.le_refl,if_true,List.drop_zero,List.take_length,zC,zD];rw[zdJ h 999 es hn];rfl
theorem zbP (l:List Int): ∀e∈(l.map fun n=>[ti n]),∀t∈e,T.norm t=t:=by
 intro e he t ht;obtain⟨n,_,rfl⟩:=List.mem_map.1 he;simp at ht;subst ht;rfl
def zbJ (l:List Bool) (i:Nat):List Int:=((List.range i).filter fun j=>l.getD j false).map fun j:Nat=>(j:Int)
theorem ze4 (l:List Bool) (i:Nat):zbJ l (i+1)=zbJ l i++if l.getD i false then [(i:Int)]else []:=by
 unfold zbJ;rw[List.range_succ,List.filter_append,List.map_append];cases h:l.getD i false<;>simp only[List.filter_cons,List.filter_nil,h,if_true,if_false,zG,List.map_nil,List.map_cons]
def zae (l:List Int):List (List V):=(l.map fun n=>[ti n]).map (·.map V.t)
theorem zab (l:List Int):(zae l).length=l.length:=by simp[zae]
theorem za4 (l:List Int) (n:Int):zae (l++[n])=zae l++[[vi n]]:=by simp[zae]
theorem zaQ (l:List Int):((zae l).all fun r=>decide (r.length=1))=true:=by simp[zae]
theorem zsd {k x:Nat} (h:k<x) (j:Nat): ¬k=x+j:=by omega
theorem zn1 {k x:Nat} (h:k<x) (j j':Nat): ¬k=x+j+j':=by omega
theorem zsc {k x:Nat} (h:k<x) (j j' j'':Nat): ¬k=x+j+j'+j'':=by omega
theorem zkF (l:List Bool) (hl:l.length<2^20):Den Γ G 159 [.t (.sl (l.map fun b=>[tb b]))]=some (.t (ints (zbJ l l.length))):=by
 (refine zag Γ159 rfl ?_;dsimp only[f159])
 simp -dsimp only[go_sem,seval,zck];refine zaq 524280 l.length (fun i f h x=>(f 4).v=vi i/\Own h x (f 3).v 1 (zae (zbJ l i))) rfl ⟨by simp -dsimp only[go_sem,seval,zck],.inl ⟨by simp -dsimp only[go_sem,seval,zck],rfl⟩⟩ ?_;rintro i f u H x bs hi ⟨h4,Ab⟩;have hw:=zan i (by omega);simp -dsimp only[go_sem,seval,zck,h4];refine zac (fun h=> ?_) (fun h=> ?_)<;>(try simp only[zah]at h)<;>(try simp -dsimp only[go_sem,seval,zck, *])
 ·have hx:l[i]? =some l[i]:=zI (by omega);have gx:l.getD i false=l[i]:=by simp[List.getD,hx]
  simp -dsimp only[go_sem,seval,zck,h4,hx];refine zac (fun h=> ?_) (fun h=> ?_)<;>(try simp only[zah]at h)<;>(try simp -dsimp only[go_sem,seval,zck, *])
  ·have FY:zbJ l (i+1)=zbJ l i++[(i:Int)]:=by rw[ze4,gx,h];rfl
   have N4:(zbJ l i).length<=i:=by
    unfold zbJ;rw[List.length_map];exact Nat.le_trans (List.length_filter_le _ _) (by simp)
   rcases Ab with⟨hv,he⟩ | ⟨k,hv,hk,hh⟩
   ·have BZ:zbJ l i=[]:=by simpa[zae]using he
    simp -dsimp only[go_sem,seval,zck,h4,hv];refine⟨by omega,by simp -dsimp only[go_sem,seval,zck,hw],?_⟩;simp -dsimp only[go_sem,seval,zck,FY,BZ,zae];exact .inr ⟨_,rfl,by omega,by simp -dsimp only[go_sem,seval,zck]⟩
   ·have n1:=zsd hk;have n2:=zn1 hk;have n3:=zsc hk;have Cu:=zaQ (zbJ l i);have Bb:=zab (zbJ l i);have A5:(zae (zbJ l i)).length<=4294967295:=by omega
    simp -dsimp only[go_sem,seval,zck,h4,hv,hh,n1,n2,n3,Cu,Nat.le_refl,List.take_length,A5];refine⟨by omega,by simp -dsimp only[go_sem,seval,zck,hw],?_⟩;simp -dsimp only[go_sem,seval,zck,FY,za4];exact .inr ⟨_,(by rw[zM];rfl),by omega,by simp -dsimp only[go_sem,seval,zck]⟩
  ·have FY:zbJ l (i+1)=zbJ l i:=by rw[ze4,gx,h];simp
   refine⟨by omega,by simp -dsimp only[go_sem,seval,zck,hw],?_⟩;simp -dsimp only[go_sem,seval,zck,FY];rcases Ab with⟨hv,he⟩ | ⟨k,hv,hk,hh⟩
   ·exact .inl ⟨hv,he⟩
   ·exact .inr ⟨k,hv,by omega,hh⟩
 ·have:i=l.length:=by omega
  subst this;have hr:=zcc Ab (zbP _);rcases Ab with⟨hv,he⟩ | ⟨k,hv,hk,hh⟩
  ·simp -dsimp only[go_sem,seval,zck,hv];simpa[zae]using he
  ·simp -dsimp only[go_sem,seval,zck,hv];rw[hv,toT]at hr;simp only[hh,rd,Nat.zero_add,Nat.le_refl,if_true,List.drop_zero,List.take_length,zC,zD]at hr⊢;rw[hr];rfl
end Rg
end
section
-- FULL
namespace Rg
open Go
theorem zir (p:Prog) (c t:Int) (x:Cell) (h0:0<=c) (hc:p.cells[c.toNat]? =some x):Den Γ G 154 [(zP p),vi c,vi t]=some (vb (decide (x.thread=t))):=by
 (refine zag Γ154 rfl ?_;dsimp only[f154])
 simp -dsimp [go_sem,h0,hc]
theorem zgs (p:Prog) (c:Int) (x:Cell) (h0:0<=c) (hc:p.cells[c.toNat]? =some x):Den Γ G 155 [(zP p),vi c]=some (vb (decide (x.thread= -1))):=by
 (refine zag Γ155 rfl ?_;dsimp only[f155])
 simp -dsimp [go_sem,h0,hc]
theorem zfA (p:Prog) (c:Int) (x:Cell) (h0:0<=c) (hc:p.cells[c.toNat]? =some x):Den Γ G 163 [(zP p),vi c]=some (vb x.ghost):=by
 (refine zag Γ163 rfl ?_;dsimp only[f163])
 simp -dsimp [go_sem,h0,hc]
def zar (p:Prog) (t c:Int):Bool:=decide (0<=c)&&match p.cells[c.toNat]? with
 | some x=>decide (x.thread=t)
 | none=>false
theorem zch {p:Prog} {c:Int} (h:inR c p.cells.length=true):0<=c/\ ∃x,p.cells[c.toNat]? =some x:=by
 simp only[inR,decide_eq_true_eq]at h;exact⟨h.1,_,zI (by omega)⟩
theorem zeh {p:Prog} {t c:Int} (h:inR c p.cells.length=false):zar p t c=false:=by
 simp only[inR,decide_eq_false_iff_not]at h;unfold zar
 by_cases h0:0<=c
 ·have:p.cells[c.toNat]? =none:=List.getElem?_eq_none_iff.2 (by omega);simp[this]
 ·simp[h0]
theorem zdY (p:Prog) (c:Int):Den Γ G 100 [(zP p),vi c]=some (vb (zar p (-1) c)):=by
 (refine zag Γ100 rfl ?_;dsimp only[f100])
 have hb:=zbR c p.cells.length;simp -dsimp [go_sem,hb];refine zac (fun h=> ?_) (fun h=> ?_)<;>(try simp only[zah]at h)<;>(try simp -dsimp [go_sem, *])
 ·obtain⟨h0,x,hx⟩:=zch h;simp -dsimp [go_sem,h0,hx,h];simp[zar,h0,hx]
 ·rw[zeh h]
theorem zis (p:Prog) (t c:Int):Den Γ G 146 [vi c,.t (.ip [.sl (p.cells.map Cell.enc),.sl (p.modules.map Contract.enc),.sl (p.locks.map Lock.enc),.sl (p.threads.map Thread.enc)]),.t (.ip [ti t])]=some (vb (zar p t c)):=by
 (refine zag Γ146 rfl ?_;dsimp only[f146])
 have hb:=zbR c p.cells.length;simp -dsimp [go_sem,hb];refine zac (fun h=> ?_) (fun h=> ?_)<;>(try simp only[zah]at h)<;>(try simp -dsimp [go_sem, *])
 ·obtain⟨h0,x,hx⟩:=zch h;simp -dsimp [go_sem,h0,hx,h];simp[zar,h0,hx]
 ·rw[zeh h]
theorem zhl (h:Nat->Option O): ∀c:List T,(∀t∈c,T.norm t=t)->(c.map V.t).mapM (toT1 h)=some (c.map V.t)
 | [],_=>rfl
 | t::c,hn=>by
   rw[List.map_cons,List.mapM_cons,zhl h c fun x hx=>hn x (by simp[hx])];have:toT1 h (.t t)=some (.t t):=by simp[toT1,toT,hn t (by simp)]
   rw[this];rfl
theorem zme (c:List T):(c.map V.t).all V.tree=true:=by
 rw[zN];intro v hv;obtain⟨t,_,rfl⟩:=List.mem_map.1 hv;rfl
def IsP (g:Nat) (c:List T) (P:Int->Bool):Prop:=(∀t∈c,T.norm t=t)/\ ∀n:Int,Den Γ G g (vi n::c.map V.t)=some (vb (P n))
def IsF (F:T) (P:Int->Bool):Prop:=T.norm F=F/\ ∃g a b,zfC (.t F)=some (g,a,b)/\(∀(h:Nat->Option O) (n:Int),(a++[vi n]++b).mapM (toT1 h)=some (a++[vi n]++b))/\
 (∀n:Int,(a++[vi n]++b).all V.tree=true)/\ ∀n:Int,Den Γ G g (a++[vi n]++b)=some (vb (P n))
theorem zsE {v:V} {g:Nat} {a b:List V} (hf:zfC v=some (g,a,b)) (K:Nat->List V->List V->Prop) (w:WK K):fnK (some v) K w=K g a b:=by
 simp only[fnK,hf]
theorem IsP.isF {g:Nat} {c:List T} {P:Int->Bool} (h:IsP g c P):IsF (.fn g [] c) P:=by
 refine⟨rfl,g,[],c.map V.t,rfl,fun hh n=> ?_,fun n=> ?_,fun n=> ?_⟩
 ·have:=zhl hh (ti n::c) (fun t ht=>(List.mem_cons.1 ht).elim (fun e=>by rw[e];rfl) (h.1 t));exact this
 ·exact zme (ti n::c)
 ·exact h.2 n
theorem zyI {g:Nat} {c:List T} {P:Int->Bool} (hn: ∀t∈c,T.norm t=t) (hd: ∀n:Int,Den Γ G g [.agg (c.map V.t),vi n]=some (vb (P n))):IsF (.fa g c) P:=by
 refine⟨rfl,g,[.agg (c.map V.t)],[],rfl,fun hh n=> ?_,fun n=> ?_,fun n=>hd n⟩
 ·clear hd
  have h1:toT1 hh (.agg (c.map V.t))=some (.agg (c.map V.t)):=by
   have:(c.map V.t).mapM (toT hh 1000)=some c:=by
    induction c with
    | nil=>rfl
    | cons t c ih=>rw[List.map_cons,List.mapM_cons,ih fun x hx=>hn x (by simp[hx])];simp[toT,hn t (by simp)]
   simp[toT1,this]
  rw[List.append_nil,List.cons_append,List.nil_append,List.mapM_cons,List.mapM_cons,h1];rfl
 ·simp[V.tree]
theorem zsw (F:T) (P:Int->Bool) (hP:IsF F P) (l:List Int) (hl:l.length<2^50):
 Den Γ G 145 [.t (ints l),.t F]=some (vi (match l.findIdx? P with | some i=>i | none=> -1)):=by
 (refine zag Γ145 rfl ?_;dsimp only[f145])
 obtain⟨_,g,a,b,hf,hm,ha,hd⟩:=hP;have hK:=zsE hf;simp -dsimp only[go_sem,seval];refine zaT 524080 l.length (fun i f=>(f 8).v=vi i/\ ∀x∈l.take i,P x=false) rfl rfl ⟨by simp -dsimp only[go_sem,seval],by simp⟩ ?_;rintro i f u kk bb hi ⟨h8,Aa⟩;have hw:=zan i (by omega);simp -dsimp only[go_sem,seval,h8];refine zac (fun h=> ?_) (fun h=> ?_)<;>(try simp only[zah]at h)<;>(try simp -dsimp only[go_sem,seval, *])
 ·obtain⟨y,hy,Fm⟩:=zai ‹i<l.length›;simp -dsimp only[go_sem,seval,h8,hy,hK,hm,ha,hd];refine zac (fun h=> ?_) (fun h=> ?_)<;>(try simp only[zah]at h)<;>(try simp -dsimp only[go_sem,seval, *])
  ·have:l.findIdx? P=some i:=by
    rw[List.findIdx?_eq_some_iff_getElem];have Ad:i<l.length:= ‹i<l.length›;have HG:l[i]=y:=by rw[zI Ad]at hy;exact Option.some.inj hy
    refine⟨Ad,by rw[HG];exact h,fun j hj=> ?_⟩;have:=Aa l[j] (by rw[List.mem_take_iff_getElem];exact⟨j,by omega,rfl⟩);simp[this]
   rw[this]
  ·refine⟨by omega,by simp -dsimp only[go_sem,seval,hw],fun x hx=> ?_⟩;rw[zaf hy]at hx;rcases List.mem_append.1 hx with hx | hx
   ·exact Aa x hx
   ·rw[List.mem_singleton.1 hx];exact h
 ·have:i=l.length:=by omega
  subst this;rw[List.take_length]at Aa;have:l.findIdx? P=none:=by rw[List.findIdx?_eq_none_iff];exact Aa
  rw[this]
theorem znf (F:T) (P:Int->Bool) (hP:IsF F P) (l:List Int) (hl:l.length<2^50):
 Den Γ G 131 [.t (ints l),.t F]=some (vb (l.any P)):=by
 (refine zag Γ131 rfl ?_;dsimp only[f131])
 have hd:=zsw F P hP l hl;have hn:=hP.1;simp only[T.norm]at hn;simp -dsimp only[go_sem,seval,hd,hn]
 cases h:l.findIdx? P with
 | none=>
   rw[List.findIdx?_eq_none_iff]at h;have:l.any P=false:=by rw[List.any_eq_false];intro x hx;simp[h x hx]
   simp[this]
 | some i=>
   have:l.any P=true:=by
    rw[List.findIdx?_eq_some_iff_getElem]at h;obtain⟨hi,hp,_⟩:=h;rw[List.any_eq_true];exact⟨_,List.getElem_mem hi,hp⟩
   simp[this]
theorem znx (F:T) (P:Int->Bool) (hP:IsF F P):IsP 132 [.ip [F]] (fun n=> !P n):=by
 refine⟨by simp[T.norm],fun n=> ?_⟩
 (refine zag Γ132 rfl ?_;dsimp only[f132])
 obtain⟨_,g,a,b,hf,hm,ha,hd⟩:=hP;have hK:=zsE hf;simp -dsimp only[go_sem,seval,hK,hm,ha,hd]
theorem zeC (F:T) (P:Int->Bool) (hP:IsF F P) (l:List Int) (hl:l.length<2^50):
 Den Γ G 102 [.t (ints l),.t F]=some (vb (l.all P)):=by
 (refine zag Γ102 rfl ?_;dsimp only[f102])
 have hn:=hP.1;simp only[T.norm]at hn;have hd:=znf _ _ (znx F P hP).isF l hl;simp -dsimp only[go_sem,seval,hd,hn];rw[List.all_eq_not_any_not]
end Rg
end
section
-- FULL
namespace Rg
open Go
def zbx (p:Prog):T:=.ip [.sl (p.cells.map Cell.enc),.sl (p.modules.map Contract.enc),.sl (p.locks.map Lock.enc),.sl (p.threads.map Thread.enc)]
theorem zBt (p:Prog) (t:Int):IsP 146 [zbx p,.ip [ti t]] (zar p t):=⟨by simp[zbx,T.norm],fun n=>zis p t n⟩
theorem zlp (p:Prog) (t:Int):Den Γ G 133 [(zP p),vi t]=some (.t (.fn 146 [] [zbx p,.ip [ti t]])):=by
 (refine zag Γ133 rfl ?_;dsimp only[f133])
 simp -dsimp [go_sem];rfl
def zjW (p:Prog) (t c:Int):Bool:=zar p (-1) c||zar p t c
theorem zgn (p:Prog) (t:Int):Den Γ G 104 [(zP p),vi t]=some (.t (.fn 134 [] [zbx p,.ip [.fn 146 [] [zbx p,.ip [ti t]]]])):=by
 (refine zag Γ104 rfl ?_;dsimp only[f104])
 have h1:=zlp p t;simp -dsimp [go_sem,h1];rfl
theorem zmb (p:Prog) (t:Int):IsP 134 [zbx p,.ip [.fn 146 [] [zbx p,.ip [ti t]]]] (zjW p t):=by
 refine⟨by simp[zbx,T.norm],fun n=> ?_⟩
 (refine zag Γ134 rfl ?_;dsimp only[f134])
 have h1:=zdY p n;have h2:=zis p t n;simp -dsimp [go_sem,h1,zbx];refine zac (fun h=> ?_) (fun h=> ?_)<;>(try simp only[zah]at h)<;>(try simp -dsimp [go_sem,zbx, *])
 ·simp[zjW,h]
 ·simp[zjW,h]
end Rg
end
section
-- APPS
namespace Rg
open Go
theorem zwN {k x:Nat} (h:k<x) (a b c d:Nat): ¬k=x+a+b+c+d:=by omega
theorem zi2 (l:List Bool) (hl:l.length=32): ∃r h' n',DenR Γ G 78 [.agg (l.map fun b=>vb b)] (fun _=>none) 0=some (r,h',n')/\Own h' n' r 1 (zae (zbJ l 32)):=by
 (refine zay Γ78 rfl ?_;dsimp only[f78])
 have Hy:(l.map fun b=>vb b).length=32:=by simp[hl]
 have Dv:List.take 32 (l.map fun b=>vb b)=l.map fun b=>vb b:=List.take_of_length_le (by omega)
 simp -dsimp only[go_sem,seval,zck,hl,Dv];refine zaq 131000 32 (fun i f h x=>(f 7).v=vi i/\Own h x (f 3).v 1 (zae (zbJ l i))) rfl ⟨by simp -dsimp only[go_sem,seval,zck],.inl ⟨by simp -dsimp only[go_sem,seval,zck],rfl⟩⟩ ?_;rintro i f u H x bs hi ⟨h4,Ab⟩;have hw:=zan i (by omega);have Dq:(0:Int)<=(i:Int):=by omega
 simp -dsimp only[go_sem,seval,zck,h4];refine zac (fun h=> ?_) (fun h=> ?_)<;>(try simp only[zah]at h)<;>(try simp -dsimp only[go_sem,seval,zck, *])
 ·have Ad:i<32:=by omega
  have hx:l[i]? =some (l[i]'(by omega)):=zI (by omega)
  generalize hb:l[i]'(by omega)=b at hx
  have gx:l.getD i false=b:=by simp[List.getD,hx]
  have QG:List.take 1 (List.drop (i*1) (l.map fun b=>vb b))=[vb b]:=by
   rw[Nat.mul_one,<- List.map_drop,<- List.map_take]
   have:(l.drop i).take 1=[b]:=by
    rw[List.drop_eq_getElem_cons (by omega),hb];rfl
   rw[this];rfl
  have NB:i*1<=31:=by omega
  simp -dsimp only[go_sem,seval,zck,h4,QG,hl,NB];refine zac (fun h=> ?_) (fun h=> ?_)<;>(try simp only[zah]at h)<;>(try simp -dsimp only[go_sem,seval,zck, *])
  ·have FY:zbJ l (i+1)=zbJ l i++[(i:Int)]:=by rw[ze4,gx,h];rfl
   have N4:(zbJ l i).length<=i:=by
    unfold zbJ;rw[List.length_map];exact Nat.le_trans (List.length_filter_le _ _) (by simp)
   rcases Ab with⟨hv,he⟩ | ⟨k,hv,hk,hh⟩
   ·have BZ:zbJ l i=[]:=by simpa[zae]using he
    simp -dsimp only[go_sem,seval,zck,h4,hv];refine⟨by omega,by simp -dsimp only[go_sem,seval,zck,hw],?_⟩;simp -dsimp only[go_sem,seval,zck,FY,BZ,zae];exact .inr ⟨_,rfl,by omega,by simp -dsimp only[go_sem,seval,zck]⟩
   ·have n1:=zsd hk;have n2:=zn1 hk;have n3:=zsc hk;have n4:=zwN hk;have Cu:=zaQ (zbJ l i);have Bb:=zab (zbJ l i);have A5:(zae (zbJ l i)).length<=4294967295:=by omega
    simp -dsimp only[go_sem,seval,zck,h4,hv,hh,n1,n2,n3,n4,Cu,Nat.le_refl,List.take_length,A5];refine⟨by omega,by simp -dsimp only[go_sem,seval,zck,hw],?_⟩;simp -dsimp only[go_sem,seval,zck,FY,za4];exact .inr ⟨_,(by rw[zM];rfl),by omega,by simp -dsimp only[go_sem,seval,zck]⟩
  ·have FY:zbJ l (i+1)=zbJ l i:=by rw[ze4,gx,h];simp
   refine⟨by omega,by simp -dsimp only[go_sem,seval,zck,hw],?_⟩;simp -dsimp only[go_sem,seval,zck,FY];rcases Ab with⟨hv,he⟩ | ⟨k,hv,hk,hh⟩
   ·exact .inl ⟨hv,he⟩
   ·exact .inr ⟨k,hv,by omega,hh⟩
 ·have:i=32:=by omega
  subst this;rcases Ab with⟨hv,he⟩ | ⟨k,hv,hk,hh⟩
  ·simp -dsimp only[go_sem,seval,zck,hv];exact .inl ⟨rfl,he⟩
  ·simp -dsimp only[go_sem,seval,zck,hv];exact .inr ⟨k,rfl,Nat.lt_of_lt_of_le hk (by first | omega | exact Nat.le_trans (zhI _ _) (zhI _ _) | exact zhI _ _),hh⟩
end Rg
end

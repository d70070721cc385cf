/- Part of the proof of laws of relyguardlaw04. No condition. -/
import Derived.Test.YtmgalfhaeddfbaaDoorOartAJ
import Derived.Stop.Joined
import Derived.ProofKit
import Derived.JoinedCond
import Derived.LaidMore
import Derived.Deep.DeepHandedRow
import Derived.Deep.DeepWitnessRowRef
import Derived.Test.YtmgalfhaeddfbaaDoorOartAI
set_option linter.unusedSimpArgs false
set_option linter.unusedVariables false
section
namespace Rg
open Go
def zaF (h:Nat->Option O) (x:Nat) (v:V) (sz:Nat) (rows:List (List V)):Prop:=
 (v= .t .nils/\rows=[])\/ ∃k,v= .ms k 0 rows.length/\k<x/\h k=some (.rows sz rows false)
theorem zaF.rowsS {h:Nat->Option O} {x:Nat} {v:V} {sz:Nat} {rows:List (List V)} (o:zaF h x v sz rows):rowsS h v=some rows:=by
 rcases o with⟨rfl,rfl⟩ | ⟨k,rfl,_,hk⟩
 ·rfl
 ·simp[Rg.rowsS,hk,rd]
theorem zaF.lenS {h:Nat->Option O} {x:Nat} {v:V} {sz:Nat} {rows:List (List V)} (o:zaF h x v sz rows):lenS h v=some rows.length:=by
 rcases o with⟨rfl,rfl⟩ | ⟨k,rfl,_,hk⟩
 ·rfl
 ·simp[Rg.lenS,hk]
theorem zaF.valOf {h:Nat->Option O} {x:Nat} {v:V} {sz:Nat} {rows:List (List V)} (o:zaF h x v sz rows):valOf v=some v:=by
 rcases o with⟨rfl,rfl⟩ | ⟨k,rfl,_,hk⟩<;>rfl
theorem zpb {h:Nat->Option O} {x q sz bytes:Nat} {u:V} {a b:List (List V)} {K:V->List (Nat×O)->Prop} {w:WK K}
 (ho:zaF h x u sz a) (hx:x<=q) (Ac:a.length+b.length<=2^32) (S4:bytes<=2^12) (hb:(b.all fun r=>decide (r.length=sz))=true) (ha:(a.all fun r=>decide (r.length=sz))=true)
 (hK: ∀v hp,zaF (VI h hp) (q+1) v sz (a++b)->(∀j,j<q->(∀i n,u≠ .ms j i n)->VI h hp j=h j)->(∀j,q<j->VI h hp j=h j)->K v hp):
 ziX false (zck h q sz bytes u a b) K w:=by
 unfold zck;rw[if_pos ⟨⟨Ac,S4⟩,hb,ha⟩]
 cases b with
 | nil=>
   simp only[List.isEmpty_nil,if_true,zcb];refine hK _ _ ?_ (fun j _ _=>by rw[zaA]) (fun j _=>by rw[zaA]);rw[zaA,List.append_nil];rcases ho with h1 | ⟨k,h1,h2,h3⟩
   ·exact .inl h1
   ·exact .inr ⟨k,h1,by omega,h3⟩
 | cons r b=>
   simp only[List.isEmpty_cons,zG,if_false];rcases ho with⟨rfl,rfl⟩ | ⟨k,rfl,hk,hh⟩
   ·simp only[zcb];refine hK _ _ (.inr ⟨q,rfl,by omega,?_⟩) (fun j hj _=> ?_) (fun j hj=> ?_)
    ·simp[zaC,zaA,zaa]
    ·have:j≠q:=by omega
     simp[zaC,zaA,zaa,this]
    ·have:j≠q:=by omega
     simp[zaC,zaA,zaa,this]
   ·simp only[hh,and_self,if_true,zcb,zfP];refine hK _ _ (.inr ⟨q,by rw[zM],by omega,?_⟩) (fun j hj Az=> ?_) (fun j hj=> ?_)
    ·simp[zaC,zaA,zaa]
    ·have h1:j≠q:=by omega
     have h2:j≠k:=by rintro rfl;exact Az 0 _ rfl
     simp[zaC,zaA,zaa,h1,h2]
    ·have h1:j≠q:=by omega
     have h2:j≠k:=by omega
     simp[zaC,zaA,zaa,h1,h2]
end Rg
end
section
namespace Rg
open Go
theorem zaF.upd {h:Nat->Option O} {x:Nat} {v:V} {sz:Nat} {rows:List (List V)} (o:zaF h x v sz rows) {q:Nat} (hq:x<=q) (b:Option O):zaF (updC h q b) (q+1) v sz rows:=by
 rcases o with o | ⟨k,h1,h2,h3⟩
 ·exact .inl o
 ·exact .inr ⟨k,h1,by omega,by rw[zaa,if_neg (by omega)];exact h3⟩
theorem zaF.le {h:Nat->Option O} {x y:Nat} {v:V} {sz:Nat} {rows:List (List V)} (o:zaF h x v sz rows) (hq:x<=y):zaF h y v sz rows:=by
 rcases o with o | ⟨k,h1,h2,h3⟩
 ·exact .inl o
 ·exact .inr ⟨k,h1,by omega,h3⟩
theorem zaF.r1 {h:Nat->Option O} {x:Nat} {v:V} {sz:Nat} {rows:List (List V)} (o:zaF h x v sz rows) (a:Nat) (b:Option O):Rg.rowsS (updC h (x+a) b) v=some rows:=(o.upd (by omega) b).rowsS
theorem zaF.r2 {h:Nat->Option O} {x:Nat} {v:V} {sz:Nat} {rows:List (List V)} (o:zaF h x v sz rows) (a c:Nat) (b:Option O):Rg.rowsS (updC h (x+a+c) b) v=some rows:=(o.upd (by omega) b).rowsS
theorem zaF.r3 {h:Nat->Option O} {x:Nat} {v:V} {sz:Nat} {rows:List (List V)} (o:zaF h x v sz rows) (a c d:Nat) (b:Option O):Rg.rowsS (updC h (x+a+c+d) b) v=some rows:=(o.upd (by omega) b).rowsS
theorem zaF.r4 {h:Nat->Option O} {x:Nat} {v:V} {sz:Nat} {rows:List (List V)} (o:zaF h x v sz rows) (a c d e:Nat) (b:Option O):Rg.rowsS (updC h (x+a+c+d+e) b) v=some rows:=(o.upd (by omega) b).rowsS
theorem zaF.r5 {h:Nat->Option O} {x:Nat} {v:V} {sz:Nat} {rows:List (List V)} (o:zaF h x v sz rows) (a c d e f:Nat) (b:Option O):Rg.rowsS (updC h (x+a+c+d+e+f) b) v=some rows:=(o.upd (by omega) b).rowsS
theorem zaF.reify {h:Nat->Option O} {x:Nat} {v:V} {sz:Nat} {es:List (List T)} (o:zaF h x v sz (es.map (·.map V.t))) (hn: ∀e∈es,∀t∈e,T.norm t=t):Rg.reify h v=some (.t (.sl es)):=by
 have:=zcc o hn;rcases o with⟨rfl,he⟩ | ⟨k,rfl,_,_⟩
 ·have:es=[]:=by simpa using he
  subst this;rfl
 ·simp only[Rg.reify,toT1,this,Option.map_some]
theorem zaF.one {h:Nat->Option O} {x:Nat} {v:V} {sz:Nat} {rows:List (List V)} (o:zaF h x v sz rows):v.one=true:=by
 rcases o with⟨rfl,_⟩ | ⟨k,rfl,_,_⟩<;>rfl
theorem zaF.resVal {h:Nat->Option O} {x:Nat} {v:V} {sz:Nat} {rows:List (List V)} (o:zaF h x v sz rows):Rg.resVal v=some v:=by
 rcases o with⟨rfl,_⟩ | ⟨k,rfl,_,_⟩<;>rfl
def zbg (v:V) (k:Nat):Prop:= ∀i n,v≠ .ms k i n
theorem za3 {q k:Nat} (h:k≠q) (i n:Nat):zbg (.ms q i n) k:=by
 intro i' n' he;cases he;exact h rfl
theorem zaF.off {h:Nat->Option O} {x:Nat} {v:V} {sz:Nat} {rows:List (List V)} (o:zaF h x v sz rows) {k:Nat} (hk:x<=k):zbg v k:=by
 rcases o with⟨rfl,_⟩ | ⟨k',rfl,h2,_⟩
 ·intro i n he;cases he
 ·exact za3 (by omega) _ _
theorem zav {h:Nat->Option O} {x q sz bytes:Nat} {u:V} {a:List (List V)} {r:List V} {K:V->List (Nat×O)->Prop} {w:WK K}
 (ho:zaF h x u sz a) (hx:x<=q) (Ac:a.length<2^32) (S4:bytes<=2^12) (hb:r.length=sz) (ha:(a.all fun r=>decide (r.length=sz))=true)
 (hK: ∀v hp,zaF (VI h hp) (q+1) v sz (a++[r])->(∀j,j<x->zbg v j)->(∀j,j<x->zbg u j->VI h hp j=h j)->K v hp):
 ziX false (zck h q sz bytes u a [r]) K w:=by
 unfold zck;rw[if_pos ⟨⟨by simp;omega,S4⟩,by simp[hb],ha⟩];simp only[List.isEmpty_cons,zG,if_false];rcases ho with⟨rfl,rfl⟩ | ⟨k,rfl,hk,hh⟩
 ·simp only[zcb];refine hK _ _ (.inr ⟨q,rfl,by omega,?_⟩) (fun j hj=>za3 (by omega) _ _) (fun j hj _=> ?_)
  ·simp[zaC,zaA,zaa]
  ·have:j≠q:=by omega
   simp[zaC,zaA,zaa,this]
 ·simp only[hh,and_self,if_true,zcb,zfP];refine hK _ [(k,.dead),(q,.rows sz (a++[r]) false)] (.inr ⟨q,by rw[zM],by omega,by simp[zaC,zaA,zaa]⟩) (fun j hj=>za3 (by omega) _ _) (fun j hj Az=> ?_);have h1:j≠q:=by omega
  have h2:j≠k:=by rintro rfl;exact Az 0 _ rfl
  simp[zaC,zaA,zaa,h1,h2]
theorem zaF.keep {h h':Nat->Option O} {x y:Nat} {v:V} {sz:Nat} {rows:List (List V)} (o:zaF h x v sz rows) (BW:x<=y) (hh: ∀k,k<x-> ¬zbg v k->h' k=h k):zaF h' y v sz rows:=by
 rcases o with o | ⟨k,rfl,h2,h3⟩
 ·exact .inl o
 ·exact .inr ⟨k,rfl,by omega,by rw[hh k h2 (fun h0=>h0 _ _ rfl)];exact h3⟩
end Rg
end
section
namespace Rg
open Go
theorem zdo {α:Type} {l:List α} {i:Nat} {x:α} (h:l[i]? =some x):l.drop i=x::l.drop (i+1):=by
 obtain⟨hi,rfl⟩:=zH.1 h;exact List.drop_eq_getElem_cons hi
end Rg
end
section
-- FULL
namespace Rg
open Go
end Rg
end
section
-- FULL
namespace Rg
open Go
end Rg
end
section
-- FULL
namespace Rg
open Go
end Rg
end
section
namespace Rg
open Go
end Rg
end
section
-- FULL
namespace Rg
open Go
end Rg
end
section
-- FULL
namespace Rg
open Go
end Rg
end
section
-- FULL
namespace Rg
open Go
theorem zjF (a b:ByteArray):(a==b)=(a.toList==b.toList):=by
 rw[ByteArray.toList_eq,ByteArray.toList_eq];show(a.data==b.data)=_;rw[Array.beq_toList]
@[go_sem]theorem zBI (b:ByteArray):zj1 2 (.t (.str b))=some (.str b):=rfl
@[go_sem]theorem zBJ (k:IntKind) (n:Int):zj1 0 (.t (.int k n))=some (.int k n):=rfl
theorem zaF.toT1 {h:Nat->Option O} {x:Nat} {v:V} {l:List Int} (o:zaF h x v 1 (zae l)):Rg.toT1 h v=some (.t (ints l)):=by
 have:=zcc o (zbP _);rcases o with⟨rfl,he⟩ | ⟨k,rfl,_,_⟩
 ·have:l=[]:=by simpa[zae]using he
  subst this;rfl
 ·simp only[Rg.toT1,this,Option.map_some]
end Rg
end
section
namespace Rg
open Go
inductive Nd where
 | mk (kind:Int) (name other:ByteArray) (n len init:Int) (ghost:Bool) (kids:List Nd) (pos:Int)
namespace Nd
def kind:Nd->Int | .mk a _ _ _ _ _ _ _ _=>a
def name:Nd->ByteArray | .mk _ a _ _ _ _ _ _ _=>a
def other:Nd->ByteArray | .mk _ _ a _ _ _ _ _ _=>a
def n:Nd->Int | .mk _ _ _ a _ _ _ _ _=>a
def len:Nd->Int | .mk _ _ _ _ a _ _ _ _=>a
def init:Nd->Int | .mk _ _ _ _ _ a _ _ _=>a
def ghost:Nd->Bool | .mk _ _ _ _ _ _ a _ _=>a
def kids:Nd->List Nd | .mk _ _ _ _ _ _ _ a _=>a
def pos:Nd->Int | .mk _ _ _ _ _ _ _ _ a=>a
mutual
def enc:Nd->List T
 | .mk a b c d e f g k p=>[ti a,.str b,.str c,ti d,ti e,ti f,tb g,.sl (encs k),ti p]
def encs:List Nd->List (List T)
 | []=>[]
 | e::r=>enc e::encs r
end
theorem encs_eq: ∀l:List Nd,encs l=l.map enc
 | []=>rfl
 | e::r=>by rw[encs,encs_eq r];rfl
theorem enc_eq (t:Nd):t.enc=[ti t.kind,.str t.name,.str t.other,ti t.n,ti t.len,ti t.init,tb t.ghost,.sl (t.kids.map enc),ti t.pos]:=by
 cases t;simp only[enc,encs_eq,kind,name,other,n,len,init,ghost,kids,pos]
mutual
def size:Nd->Nat
 | .mk _ _ _ _ _ _ _ k _=>sizes k+1
def sizes:List Nd->Nat
 | []=>0
 | e::r=>size e+sizes r
end
theorem sizes_eq: ∀l:List Nd,sizes l=(l.map size).sum
 | []=>rfl
 | e::r=>by rw[sizes,sizes_eq r];rfl
theorem size_eq (e:Nd):e.size=(e.kids.map size).sum+1:=by
 cases e;simp only[size,sizes_eq,kids]
theorem size_pos (e:Nd):0<e.size:=by rw[size_eq];omega
theorem zMC {k:Nd} {l:List Nd} (h:k∈l):k.size<=(l.map size).sum:=by
 induction l with
 | nil=>simp at h
 | cons x r ih=>
   simp only[List.map_cons,List.sum_cons];rcases List.mem_cons.1 h with rfl | h
   ·omega
   ·have:=ih h;omega
theorem size_kid {e k:Nd} (h:k∈e.kids):k.size<e.size:=by
 rw[size_eq e];have:=zMC h;omega
theorem ind {P:Nd->Prop} (h: ∀e:Nd,(∀k∈e.kids,P k)->P e): ∀e,P e:=by
 intro e
 generalize hn:e.size=n
 induction n using Nat.strongRecOn generalizing e with
 | _ n ih=>exact h e fun k hk=>ih k.size (by have:=size_kid hk;omega) k rfl
mutual
def flat:Nd->List Nd
 | .mk a b c d e f g k p=> .mk a b c d e f g k p::zMH k
def zMH:List Nd->List Nd
 | []=>[]
 | e::r=>flat e++zMH r
end
theorem zKJ: ∀l:List Nd,zMH l=l.flatMap flat
 | []=>rfl
 | e::r=>by rw[zMH,zKJ r];rfl
theorem flat_eq (e:Nd):e.flat=e::e.kids.flatMap flat:=by
 cases e;simp only[flat,zKJ,kids]
theorem flat_len (e:Nd):e.flat.length=e.size:=by
 induction e using Nd.ind with
 | _ e ih=>
   rw[flat_eq,size_eq,List.length_cons,List.length_flatMap,Nat.add_right_cancel_iff]
   congr 1
   exact List.map_congr_left fun k hk=>ih k hk
theorem flat_self (e:Nd):e∈e.flat:=by rw[flat_eq];simp
theorem zMI {e k x:Nd} (hk:k∈e.kids) (hx:x∈k.flat):x∈e.flat:=by
 rw[flat_eq];exact List.mem_cons_of_mem _ (List.mem_flatMap.2 ⟨k,hk,hx⟩)
structure okN (e:Nd):Prop where
 kind: -9223372036854775808<=e.kind/\e.kind<=9223372036854775807
 n: -9223372036854775808<=e.n/\e.n<=9223372036854775807
 len: -9223372036854775808<=e.len/\e.len<=9223372036854775807
 init: -9223372036854775808<=e.init/\e.init<=9223372036854775807
 pos: -9223372036854775808<=e.pos/\e.pos<=9223372036854775807
 name:e.name.size<=1048576
 other:e.other.size<=1048576
 kids:e.kids.length<=1048576
def sane (e:Nd):Prop:= ∀x∈e.flat,okN x
theorem sane.self {e:Nd} (h:e.sane):okN e:=h e (flat_self e)
theorem sane.kid {e k:Nd} (h:e.sane) (hk:k∈e.kids):k.sane:=fun x hx=>h x (zMI hk hx)
end Nd
@[go_sem]theorem zNx (a b:ByteArray):(a.toList==b.toList)=decide (a=b):=by
 rw[<- zjF]
 by_cases h:a=b
 ·subst h;rw[decide_eq_true rfl];rw[zjF];simp
 ·rw[decide_eq_false h];rw[zjF];refine beq_eq_false_iff_ne.2 fun he=>h ?_
  rw[ByteArray.toList_eq,ByteArray.toList_eq]at he;cases a;cases b;simp only[ByteArray.mk.injEq];exact Array.toList_inj.1 he
def Nd.noneN:Nd:=.mk 63 (bs []) (bs []) 0 0 0 false [] 0
theorem zJm:Den Γ G 631 []=some (.agg [.t (ti (Nd.noneN).kind),.t (.str (Nd.noneN).name),.t (.str (Nd.noneN).other),.t (ti (Nd.noneN).n),.t (ti (Nd.noneN).len),.t (ti (Nd.noneN).init),.t (tb (Nd.noneN).ghost),.t (.sl ((Nd.noneN).kids.map Nd.enc)),.t (ti (Nd.noneN).pos)]):=by
 (refine zag Γ631 rfl ?_;dsimp only[zOb])
 simp -dsimp -implicitDefEqProofs only[go_sem,seval];exact⟨rfl,rfl,rfl,rfl,rfl,rfl,rfl,rfl,rfl⟩
def zGC (t:Nd):Nd:=t.kids.headD .noneN
theorem zJO (t:Nd):Den Γ G 633 [(.agg [.t (ti (t).kind),.t (.str (t).name),.t (.str (t).other),.t (ti (t).n),.t (ti (t).len),.t (ti (t).init),.t (tb (t).ghost),.t (.sl ((t).kids.map Nd.enc)),.t (ti (t).pos)])]=some (.agg [.t (ti (zGC t).kind),.t (.str (zGC t).name),.t (.str (zGC t).other),.t (ti (zGC t).n),.t (ti (zGC t).len),.t (ti (zGC t).init),.t (tb (zGC t).ghost),.t (.sl ((zGC t).kids.map Nd.enc)),.t (ti (zGC t).pos)]):=by
 (refine zag Γ633 rfl ?_;dsimp only[zN9])
 by_cases hk:t.kids.length=0
 ·have h0:=zJm;have h1:((t.kids.length:Int)=0)=True:=eq_true (by omega);simp -dsimp -implicitDefEqProofs only[go_sem,seval,h1,h0];simp[zGC,List.length_eq_zero_iff.1 hk]
 ·have h1:((t.kids.length:Int)=0)=False:=eq_false (by omega)
  obtain⟨a,r,he⟩: ∃a r,t.kids=a::r:=by
   cases h:t.kids with
   | nil=>rw[h]at hk;simp at hk
   | cons a r=>exact⟨a,r,rfl⟩
  have Bj:(t.kids.map Nd.enc)[0]? =some a.enc:=by rw[he];rfl
  simp -dsimp -implicitDefEqProofs only[go_sem,seval,h1,Bj,Nd.enc_eq];simp[zGC,he]
theorem zIh (n:Int):Den Γ G 634 [vi n]=some (vb (decide (1<=n/\n<=8))):=by
 (refine zag Γ634 rfl ?_;dsimp only[zN8])
 by_cases h1:n>=1
 ·have h2:=eq_true h1;simp -dsimp -implicitDefEqProofs only[go_sem,seval,h2]
 ·have h2:=eq_false h1;have h3:(1<=n)=False:=eq_false (by omega);simp -dsimp -implicitDefEqProofs only[go_sem,seval,h2];simp[h3]
def zhA (n w:Int):Bool:=decide (0<=n/\n<2^w.toNat)
theorem zJo (n w:Int) (h0:0<=w) (h8:w<=8):Den Γ G 626 [vi n,vi w]=some (vb (zhA n w)):=by
 (refine zag Γ626 rfl ?_;dsimp only[zOe])
 obtain⟨k,rfl⟩: ∃k:Nat,w=k:=⟨w.toNat,by omega⟩
 have hk:k<=8:=by omega
 have e1:IntKind.u64.wrap (k:Int)=k:=by
  have h1:IntKind.u64.wrap (k:Int)=(k:Int) % 2^64:=by simp[IntKind.wrap,IntKind.signed,IntKind.bits]
  rw[h1];omega
 have e2:((k:Int)<0)=False:=eq_false (by omega)
 have e3:IntKind.i64.wrap (1*2^min k 64)=((2^k:Nat):Int):=by
  have Ev:(2:Nat)^k<=2^8:=Nat.pow_le_pow_right (by omega) hk
  have h4:(1*2^min k 64:Int)=((2^k:Nat):Int):=by
   rw[Nat.min_eq_left (by omega)];push_cast;omega
  rw[h4]
  generalize(2:Nat)^k=q at Ev⊢
  exact zaH (by omega)
 by_cases h1:n>=0
 ·have h2:=eq_true h1;simp -dsimp -implicitDefEqProofs only[go_sem,seval,h2,e1,e2,e3];simp[zhA,h1]
 ·have h2:=eq_false h1;simp -dsimp -implicitDefEqProofs only[go_sem,seval,h2];simp[zhA];omega
def zN:List V:=[.t (ti 0),.t (.str (bs [])),.t (.str (bs [])),.t (ti 0),.t (ti 0),.t (ti 0),.t (tb false),.t .nils,.t (ti 0)]
def zGj (t:Nd) (k:Int):Nd:=(t.kids.find? fun x=>decide (x.kind=k)).getD .noneN
def zGo (t:Nd) (k:Int):List Nd:=t.kids.filter fun x=>decide (x.kind=k)
theorem zKq (t:Nd) (k:Int) (hl:t.kids.length<2^40):Den Γ G 635 [(.agg [.t (ti (t).kind),.t (.str (t).name),.t (.str (t).other),.t (ti (t).n),.t (ti (t).len),.t (ti (t).init),.t (tb (t).ghost),.t (.sl ((t).kids.map Nd.enc)),.t (ti (t).pos)]),vi k]=some (.agg [.t (ti (zGj t k).kind),.t (.str (zGj t k).name),.t (.str (zGj t k).other),.t (ti (zGj t k).n),.t (ti (zGj t k).len),.t (ti (zGj t k).init),.t (tb (zGj t k).ghost),.t (.sl ((zGj t k).kids.map Nd.enc)),.t (ti (zGj t k).pos)]):=by
 (refine zag Γ635 rfl ?_;dsimp only[zN7])
 simp -dsimp -implicitDefEqProofs only[go_sem,seval];refine zaT 1047632 t.kids.length (fun i f=>(f 10).v=vi i/\(f 4).v= .lb/\(f 4).box=some zN/\zGj t k=((t.kids.drop i).find? fun x=>decide (x.kind=k)).getD .noneN) rfl rfl ⟨by simp -dsimp -implicitDefEqProofs only[go_sem,seval],by simp -dsimp -implicitDefEqProofs only[go_sem,seval],by simp -dsimp -implicitDefEqProofs only[go_sem,seval];rfl,rfl⟩ ?_;rintro i f u x b hi ⟨g,g4,gb,hM⟩;unfold zN at gb
 by_cases AV:i<t.kids.length
 ·have h1:=eq_true AV;obtain⟨a,ha,Cp⟩:=zai AV;have hw:=zan i (by omega);have Bj:(t.kids.map Nd.enc)[i]? =some a.enc:=by rw[zJ,ha];rfl
  rw[zdo ha,List.find?_cons]at hM
  by_cases hk:a.kind=k
  ·have AT:=eq_true hk;simp only[AT,decide_true]at hM;simp -dsimp -implicitDefEqProofs only[go_sem,seval,g,g4,gb,h1,Bj,Nd.enc_eq,AT];rw[hM];simp
  ·have AT:=eq_false hk;simp only[AT,decide_false]at hM;simp -dsimp -implicitDefEqProofs only[go_sem,seval,g,g4,gb,h1,Bj,Nd.enc_eq,AT,hw];exact⟨AV,by simp -dsimp -implicitDefEqProofs only[go_sem,seval],by simp -dsimp -implicitDefEqProofs only[go_sem,seval,g4],by simp -dsimp -implicitDefEqProofs only[go_sem,seval,gb];rfl,hM⟩
 ·have h1:=eq_false AV;have:i=t.kids.length:=by omega
  subst this;have h0:=zJm;rw[List.drop_length]at hM;simp -dsimp -implicitDefEqProofs only[go_sem,seval,g,g4,gb,h1,h0];rw[hM];simp
end Rg
end
section
set_option maxRecDepth 100000
namespace Go.Proofs.YtmgalfhaeddfbaaDoor
open Go Rg Go.ChangeShapes Go.WideShapes Go.ChangeAt Go.WideMaps Go.WideElems Go.RowKit
theorem own:ownKnob Tryd.prog.godebug=none:=by kernel_rfl
theorem zwP:laidOutB Tryd.prog=true:=by kernel_rfl
abbrev zsj:List (String×DataW Unit):=Rows.resolveDeclaredUptoRow.laid
def zPe (W:World) (m:Int):Prop:=W.cell? ⟨1,0,none⟩=some (.int .i64 m)/\1<W.heap.size/\ ∃e,W.shape? 1=some (e,1)
theorem zw0 {W:World} {m:Int} (h:laidMetH Tryd.prog zsj W) (hm:zPe W m):zpW (Seat.N m) (fun r=>r<W.heap.size) W:=by
 intro k j x hx
 match k,hx with
 | 0,hx=>exact(by have h0:([]:List T)[j]? =some x:=hx;rw[List.getElem?_nil]at h0;cases h0)
 | 1,hx=>exact(by have h0:([]:List T)[j]? =some x:=hx;rw[List.getElem?_nil]at h0;cases h0)
 | 2, hx => exact zpt (nm := "internal/strconv.uint64pow10") (g := 0) (k := 2) (t := 149) (e := 131) (ls := [.int .u64 1, .int .u64 10, .int .u64 100, .int .u64 1000, .int .u64 10000, .int .u64 100000, .int .u64 1000000, .int .u64 10000000, .int .u64 100000000, .int .u64 1000000000, .int .u64 10000000000, .int .u64 100000000000, .int .u64 1000000000000, .int .u64 10000000000000, .int .u64 100000000000000, .int .u64 1000000000000000, .int .u64 10000000000000000, .int .u64 100000000000000000, .int .u64 1000000000000000000, .int .u64 10000000000000000000]) (by kernel_rfl) h (zL (i := 2) rfl) (by kernel_rfl) (by kernel_rfl) (by kernel_rfl) (.inr ⟨.u64, by kernel_rfl⟩) (by kernel_rfl) (by kernel_rfl) rfl rfl j x hx
 | 3,hx=>
   have h0:([.int .i64 m]:List T)[j]? =some x:=hx
   match j,h0 with
   | 0,h0=>
     obtain rfl:T.int .i64 m=x:=Option.some.inj h0
     exact⟨hm.2.1,hm.2.2,_,hm.1,.int .i64 m⟩
   | j+1,h0=>simp at h0
 | k+4,hx=>exact(by have h0:([]:List T)[j]? =some x:=hx;rw[List.getElem?_nil]at h0;cases h0)
theorem inv {m:Int}:Seat.I.Ok (Seat.N m):=by
 refine⟨fun f k h=> ?_,fun q k h=> ?_,fun t h=>(by cases h),fun k t h=> ?_⟩
 ·obtain⟨Ad,he,_⟩:=List.findIdx?_eq_some_iff_getElem.1 h;have h1:(Seat.N m).nm k=Seat.tbl.getD k 0:=if_pos (Nat.lt_trans Ad (by decide+kernel));rw[h1,zK,zI Ad];simpa using he
 ·have h:(if q=0 then some 2 else none:Option Nat)=some k:=h;split at h
  ·cases h;rename_i hq;exact⟨hq.symm,(by intro h;cases h),rfl⟩
  ·cases h
 ·have h:(k,t)∈[(20001,89),(20002,3)]:=h;simp only[List.mem_cons,List.not_mem_nil,or_false,Prod.mk.injEq]at h;rcases h with⟨rfl,rfl⟩ | ⟨rfl,rfl⟩<;>rfl
theorem zBf {m:Int}:ztu Tryd.prog Seat.I (Seat.N m) Rg.Γ:=fun g fn h=>Seat.all (g,fn) (zkG h)
theorem zwD {m:Int} {g:Nat} {av:List V} {r:V} (h:Den Rg.Γ Rg.G g av=some r):zjO Tryd.prog (Seat.N m) g av r:=
 zte inv zBf (by kernel_rfl) (fun _ _ _=>Iff.rfl) (zhC.1 h)
theorem zNa {W:World} (h:W.ShapedOpen Tryd.prog): ∃m,zPe W m:=by
 obtain⟨m,hm⟩:=Tryd.laysM145.s1_3 W h;obtain⟨cs,hh,hs,_⟩:=h.1 1 #[.int .i64 0] 3 (of_decide_eq_true (by kernel_rfl)) (by kernel_rfl);exact⟨m,hm,(Array.getElem?_eq_some_iff.1 hh).1,3,by simp[World.shape?,hh,hs]⟩
theorem zNp:zc3 Tryd.prog 3 .i64=true:=by kernel_rfl
theorem zO9:zfx Tryd.prog 4=true:=by kernel_rfl
theorem zNT:zii Tryd.prog 9=true:=by kernel_rfl
theorem zO8:zfl Tryd.prog 22 24=true:=by kernel_rfl
theorem zO7:isSt Tryd.prog 24 9 [(3,0),(9,1),(9,2),(3,3),(3,4),(3,5),(4,6),(22,7),(3,8)]=true:=by kernel_rfl
section
variable {H:Type} {enc:TypeId×Value->H} {W:World} {nm:Nat->Nat}
theorem zJG (n:Nat):RdL enc Tryd.prog W nm n 3 (fun i:Int=>[ti i]) (fun i=> -9223372036854775808<=i/\i<=9223372036854775807):=
 (zPi zNp n).conv fun i h=>⟨i,by simp[Lit.wf,IntKind.min,IntKind.max,IntKind.signed,IntKind.bits]at h;omega,rfl⟩
theorem zOC (n:Nat):RdL enc Tryd.prog W nm n 24 Nd.enc Nd.sane:=by
 induction n using Nat.strongRecOn with
 | _ n ih=>
   refine(zOA zO7 n fun m hm=>zG2 (zc3.c zNp) (zJG m) (zG2 (zii.c zNT) (zPa zNT m) (zG2 (zii.c zNT) (zPa zNT m) (zG2 (zc3.c zNp) (zJG m) (zG2 (zc3.c zNp) (zJG m) (zG2 (zc3.c zNp) (zJG m)
    (zG2 (zfx.c zO9) (zPj zO9 m) (zG2 (zfl.c zO8) (zOB zO8 m fun j hj=>ih j (by omega)) (zG2 (zc3.c zNp) (zJG m) zM3))))))))).conv ?_
   rintro⟨a,b,c,d,e,f,g,k,p,_⟩ ⟨ha,hb,hc,hd,he,hf,_,⟨hk,Dn⟩,hp,_⟩;refine⟨.mk a b c d e f g k p,fun x hx=> ?_,by simp[Nd.enc_eq,Nd.kind,Nd.name,Nd.other,Nd.n,Nd.len,Nd.init,Nd.ghost,Nd.kids,Nd.pos]⟩;rw[Nd.flat_eq]at hx;rcases List.mem_cons.1 hx with rfl | hx
   ·exact⟨ha,hd,he,hf,hp,hb,hc,hk⟩
   ·obtain⟨y,hy,hx⟩:=List.mem_flatMap.1 hx;exact Dn y hy x hx
end
mutual
theorem zJv {H:Type}: ∀d:DataW H,Rows.uptoBulk d=blk d
 | .lit l=>by cases l<;>rfl
 | .nil=>rfl
 | .ptr d=>by rw[Rows.uptoBulk,blk,zJv d]
 | .slice e s=>by rw[Rows.uptoBulk,blk,zHR e,zHR s]
 | .agg p=>by rw[Rows.uptoBulk,blk,zHR p]
 | .iface _ d=>by rw[Rows.uptoBulk,blk,zJv d]
 | .map e=>by rw[Rows.uptoBulk,blk,zKP e]
 | .held _=>rfl
theorem zHR {H:Type}: ∀l:List (DataW H),Rows.uptoBulkAll l=zMp l
 | []=>rfl
 | d::r=>by rw[Rows.uptoBulkAll,zMp,zJv d,zHR r]
theorem zKP {H:Type}: ∀l:List (Lit×DataW H),Rows.uptoBulkEntries l=zOw l
 | []=>rfl
 | x::r=>by rw[Rows.uptoBulkEntries,zOw,zMO x,zKP r]
theorem zMO {H:Type}: ∀x:Lit×DataW H,Rows.uptoBulkEntry x=zO2 x
 | (l,d)=>by cases l<;>simp only[Rows.uptoBulkEntry,zO2,zJv d]
end
theorem zOZ {H:Type} {l:List (DataW H)} (hk:Rows.uptoSmall H l=true) {d:DataW H} (hd:d∈l):blk d<=1048576:=by
 have h:Rows.uptoBulkAll l<=1048576:=of_decide_eq_true hk;rw[zHR]at h;exact Nat.le_trans (zKz hd) h
theorem zu7 (os:Os) (args:Array Value):laidMetH Tryd.prog zsj ((World.doorLaid Tryd.prog 400 os).forCall (fun _ _=>0) ⟨#[],args,[]⟩).memory:=
 laidMetH_of_parts3 (fuel:=8) (laidMet_of_run' 8 (by kernel_rfl) (by kernel_rfl)) (by kernel_rfl) (by kernel_rfl)
end Go.Proofs.YtmgalfhaeddfbaaDoor
end
section
namespace Rg
open Go
abbrev zGk (l:List (List T)):List (List V):=l.map (·.map V.t)
theorem zG9 (e:Nd): ∀t∈e.enc,T.norm t=t:=by
 rw[Nd.enc_eq];intro t ht;simp only[List.mem_cons,List.not_mem_nil,or_false]at ht;rcases ht with rfl | rfl | rfl | rfl | rfl | rfl | rfl | rfl | rfl<;>rfl
theorem zIz (l:List Nd): ∀e∈l.map Nd.enc,∀t∈e,T.norm t=t:=by
 intro e he;obtain⟨n,_,rfl⟩:=List.mem_map.1 he;exact zG9 n
theorem zGz (e:Nd):e.enc.length=9:=by rw[Nd.enc_eq];rfl
theorem zHb (l:List Nd):((zGk (l.map Nd.enc)).all fun r=>decide (r.length=9))=true:=by
 rw[List.all_eq_true];intro r hr;simp only[zGk,List.mem_map]at hr;obtain⟨_,⟨e,_,rfl⟩,rfl⟩:=hr;simp[zGz]
theorem zIy {α:Type} (p:α->Bool) {l:List α} {i:Nat} {a:α} (ha:l[i]? =some a):(l.take (i+1)).filter p=(l.take i).filter p++(if p a then [a]else []):=by
 rw[zaf ha,List.filter_append];cases h:p a<;>simp[h]
theorem zHt (t:Nd) (k:Int) (hl:t.kids.length<2^31):Den Γ G 620 [(.agg [.t (ti (t).kind),.t (.str (t).name),.t (.str (t).other),.t (ti (t).n),.t (ti (t).len),.t (ti (t).init),.t (tb (t).ghost),.t (.sl ((t).kids.map Nd.enc)),.t (ti (t).pos)]),vi k]=some (.t (.sl ((zGo t k).map Nd.enc))):=by
 (refine zag Γ620 rfl ?_;dsimp only[zOk])
 simp -dsimp -implicitDefEqProofs only[go_sem,seval];refine zaq 16775328 t.kids.length (fun i f h x=>(f 11).v=vi i/\zaF h x (f 5).v 9 (zGk (((t.kids.take i).filter fun x=>decide (x.kind=k)).map Nd.enc))) rfl ⟨by simp -dsimp -implicitDefEqProofs only[go_sem,seval],.inl ⟨by simp -dsimp -implicitDefEqProofs only[go_sem,seval],rfl⟩⟩ ?_;rintro i f u h x b hi ⟨g,hO⟩
 by_cases AV:i<t.kids.length
 ·have h1:=eq_true AV;obtain⟨a,ha,Cp⟩:=zai AV;have hw:=zan i (by omega);have Bj:(t.kids.map Nd.enc)[i]? =some a.enc:=by rw[zJ,ha];rfl
  have CW:=zIy (fun x:Nd=>decide (x.kind=k)) ha
  by_cases hk:a.kind=k
  ·have AT:=eq_true hk;simp only[AT,decide_true,if_true]at CW;have v1:=hO.valOf;have v2:=hO.r2;have v3:=hO.r3;have v4:=hO.r4;simp -dsimp -implicitDefEqProofs only[go_sem,seval,g,h1,Bj,Nd.enc_eq,AT,v1,v2,v3,v4]
   refine zav (hO.upd (by omega) _) (by omega) (by
    simp only[zGk,List.length_map]
    exact Nat.lt_of_le_of_lt (Nat.le_trans (List.length_filter_le _ _) (List.length_take_le _ _)) (by omega)) (by decide) rfl (zHb _) ?_
   intro v hp hP Bp Aq;have z1:=hP.valOf;simp -dsimp -implicitDefEqProofs only[go_sem,seval,z1,g,hw];refine⟨AV,by simp -dsimp -implicitDefEqProofs only[go_sem,seval],?_⟩;simp -dsimp -implicitDefEqProofs only[go_sem,seval];rw[CW,List.map_append,zGk,List.map_append];refine zaF.le (x:= ?_) (by simpa[Nd.enc_eq]using hP) ?_;omega
  ·have AT:=eq_false hk;simp only[AT,decide_false,zG,if_false,List.append_nil]at CW;simp -dsimp -implicitDefEqProofs only[go_sem,seval,g,h1,Bj,Nd.enc_eq,AT,hw];refine⟨AV,by simp -dsimp -implicitDefEqProofs only[go_sem,seval],?_⟩;simp -dsimp -implicitDefEqProofs only[go_sem,seval];rw[CW];refine hO.le ?_
   (try simp -dsimp -implicitDefEqProofs only[go_sem,seval]);(try omega)
 ·have h1:=eq_false AV;have:i=t.kids.length:=by omega
  subst this;rw[List.take_length]at hO;have v1:=hO.valOf;have v2:=hO.reify (zIz _);have v3:=hO.resVal;simp only[Rg.resVal]at v3;simp -dsimp -implicitDefEqProofs only[go_sem,seval,g,h1,v1,v3];exact v2
end Rg
end
section
namespace Rg
open Go
noncomputable def envC:(Nat->Slot)->Nat->V:=(Classical.choice (⟨⟨fun sl t=>(sl t).v,rfl⟩⟩:Nonempty {g:(Nat->Slot)->Nat->V// g=fun sl t=>(sl t).v})).1
theorem zsV:envC=fun sl t=>(sl t).v:=(Classical.choice (⟨⟨fun sl t=>(sl t).v,rfl⟩⟩:Nonempty {g:(Nat->Slot)->Nat->V// g=fun sl t=>(sl t).v})).2
@[go_sem ↓]theorem zBO (sl:Nat->Slot) (t:Nat):envC sl t=(sl t).v:=by rw[zsV]
@[go_sem ↓]theorem zzA (f:Nat->V) (i j:Nat) (v:V):updC f i v j=pk (j==i) v (f j) ⟨0⟩:=by rw[zaL,zql];rfl
def zrK (env:Nat->V) (ps:List Nat) (vs:List V):Nat->Slot:=fun t=>⟨zhB env ps vs t,none,none⟩
noncomputable def rndS:(Nat->V)->List Nat->List V->Nat->Slot:=(Classical.choice (⟨⟨zrK,rfl⟩⟩:Nonempty {g:(Nat->V)->List Nat->List V->Nat->Slot// g=zrK})).1
theorem znO:rndS=zrK:=(Classical.choice (⟨⟨zrK,rfl⟩⟩:Nonempty {g:(Nat->V)->List Nat->List V->Nat->Slot// g=zrK})).2
@[go_sem ↓]theorem zzE (env:Nat->V) (t:Nat):(rndS env [] [] t).v=env t:=by rw[znO];rfl
@[go_sem ↓]theorem zyg (env:Nat->V) (p:Nat) (ps:List Nat) (v:V) (vs:List V) (t:Nat):(rndS env (p::ps) (v::vs) t).v=(rndS (updC env p v) ps vs t).v:=by rw[znO,zaL];rfl
section
variable {Γ:Nat->Option F} {G:Nat->List T}
def zBm (o:Option (V×(Nat->Option O)×Nat)) (k:Nat) (K:Ex->(Nat->Option O)->Nat->Prop) (_:WK K):Prop:=
 ∃r h' n',o=some (r,h',n')/\ ∃env ps bd st e,h' k=some (.loop env ps bd st)/\st.ends=some e/\K e (updC h' k (some .dead)) n'
@[go_sem ↓]theorem zAZ (x:Opd) (ps:List Nat) (bd:C) (Q:Ex->M->Prop) (sl:Nat->Slot) (u:Nat->Bool) (h:Nat->Option O) (n b:Nat) (w:W3 (.rangeF x ps bd) Q ⟨sl,u,h,n,b⟩):
 wC Γ G (.rangeF x ps bd) Q ⟨sl,u,h,n,b⟩ w=fnK (zaW G sl x) (fun g a c=>zBm (DenR Γ G g (a++[V.yl n]++c) (updC h n (some (.loop (envC sl) ps bd .ready))) (n+1)) n (fun e h' n'=>Q e ⟨sl,u,h',n',b⟩) ⟨0⟩) ⟨0⟩:=by
 unfold wC;rw[zbS,zaL,zsV];simp only[wpC,za2]
 cases zaW G sl x with
 | none=>rfl
 | some v=>
   simp only[zD,fnK]
   cases zfC v with
   | none=>rfl
   | some q=>
     obtain⟨g,a,c⟩:=q;simp only[zBm,zaL];apply propext;constructor
     ·rintro⟨r,h',n',hc,_,env',ps',bd',st,e,hl,he,hQ⟩;exact⟨r,h',n',zcI.2 hc,env',ps',bd',st,e,hl,he,hQ⟩
     ·rintro⟨r,h',n',hc,env',ps',bd',st,e,hl,he,hQ⟩;exact⟨r,h',n',zcI.1 hc,zxp (zcI.1 hc),env',ps',bd',st,e,hl,he,hQ⟩
theorem znN {o:Option (V×(Nat->Option O)×Nat)} {k:Nat} {K:Ex->(Nat->Option O)->Nat->Prop} {w:WK K} {P:Ex->(Nat->Option O)->Nat->Prop}
 (h: ∃r h' n',o=some (r,h',n')/\ ∃env ps bd st e,h' k=some (.loop env ps bd st)/\st.ends=some e/\P e h' n') (hk: ∀e h' n',P e h' n'->K e (updC h' k (some .dead)) n'):zBm o k K w:=by
 obtain⟨r,h',n',e1,env,ps,bd,st,e,e2,e3,hp⟩:=h;exact⟨r,h',n',e1,env,ps,bd,st,e,e2,e3,hk e h' n' hp⟩
def FiY (P:Ex->(Nat->Option O)->Nat->Prop) (e:Ex) (m:M):Prop:=P e m.heap m.nxt
@[go_sem ↓]theorem zCV (P:Ex->(Nat->Option O)->Nat->Prop) (e:Ex) (sl:Nat->Slot) (u:Nat->Bool) (h:Nat->Option O) (n b:Nat):FiY P e ⟨sl,u,h,n,b⟩=SpN (P e h n) ⟨0⟩:=rfl
def zy2 (o:Option O) (K:(Nat->V)->List Nat->C->Prop) (_:WK K):Prop:=match o with
 | some (.loop env ps bd .enter)=>K env ps bd
 | _=>False
@[go_sem]theorem zy1 (env:Nat->V) (ps:List Nat) (bd:C) (K:(Nat->V)->List Nat->C->Prop) (w:WK K):zy2 (some (.loop env ps bd .enter)) K w=K env ps bd:=rfl
variable (Γ G) in
def FiA (k:Nat) (cb:C) (Q:Ex->M->Prop):Ex->M->Prop
 | .normal,m=>zy2 (m.heap k) (fun env ps bd=>wC Γ G cb Q ⟨m.sl,m.used,updC m.heap k (some (.loop env ps bd .busy)),m.nxt,m.bas⟩ ⟨0⟩) ⟨0⟩
 | _,_=>False
@[go_sem ↓]theorem zCW (k:Nat) (cb:C) (Q:Ex->M->Prop) (sl:Nat->Slot) (u:Nat->Bool) (h:Nat->Option O) (n b:Nat):
 FiA Γ G k cb Q .normal ⟨sl,u,h,n,b⟩=zy2 (h k) (fun env ps bd=>wC Γ G cb Q ⟨sl,u,updC h k (some (.loop env ps bd .busy)),n,b⟩ ⟨0⟩) ⟨0⟩:=rfl
theorem zjy {k:Nat} {vs:List V} {h:Nat->Option O} {n:Nat} {env:Nat->V} {ps:List Nat} {ca cb:C} {P:Ex->(Nat->Option O)->Nat->Prop} (hk:h k=some (.loop env ps (.round ca cb) .ready)) (hl:vs.length=ps.length)
 (hb: ∀e h' n',P e h' n'-> ∃env' ps' bd',h' k=some (.loop env' ps' bd' .busy))
 (hw:wC Γ G ca (qOf Γ G [] (FiA Γ G k cb (qOf Γ G [] (FiY P)))) ⟨rndS env ps vs,fun _=>false,updC h k (some (.loop env ps (.round ca cb) .enter)),n,n⟩ ⟨0⟩):
 ∃e h' n',P e h' n'/\ ∃env' ps' bd',h' k=some (.loop env' ps' bd' .busy)/\DenY Γ G k vs h n=some (.t (.bool (decide (e=Ex.normal))),updC h' k (some (.loop env' ps' bd' e.toL)),n'):=by
 unfold wC at hw;rw[zbS,zcz,znO,zaL]at hw;obtain⟨e0,m1,hA,hF⟩:=zq7 hw
 cases e0 with
 | exit id=>exact hF.elim
 | ret=>exact hF.elim
 | normal=>
   have K2:zy2 (m1.heap k) (fun env ps bd=>wC Γ G cb (zqi Γ G [] (FiY P)) ⟨m1.sl,m1.used,updC m1.heap k (some (.loop env ps bd .busy)),m1.nxt,m1.bas⟩ ⟨0⟩) ⟨0⟩:=by
    exact hF
   unfold zy2 at K2;split at K2
   ·rename_i env1 ps1 bd1 AT;unfold wC at K2;rw[zbS,zaL]at K2;obtain⟨e,m',hB,hP⟩:=zq7 K2;obtain⟨env',ps',bd',Ah⟩:=hb _ _ _ hP;refine⟨e,m'.heap,m'.nxt,hP,env',ps',bd',Ah,zlM.2 ⟨env,ps,ca,cb,m1.st,env1,ps1,bd1,env',ps',bd',e,m'.st,hk,hl,hA,AT,hB,Ah,rfl,by rw[zaL];rfl,rfl⟩⟩
   ·exact K2.elim
end
end Rg
end
section
namespace Rg
open Go
def zIL (v:V):Prop:=(∃k i o,v= .mp k i o)\/ ∃cs,v= .t (.ip cs)
theorem zIL.vl {v:V} (h:zIL v):valOf v=some v:=by
 rcases h with⟨k,i,o,rfl⟩ | ⟨cs,rfl⟩<;>rfl
theorem zIL.cl {v:V} (h:zIL v):V.cells v=some [v]:=by
 rcases h with⟨k,i,o,rfl⟩ | ⟨cs,rfl⟩<;>rfl
def zNo (h:Nat->Option O) (p:V) (qs:List V):Prop:=
 ∃p1 p2 vs,zBw h p=some p1/\zsM h 7 p1=some p2/\zuA h false 1 p2=some vs/\lenS h vs=some qs.length/\valOf p1=some p1/\valOf p2=some p2/\valOf vs=some vs/\ ∀(i:Nat) (q:V),qs[i]? =some q->zlx h 9 i vs=some q/\zIL q
def PS (h:Nat->Option O) (x ky lo:Nat) (F:Nat->Prop) (v:V) (ps:List V):Prop:=
 ∃kw rest,v= .ms kw 0 ps.length/\lo<=kw/\kw<x/\h kw=some (.rows 1 (ps.map (fun p=>[p])++rest) false)/\ ¬F kw/\kw≠ky
theorem zLE {h:Nat->Option O} {x q ky lo:Nat} {F:Nat->Prop} {v p:V} {ps:List V} {K:V->List (Nat×O)->Prop} {w:WK K} (hv:PS h x ky lo F v ps) (hx:x<=q) (hl:ps.length<2^30) (hy:ky<x) (hF: ∀j,F j->j<x)
 (hK: ∀v' hp,PS (VI h hp) (q+1) ky lo F v' (ps++[p])->(∀j,j<x->F j\/j=ky->VI h hp j=h j)->(∀j,j<lo->VI h hp j=h j)->K v' hp):ziX false (zck h q 1 8 v (ps.map fun p=>[p]) [[p]]) K w:=by
 unfold zck;rw[if_pos ⟨⟨by simp;omega,by decide⟩,by simp,by simp⟩];obtain⟨k,rest,rfl,Ef,hk,hh,hn,Tq⟩:=hv;simp only[List.isEmpty_cons,hh,zG,if_false,and_self,if_true,zcb]
 have Oo: ∃rest',zbU (ps.map fun p=>[p]) [[p]] ((ps.map fun p=>[p])++rest)=(ps++[p]).map (fun p=>[p])++rest':=by
  unfold zbU;split
  ·exact⟨[],by simp⟩
  ·exact⟨_,by rw[List.map_append];rfl⟩
 obtain⟨rest',Oo⟩:=Oo;have Nn:q≠k:=by omega
 refine hK _ _ ⟨q,rest',?_,by omega,by omega,?_,fun h=>by have:=hF q h;omega,by omega⟩ (fun j hj hf=> ?_) (fun j hj=> ?_)
 ·simp
 ·rw[Oo];simp[zaC,zaA,zaa]
 ·have h1:j≠k:=by
   rintro rfl;rcases hf with hf | hf
   ·exact hn hf
   ·exact Tq hf
  have h2:j≠q:=by omega
  simp[zaC,zaA,zaa,h1,h2]
 ·have h1:j≠k:=by omega
  have h2:j≠q:=by omega
  simp[zaC,zaA,zaa,h1,h2]
theorem PS.vl {h:Nat->Option O} {x ky lo:Nat} {F:Nat->Prop} {v:V} {ps:List V} (o:PS h x ky lo F v ps):valOf v=some v:=by obtain⟨k,rest,rfl,_⟩:=o;rfl
theorem PS.upd {h:Nat->Option O} {x ky lo:Nat} {F:Nat->Prop} {v:V} {ps:List V} (o:PS h x ky lo F v ps) {q:Nat} (hq:x<=q) (b:Option O):PS (updC h q b) (q+1) ky lo F v ps:=by
 obtain⟨k,rest,h1,h2,h3,h4,h5⟩:=o;exact⟨k,rest,h1,h2,by omega,by rw[zaa,if_neg (by omega)];exact h4,h5⟩
theorem PS.rowsS {h:Nat->Option O} {x ky lo:Nat} {F:Nat->Prop} {v:V} {ps:List V} (o:PS h x ky lo F v ps):Rg.rowsS h v=some (ps.map fun p=>[p]):=by
 obtain⟨k,rest,rfl,_,_,h3,_⟩:=o;unfold Rg.rowsS;simp only[h3,rd,Nat.zero_add,List.drop_zero];rw[if_pos (by simp),List.take_append_of_le_length (by simp),List.take_of_length_le (by simp)]
theorem PS.r1 {h:Nat->Option O} {x ky lo:Nat} {F:Nat->Prop} {v:V} {ps:List V} (o:PS h x ky lo F v ps) (a:Nat) (b:Option O):Rg.rowsS (updC h (x+a) b) v=some (ps.map fun p=>[p]):=(o.upd (by omega) b).rowsS
theorem PS.r2 {h:Nat->Option O} {x ky lo:Nat} {F:Nat->Prop} {v:V} {ps:List V} (o:PS h x ky lo F v ps) (a c:Nat) (b:Option O):Rg.rowsS (updC h (x+a+c) b) v=some (ps.map fun p=>[p]):=(o.upd (by omega) b).rowsS
theorem PS.le {h:Nat->Option O} {x y ky lo:Nat} {F:Nat->Prop} {v:V} {ps:List V} (o:PS h x ky lo F v ps) (BW:x<=y):PS h y ky lo F v ps:=by
 obtain⟨k,rest,h1,h2,h3,h4,h5⟩:=o;exact⟨k,rest,h1,h2,by omega,h4,h5⟩
abbrev zIW (W:List (V×Nd)):Nat:=(W.map fun a=>a.2.size).sum
theorem zHE (a b:List (V×Nd)):zIW (a++b)=zIW a+zIW b:=by simp[zIW]
theorem zJe (a:List (V×Nd)):zIW a.reverse=zIW a:=by simp[zIW,List.map_reverse,List.sum_reverse]
theorem zIc: ∀(qs:List V) (ks:List Nd),qs.length=ks.length->zIW (qs.zip ks)=(ks.map Nd.size).sum
 | [],[],_=>rfl
 | q::qs,k::ks,h=>by
   have:=zIc qs ks (by simpa using h);simp only[zIW,List.zip_cons_cons,List.map_cons,List.sum_cons]at this⊢
   omega
 | [],_::_,h=>by simp at h
 | _::_,[],h=>by simp at h
theorem zLx {α:Type} (l:List α):l=[]\/ ∃(r:List α) (a:α),l=r++[a]:=by
 cases h:l.reverse with
 | nil=>exact .inl (by simpa using h)
 | cons a r=>exact .inr ⟨r.reverse,a,by rw[<- List.reverse_reverse l,h];simp⟩
theorem zJ4 {α β:Type}: ∀(a:List α) (b:List β),a.length=b.length->(a.zip b).map (·.1)=a
 | [],[],_=>rfl
 | x::a,y::b,h=>by rw[List.zip_cons_cons,List.map_cons,zJ4 a b (by simpa using h)]
 | [],_::_,h=>by simp at h
 | _::_,[],h=>by simp at h
theorem zLK {I:List (V×Nd)->(Nat->Prop)->(Nat->Option O)->Nat->Prop} {ky kr nx:Nat} {H:Nat->Option O} {env:Nat->V} {sl:Nat} {bd:C} {p0:V} {t0:Nd} {F0:Nat->Prop}
 (AE: ∀W F h x h' x',I W F h x->x<=x'->(∀j,F j->h' j=h j)->I W F h' x')
 (hF: ∀W F h x,I W F h x-> ∀j,F j->j<x/\j≠ky)
 (BK: ∀W p t F h x,I (W++[(p,t)]) F h x->ky<x->h ky=some (.loop env [sl] bd .ready)-> ∃r h' x',DenY Γ G ky [p] h x=some (r,h',x')/\(r=vb true/\ ∃F' qs,I (W++(qs.zip t.kids).reverse) F' h' x'/\qs.length=t.kids.length/\
   (∀h'',(∀j,F' j->h'' j=h' j)->zNo h'' p qs)/\x<=x'/\h' ky=some (.loop env [sl] bd .ready)/\(∀j,j<x-> ¬F j->j≠ky->h' j=h j)/\ ∀j,j<x->F' j->F j))
 (AS:t0.size<2^30) (Nt:zIL p0) (hk:H ky=some (.loop env [sl] bd .ready)) (Hz:H kr=some (.rows 1 [[p0]] false)) (DA:ky<nx) (Tc:kr<nx) (h0:I [(p0,t0)] F0 H nx):
 ∃r h' n',DenR Γ G 637 [.yl ky,.mp kr 0 0] H nx=some (r,h',n')/\ ∃F,I [] F h' n'/\nx<=n'/\h' ky=some (.loop env [sl] bd .ready)/\(∀j,j<nx-> ¬F0 j->j≠ky->h' j=H j)/\ ∀j,j<nx->F j->F0 j:=by
 (refine zay Γ637 rfl ?_;dsimp only[zN5])
 have Ji:=Nt.vl;have U4:=Nt.cl;unfold V.cells at U4;simp -dsimp -implicitDefEqProofs only[go_sem,seval,Hz,Ji,U4];refine zaq 35184372088632 t0.size (fun i f h x=> ∃W F,zIW W+i=t0.size/\I W F h x/\(∀a∈W,zIL a.1)/\h ky=some (.loop env [sl] bd .ready)/\PS h x ky nx F (f 3).v (W.map (·.1))/\nx<=x/\(∀j,j<nx-> ¬F0 j->j≠ky->h j=H j)/\ ∀j,j<nx->F j->F0 j) rfl ?_ ?_
 ·refine⟨[(p0,t0)],F0,by simp[zIW],AE _ _ _ _ _ _ h0 (by(try simp -dsimp -implicitDefEqProofs only[go_sem,seval]);(try omega)) (fun j hj=> ?_),(fun a ha=>by rw[List.mem_singleton]at ha;subst ha;exact Nt),?_,⟨nx+1,[],by simp -dsimp -implicitDefEqProofs only[go_sem,seval];(try rfl),by omega,by simp -dsimp -implicitDefEqProofs only[go_sem,seval];(try omega),?_,fun h=>by have:=(hF _ _ _ _ h0 _ h).1;omega,by omega⟩,by(try simp -dsimp -implicitDefEqProofs only[go_sem,seval]);(try omega),fun j hj _ _=> ?_,fun j _ h=>h⟩
  ·have:=(hF _ _ _ _ h0 j hj).1;simp only[zaC,zaA];rw[zaa,if_neg (by omega)]
  ·simp only[zaC,zaA];rw[zaa,if_neg (by omega)];exact hk
  ·simp only[zaC,zaA];rw[zaa,if_pos rfl];rfl
  ·simp only[zaC,zaA];rw[zaa,if_neg (by omega)]
 rintro i f u h x b hi ⟨W,F,IY,hI,Bm,T5,Cd,ED,AG,SH⟩;have Rn:=hF W F h x hI;rcases zLx W with rfl | ⟨W1,⟨p,t⟩,rfl⟩
 ·obtain⟨kw,rest,g3,_,U8,S3,_,_⟩:=Cd;simp -dsimp -implicitDefEqProofs only[go_sem,seval,g3,S3];exact⟨F,AE _ _ _ _ _ _ hI (by simp -dsimp -implicitDefEqProofs only[go_sem,seval];omega) (fun _ _=>rfl),by simp -dsimp -implicitDefEqProofs only[go_sem,seval];omega,T5,AG,SH⟩
 ·obtain⟨kw,rest,g3,Ef,U8,S3,U6,Tq⟩:=Cd;rw[List.map_append,List.map_cons,List.map_nil]at g3 S3;have To:=Bm (p,t) (by simp);have SY:=To.vl;have UT:=To.cl
  have hT:zIW W1+t.size+i=t0.size:=by
   rw[zHE]at IY;simpa[zIW]using IY
  have V1:W1.length<=zIW W1:=by
   clear hT IY hI Bm g3 S3 hi Rn
   induction W1 with
   | nil=>simp
   | cons a W ih=>have:=a.2.size_pos;simp only[zIW,List.map_cons,List.sum_cons,List.length_cons]at ih⊢;omega
  have hl:(W1.map (fun x=>x.1)++[p]).length=W1.length+1:=by simp
  rw[hl]at g3;have c1:(((W1.length+1:Nat):Int)>0)=True:=eq_true (by omega)
  have c2:IntKind.i64.wrap (((W1.length+1:Nat):Int)-1)=(W1.length:Int):=by
   have:(((W1.length+1:Nat):Int)-1)=(W1.length:Int):=by omega
   rw[this];exact zaH (by omega)
  have c3:((W1.map fun x=>x.1).map (fun p=>[p])++[[p]]++rest)[W1.length]? =some [p]:=by
   rw[zQ,List.getElem?_append_right (by simp)];simp
  rw[List.map_append,List.map_cons,List.map_nil]at S3;have c4:((W1.length:Int)<=((W1.length+1:Nat):Int))=True:=eq_true (by omega);have c5:((W1.length:Int)-0).toNat=W1.length:=by omega
  simp -dsimp -implicitDefEqProofs only[go_sem,seval,g3,S3,c1,c2,c3,SY,c4,c5];refine zas (BK W1 p t F h _ (AE _ _ _ _ _ _ hI ?_ (fun _ _=>rfl)) ?_ T5) ?_
  ·(try simp -dsimp -implicitDefEqProofs only[go_sem,seval]);(try omega)
  ·(try simp -dsimp -implicitDefEqProofs only[go_sem,seval]);(try omega)
  rintro r h2 x2 ⟨rfl,F2,qs,IG,Ed,EL,ML,Uf,LB,TJ⟩;have T6:h2 kw=h kw:=LB kw (by omega) U6 Tq;rw[S3]at T6;obtain⟨p1,p2,vs,k1,k2,k3,k4,k5,k6,k7,k8⟩:=EL h2 fun _ _=>rfl
  have Fm:qs.length+1<=t.size:=by
   have h1:=Nd.size_eq t
   have h2:t.kids.length<=(t.kids.map Nd.size).sum:=by
    generalize t.kids=l
    induction l with
    | nil=>simp
    | cons a l ih=>have:=a.size_pos;simp only[List.map_cons,List.sum_cons,List.length_cons];omega
   omega
  have hm:qs.length<2^30:=by omega
  have FR:t.size=(t.kids.map Nd.size).sum+1:=Nd.size_eq t;have Rl:=hF _ F2 h2 x2 IG;have d1:IntKind.i64.wrap ((qs.length:Int)-1)=(qs.length:Int)-1:=zaH (by omega);simp -dsimp -implicitDefEqProofs only[go_sem,seval,g3,c5,SY,↓k1,↓k2,↓k3,↓k4,k5,k6,k7,d1];refine zaq 35180077121576 qs.length (fun c f' h' x'=>(f' 5).v=vi ((qs.length:Int)-1-c)/\PS h' x' ky nx F2 (f' 3).v (W1.map (fun x=>x.1)++qs.reverse.take c)/\x2<=x'/\(∀j,j<x2->F2 j\/j=ky->h' j=h2 j)/\ ∀j,j<nx->h' j=h2 j) rfl ?_ ?_
  ·refine⟨by simp -dsimp -implicitDefEqProofs only[go_sem,seval];(try simp),⟨kw,[p]::rest,by simp -dsimp -implicitDefEqProofs only[go_sem,seval,g3,c5];(try simp),Ef,by(try simp -dsimp -implicitDefEqProofs only[go_sem,seval]);(try omega),?_,fun h=>U6 (TJ kw (by omega) h),Tq⟩,by(try simp -dsimp -implicitDefEqProofs only[go_sem,seval]);(try omega),fun j _ _=>rfl,fun j _=>rfl⟩;rw[T6];simp
  rintro c f' u' h3 x3 b' hc ⟨g5,K1,S1,SL,SR⟩;have Tz:=K1;obtain⟨kw3,rest3,g33,UZ,Vd,Vj,UV,UU⟩:=Tz
  by_cases By:c<qs.length
  ·have e1:((qs.length:Int)-1-c>=0)=True:=eq_true (by omega);obtain⟨q,hq,PZ⟩:=zai (l:=qs) (i:=qs.length-1-c) (by omega);obtain⟨p1,p2,vs,k1,k2,k3,k4,k5,k6,k7,k8⟩:=EL h3 fun j hj=>SL j (Rl j hj).1 (.inl hj)
   obtain⟨k9,k10⟩:=k8 _ _ hq;have e2:(qs.length:Int)-1-c=((qs.length-1-c:Nat):Int):=by omega
   have e3:IntKind.i64.wrap (((qs.length-1-c:Nat):Int)-1)=(qs.length:Int)-1-((c+1:Nat):Int):=by
    have:(((qs.length-1-c:Nat):Int)-1)=(qs.length:Int)-1-((c+1:Nat):Int):=by omega
    rw[this];exact zaH (by omega)
   rw[e2]at g5 e1;have v1:=K1.vl;have v2:=K1.r1;have v3:=K1.r2;have k11:=k10.vl;have k12:=k10.cl;unfold V.cells at k12;simp -dsimp -implicitDefEqProofs only[go_sem,seval,g5,e1,v1,v2,v3,SY,↓k1,↓k2,↓k3,k5,k6,k7,↓k9,k11,k12]
   refine zLE (K1.upd (by omega) _) (by omega) (by
    simp only[zM,List.length_map,List.length_take,List.length_reverse]
    omega) (by omega) (fun j hj=>by have:=(Rl j hj).1;omega) ?_
   intro v' hp hP DC Cl;have z1:=hP.vl;simp -dsimp -implicitDefEqProofs only[go_sem,seval,z1,g5,e3];have Jg:qs.reverse[c]? =some q:=by rw[List.getElem?_reverse By];exact hq
   refine⟨By,by simp -dsimp -implicitDefEqProofs only[go_sem,seval],?_,by(try simp -dsimp -implicitDefEqProofs only[go_sem,seval]);(try omega),fun j hj hf=> ?_,fun j hj=> ?_⟩
   ·simp -dsimp -implicitDefEqProofs only[go_sem,seval];rw[zaf Jg,<- zQ];refine hP.le ?_
    (try simp -dsimp -implicitDefEqProofs only[go_sem,seval]);(try omega)
   ·simp -dsimp -implicitDefEqProofs only[go_sem,seval];rw[DC j (by omega) hf,zaa,if_neg (by omega)];exact SL j hj hf
   ·simp -dsimp -implicitDefEqProofs only[go_sem,seval];rw[Cl j hj,zaa,if_neg (by omega)];exact SR j hj
  ·have O1:c=qs.length:=by omega
   subst O1;have e1:((qs.length:Int)-1-(qs.length:Int)>=0)=False:=eq_false (by omega);simp -dsimp -implicitDefEqProofs only[go_sem,seval,g5,e1];refine⟨by omega,W1++(qs.zip t.kids).reverse,F2,?_,AE _ _ _ _ _ _ IG (by(try simp -dsimp -implicitDefEqProofs only[go_sem,seval]);(try omega)) (fun j hj=>SL j (Rl j hj).1 (.inl hj)),fun a ha=> ?_,?_,?_,by(try simp -dsimp -implicitDefEqProofs only[go_sem,seval]);(try omega),fun j hj RJ IS=> ?_,fun j hj h=>SH j hj (TJ j (by omega) h)⟩
   ·rw[zHE,zJe,zIc _ _ Ed];omega
   ·rcases List.mem_append.1 ha with ha | ha
    ·exact Bm a (List.mem_append_left _ ha)
    ·obtain⟨z1,z2⟩:=List.of_mem_zip (List.mem_reverse.1 ha);obtain⟨n,hn,he⟩:=List.mem_iff_getElem.1 z1;exact(k8 n a.1 (by rw[<- he];exact zI hn)).2
   ·simp -dsimp -implicitDefEqProofs only[go_sem,seval];rw[SL ky (by omega) (.inr rfl)];exact Uf
   ·rw[List.map_append,List.map_reverse,zJ4 _ _ Ed];rw[show qs.reverse.take qs.length=qs.reverse from List.take_of_length_le (by simp)]at K1;simp -dsimp -implicitDefEqProofs only[go_sem,seval];refine K1.le ?_
    (try simp -dsimp -implicitDefEqProofs only[go_sem,seval]);(try omega)
   ·simp -dsimp -implicitDefEqProofs only[go_sem,seval];rw[SR j hj]
    by_cases UF:F j
    ·exact absurd (SH j hj UF) RJ
    ·rw[LB j (by omega) UF IS];exact AG j hj RJ IS
def RdF (h:Nat->Option O) (F:Nat->Prop):Nat->V->T->Prop
 | 0,v,t=> ∃x,v= .t x/\t=x.norm
 | d+1,v,t=>(∃x,v= .t x/\t=x.norm)\/ ∃(k:Nat) (rows:List (List V)) (es:List (List T)),v= .ms k 0 rows.length/\F k/\h k=some (.rows 9 rows false)/\t= .sl es/\rows.length=es.length/\
    ∀(i:Nat) (row:List V) (e:List T),rows[i]? =some row->es[i]? =some e->row.length=e.length/\ ∀(j:Nat) (v:V) (t:T),row[j]? =some v->e[j]? =some t->RdF h F d v t
theorem RdF.tree {h:Nat->Option O} {F:Nat->Prop} {d:Nat} {x:T}:RdF h F d (.t x) x.norm:=by
 cases d with
 | zero=>exact⟨x,rfl,rfl⟩
 | succ d=>exact .inl ⟨x,rfl,rfl⟩
theorem RdF.of_t {h:Nat->Option O} {F:Nat->Prop} {d:Nat} {x t:T} (o:RdF h F d (.t x) t):t=x.norm:=by
 cases d with
 | zero=>obtain⟨y,h1,h2⟩:=o;cases h1;exact h2
 | succ d=>
   rcases o with⟨y,h1,h2⟩ | ⟨k,rows,es,h1,_⟩
   ·cases h1;exact h2
   ·cases h1
theorem RdF.mono {h:Nat->Option O} {F:Nat->Prop}: ∀{d d':Nat} {v:V} {t:T},RdF h F d v t->d<=d'->RdF h F d' v t
 | 0,d',v,t,⟨x,h1,h2⟩,_=>by subst h1 h2;exact .tree
 | d+1,0,_,_,_,h=>by omega
 | d+1,d'+1,v,t,o,hd=>by
   rcases o with⟨x,h1,h2⟩ | ⟨k,rows,es,h1,h2,h3,h4,h5,h6⟩
   ·subst h1 h2;exact .tree
   ·exact .inr ⟨k,rows,es,h1,h2,h3,h4,h5,fun i row e hi he=>⟨(h6 i row e hi he).1,fun j v t hj ht=>((h6 i row e hi he).2 j v t hj ht).mono (by omega)⟩⟩
theorem zKj {α β:Type} {f:α->Option β}: ∀{l:List α} {r:List β},l.length=r.length->(∀(i:Nat) (a:α) (b:β),l[i]? =some a->r[i]? =some b->f a=some b)->l.mapM f=some r
 | [],[],_,_=>rfl
 | a::l,b::r,hl,h=>by
   have h0:=h 0 a b rfl rfl;have ih:=zKj (f:=f) (l:=l) (r:=r) (by simpa using hl) fun i a b ha hb=>h (i+1) a b ha hb
   simp only[List.mapM_cons,h0,ih,zC,zD,Option.pure_def]
 | [],_::_,hl,_=>by simp at hl
 | _::_,[],hl,_=>by simp at hl
theorem RdF.toT {h:Nat->Option O} {F:Nat->Prop}: ∀{d d':Nat} {v:V} {t:T},RdF h F d v t->d<=d'->Rg.toT h d' v=some t
 | 0,d',v,t,⟨x,h1,h2⟩,_=>by subst h1 h2;cases d'<;>rfl
 | d+1,0,_,_,_,hd=>by omega
 | d+1,d'+1,v,t,o,hd=>by
   rcases o with⟨x,h1,h2⟩ | ⟨k,rows,es,h1,h2,h3,h4,h5,h6⟩
   ·subst h1 h2;rfl
   ·subst h1 h4;simp only[Rg.toT,h3,rd,Nat.zero_add,Nat.le_refl,if_true,List.drop_zero,List.take_length,zC,zD];rw[zKj h5 fun i row e hi he=>zKj (h6 i row e hi he).1 fun j v t hj ht=>RdF.toT ((h6 i row e hi he).2 j v t hj ht) (by omega)];rfl
theorem RdF.keep {h h':Nat->Option O} {F F':Nat->Prop} (hh: ∀j,F j->h' j=h j/\F' j): ∀{d:Nat} {v:V} {t:T},RdF h F d v t->RdF h' F' d v t
 | 0,v,t,o=>o
 | d+1,v,t,o=>by
   rcases o with o | ⟨k,rows,es,h1,h2,h3,h4,h5,h6⟩
   ·exact .inl o
   ·exact .inr ⟨k,rows,es,h1,(hh k h2).2,by rw[(hh k h2).1];exact h3,h4,h5,fun i row e hi he=>⟨(h6 i row e hi he).1,fun j v t hj ht=>((h6 i row e hi he).2 j v t hj ht).keep hh⟩⟩
theorem RdF.step {h h':Nat->Option O} {F F':Nat->Prop} {k i c:Nat} {rows:List (List V)} {row:List V} {es:List (List T)} {vn:V} (hk:h k=some (.rows 9 rows false)) (Ap:rows[i]? =some row) (hc:row[c]? =some (.t (.sl es)))
 (Ah:h' k=some (.rows 9 (rows.set i (row.set c vn)) false)) (hh: ∀j,F j->j≠k->h' j=h j) (hF: ∀j,F j->F' j) (hn:RdF h' F' 1 vn (.sl es)):
 ∀{d:Nat} {v:V} {t:T},RdF h F d v t->RdF h' F' (d+1) v t
 | 0,v,t,⟨x,h1,h2⟩=> .inl ⟨x,h1,h2⟩
 | d+1,v,t,o=>by
   rcases o with⟨x,h1,h2⟩ | ⟨k2,rows2,es2,h1,h2,h3,h4,h5,h6⟩
   ·exact .inl ⟨x,h1,h2⟩
   ·by_cases AB:k2=k
    ·subst AB;rw[hk]at h3;cases h3;refine .inr ⟨k2,rows.set i (row.set c vn),es2,by rw[List.length_set];exact h1,hF _ h2,Ah,h4,by rw[List.length_set];exact h5,fun i' row' e hi he=> ?_⟩
     by_cases Kr:i'=i
     ·subst Kr;rw[List.getElem?_set_self (by exact(zH.1 Ap).1)]at hi;cases hi;obtain⟨z1,z2⟩:=h6 i' row e Ap he;refine⟨by rw[List.length_set];exact z1,fun j v t hj ht=> ?_⟩
      by_cases ST:j=c
      ·subst ST;rw[List.getElem?_set_self (zH.1 hc).1]at hj;cases hj;have:=(z2 j _ _ hc ht).of_t;subst this;exact hn.mono (by omega)
      ·rw[List.getElem?_set_ne (fun h=>ST h.symm)]at hj;exact RdF.step hk Ap hc Ah hh hF hn (z2 j v t hj ht)
     ·rw[List.getElem?_set_ne (fun h=>Kr h.symm)]at hi;obtain⟨z1,z2⟩:=h6 i' row' e hi he;exact⟨z1,fun j v t hj ht=>RdF.step hk Ap hc Ah hh hF hn (z2 j v t hj ht)⟩
    ·refine .inr ⟨k2,rows2,es2,h1,hF _ h2,by rw[hh k2 h2 AB];exact h3,h4,h5,fun i' row' e hi he=> ?_⟩;obtain⟨z1,z2⟩:=h6 i' row' e hi he;exact⟨z1,fun j v t hj ht=>RdF.step hk Ap hc Ah hh hF hn (z2 j v t hj ht)⟩
def CI (kr:Nat) (t0:Nd) (W:List (V×Nd)) (F:Nat->Prop) (h:Nat->Option O):Prop:=
 (∃d v0,d+zIW W<=t0.size/\F kr/\h kr=some (.rows 9 [(t0.enc.map V.t).set 7 v0] false)/\RdF h F d v0 (.sl (t0.kids.map Nd.enc)))/\
 (W.map (·.1)).Nodup/\ ∀a∈W,∃k i rows,a.1= .mp k i 0/\F k/\h k=some (.rows 9 rows false)/\rows[i]? =some (a.2.enc.map V.t)
theorem zMy {h:Nat->Option O} {q sz bytes:Nat} {b:List (List V)} {K:V->List (Nat×O)->Prop} {w:WK K} (hb:b.length≠0) (hl:b.length<=2^32) (S4:bytes<=2^12) (ha:(b.all fun r=>decide (r.length=sz))=true)
 (hK:K (.ms q 0 b.length) [(q,.rows sz b false)]):ziX false (zck h q sz bytes (.t .nils) [] b) K w:=by
 unfold zck;have h1:b.isEmpty=false:=by cases b with | nil=>simp at hb | cons a b=>rfl
 rw[if_pos ⟨⟨by simpa using hl,S4⟩,ha,by simp⟩];simp only[h1,zG,if_false,zcb];exact hK
theorem zLo {ky:Nat} {env:Nat->V} {t:Nd} {k i:Nat} {rows:List (List V)} {h:Nat->Option O} {x:Nat} (hk:h k=some (.rows 9 rows false)) (Ap:rows[i]? =some (t.enc.map V.t)) (ND:k<x/\k≠ky) (hy:ky<x) (DA:h ky=some (.loop env [5] zIH .ready)) (AS:t.kids.length<2^20):
 ∃r h' x',DenY Γ G ky [.mp k i 0] h x=some (r,h',x')/\(r=vb true/\h' ky=some (.loop env [5] zIH .ready)/\ ∃vn,h' k=some (.rows 9 (rows.set i ((t.enc.map V.t).set 7 vn)) false)/\x<=x'/\
  ((t.kids.length=0/\vn= .t .nils/\ ∀j,j≠ky->j≠k->h' j=h j)\/
   (¬t.kids.length=0/\ ∃q,vn= .ms q 0 t.kids.length/\x<=q/\q<x'/\h' q=some (.rows 9 (zGk (t.kids.map Nd.enc)) false)/\ ∀j,j≠ky->j≠k->j≠q->h' j=h j))):=by
 have n1:(k=ky)=False:=eq_false ND.2;have n2:(ky=k)=False:=eq_false ND.2.symm
 have:=zjy (Γ:=Γ) (G:=G) (vs:=[.mp k i 0]) (n:=x) (P:=fun ex h' n'=>ex= .normal/\h' ky=some (.loop env [5] zIH .busy)/\ ∃vn,h' k=some (.rows 9 (rows.set i ((t.enc.map V.t).set 7 vn)) false)/\x<=n'/\
  ((t.kids.length=0/\vn= .t .nils/\ ∀j,j≠ky->j≠k->h' j=h j)\/
   (¬t.kids.length=0/\ ∃q,vn= .ms q 0 t.kids.length/\x<=q/\q<n'/\h' q=some (.rows 9 (zGk (t.kids.map Nd.enc)) false)/\ ∀j,j≠ky->j≠k->j≠q->h' j=h j))) DA rfl (fun ex h' n' hP=>⟨_,_,_,hP.2.1⟩) (by
  by_cases Dn:t.kids.length=0
  ·have h1:((t.kids.length:Int)=0)=True:=eq_true (by omega);simp -dsimp -implicitDefEqProofs only[go_sem,seval,n1,n2,hk,Ap,Nd.enc_eq,h1];refine⟨rfl,?_,.t .nils,?_,?_,.inl ⟨Dn,rfl,fun j j1 j2=> ?_⟩⟩
   ·simp only[zaC,zaA];rw[zaa,if_neg ND.2.symm,zaa,if_pos rfl];rfl
   ·simp only[zaC,zaA];rw[zaa,if_pos rfl,Nd.enc_eq];rfl
   ·(try simp -dsimp -implicitDefEqProofs only[go_sem,seval]);(try omega)
   ·simp only[zaC,zaA];rw[zaa,if_neg j2,zaa,if_neg j1,zaa,if_neg j1]
  ·have h1:((t.kids.length:Int)=0)=False:=eq_false (by omega);simp -dsimp -implicitDefEqProofs only[go_sem,seval,n1,n2,hk,Ap,Nd.enc_eq,h1];have ha:((zGk (t.kids.map Nd.enc)).all fun r=>decide (r.length=9))=true:=zHb _;refine zMy (b:=zGk (t.kids.map Nd.enc)) (by simpa using Dn) (by simp only[List.length_map];omega) (by decide) ha ?_;have n3:(k=x+1+6+5)=False:=eq_false (by omega);simp -dsimp -implicitDefEqProofs only[go_sem,seval,n1,n2,n3,hk,Ap,Nd.enc_eq];refine⟨rfl,?_,.ms (x+1+6+5) 0 t.kids.length,?_,?_,.inr ⟨Dn,x+1+6+5,rfl,by omega,?_,?_,fun j j1 j2 j3=> ?_⟩⟩
   ·simp only[zaC,zaA];rw[zaa,if_neg ND.2.symm,zaa,if_neg (by omega),zaa,if_pos rfl];rfl
   ·simp only[zaC,zaA];rw[zaa,if_pos rfl,Nd.enc_eq];simp
   ·(try simp -dsimp -implicitDefEqProofs only[go_sem,seval]);(try omega)
   ·(try simp -dsimp -implicitDefEqProofs only[go_sem,seval]);(try omega)
   ·simp only[zaC,zaA];rw[zaa,if_neg (by omega),zaa,if_pos rfl]
   ·simp only[zaC,zaA]
    rw[zaa,if_neg j2,zaa,if_neg j3,zaa,if_neg j1,zaa,if_neg j1])
 obtain⟨ex,h',n',⟨rfl,q1,vn,q2,q3,q4⟩,env',ps',bd',q7,q8⟩:=this;rw[q1]at q7;simp only[zA,O.loop.injEq]at q7;obtain⟨rfl,rfl,rfl,_⟩:=q7;refine⟨_,_,n',q8,rfl,by rw[zaa,if_pos rfl];rfl,vn,by rw[zaa,if_neg ND.2];exact q2,q3,?_⟩;rcases q4 with⟨a1,a2,a3⟩ | ⟨a1,q,a2,a3,a4,a5,a6⟩
 ·exact .inl ⟨a1,a2,fun j j1 j2=>by rw[zaa,if_neg j1];exact a3 j j1 j2⟩
 ·exact .inr ⟨a1,q,a2,a3,a4,by rw[zaa,if_neg (by omega)];exact a5,fun j j1 j2 j3=>by rw[zaa,if_neg j1];exact a6 j j1 j2 j3⟩
theorem zPh (t:Nd) (v:V):((t.enc.map V.t).set 7 v)[7]? =some v:=by rw[Nd.enc_eq];rfl
theorem zPf (t:Nd):(t.enc.map V.t)[7]? =some (.t (.sl (t.kids.map Nd.enc))):=by rw[Nd.enc_eq];rfl
theorem zMw {h:Nat->Option O} {F:Nat->Prop} {q:Nat} {l:List Nd} (hF:F q) (hq:h q=some (.rows 9 (zGk (l.map Nd.enc)) false)):RdF h F 1 (.ms q 0 l.length) (.sl (l.map Nd.enc)):=by
 refine .inr ⟨q,zGk (l.map Nd.enc),l.map Nd.enc,by simp,hF,hq,rfl,by simp,fun i row e hi he=> ?_⟩;rw[zGk,zJ,he]at hi;cases hi;refine⟨by simp,fun j v t hj ht=> ?_⟩;rw[zJ,ht]at hj;cases hj;exact⟨t,rfl,(zIz l e (zL he) t (zL ht)).symm⟩
theorem zKw {ky kr:Nat} {env:Nat->V} {t0 t:Nd} {W:List (V×Nd)} {p:V} {F:Nat->Prop} {h:Nat->Option O} {x:Nat} (hI:CI kr t0 (W++[(p,t)]) F h) (S0: ∀j,F j->j<x/\j≠ky) (hy:ky<x) (DA:h ky=some (.loop env [5] zIH .ready)) (AS:t0.size<2^20):
 ∃r h' x',DenY Γ G ky [p] h x=some (r,h',x')/\(r=vb true/\ ∃F' qs,(CI kr t0 (W++(qs.zip t.kids).reverse) F' h'/\ ∀j,F' j->j<x'/\j≠ky)/\qs.length=t.kids.length/\
  (∀h'',(∀j,F' j->h'' j=h' j)->zNo h'' p qs)/\x<=x'/\h' ky=some (.loop env [5] zIH .ready)/\(∀j,j<x-> ¬F j->j≠ky->h' j=h j)/\ ∀j,j<x->F' j->F j):=by
 obtain⟨⟨d,v0,hd,Uv,S7,BK⟩,Bt,AE⟩:=hI;obtain⟨k,i,rows,hp,TO,hk,Ap⟩:=AE (p,t) (by simp);simp only at hp Ap;subst hp;have ND:=S0 k TO;rw[zHE,show zIW [(V.mp k i 0,t)]=t.size by simp[zIW]]at hd;have FR:=Nd.size_eq t
 have Mw:t.kids.length<=(t.kids.map Nd.size).sum:=by
  generalize t.kids=l
  induction l with
  | nil=>simp
  | cons a l ih=>have:=a.size_pos;simp only[List.map_cons,List.sum_cons,List.length_cons];omega
 obtain⟨r,h',x',CF,rfl,Ug,vn,Ah,Dc,TC⟩:=zLo hk Ap ND hy DA (by omega);have AV:i<rows.length:=(zH.1 Ap).1
 -- what is alike in both cases
 have main: ∀(F':Nat->Prop) (qs:List V),(∀j,F j->F' j)->(∀j,F' j->j<x'/\j≠ky)->(∀j,j<x->F' j->F j)->qs.length=t.kids.length->RdF h' F' 1 vn (.sl (t.kids.map Nd.enc))->(∀j,j<x->j≠ky->j≠k->h' j=h j)->
  qs.Nodup->(∀q∈qs,∃kq n,q=V.mp kq n 0/\x<=kq)->(∀(n:Nat) (q:V) (a:Nd),qs[n]? =some q->t.kids[n]? =some a-> ∃k i rows,q= .mp k i 0/\F' k/\h' k=some (.rows 9 rows false)/\rows[i]? =some (a.enc.map V.t))->
  (∀h'',(∀j,F' j->h'' j=h' j)->valOf vn=some vn/\lenS h'' vn=some qs.length/\ ∀(n:Nat) (q:V),qs[n]? =some q->zlx h'' 9 n vn=some q/\zIL q)->
  ∃F' qs,(CI kr t0 (W++(qs.zip t.kids).reverse) F' h'/\ ∀j,F' j->j<x'/\j≠ky)/\qs.length=t.kids.length/\
  (∀h'',(∀j,F' j->h'' j=h' j)->zNo h'' (.mp k i 0) qs)/\x<=x'/\h' ky=some (.loop env [5] zIH .ready)/\(∀j,j<x-> ¬F j->j≠ky->h' j=h j)/\ ∀j,j<x->F' j->F j:=by
  intro F' qs SH Uu Vs Ed hn AG TT PZ OX Nn;have Fe:RdF h' F' (d+1) v0 (.sl (t0.kids.map Nd.enc)):=RdF.step hk Ap (zPf t) Ah (fun j hj Lv=>AG j (S0 j hj).1 (S0 j hj).2 Lv) SH hn BK;refine⟨F',qs,⟨⟨?_,?_,fun a ha=> ?_⟩,Uu⟩,Ed,fun h'' hh=> ?_,Dc,Ug,fun j hj Vi I5=>AG j hj I5 (fun h=>Vi (h▸TO)),Vs⟩
  ·by_cases Hz:k=kr
   ·subst Hz;rw[hk]at S7;cases S7;have Dq:i=0:=by simpa using AV
    subst Dq;simp only[List.getElem?_cons_zero,zA]at Ap
    have Fz:v0= .t (.sl (t.kids.map Nd.enc)):=by
     have h1:=zPh t0 v0;rw[Ap,zPf]at h1;exact(Option.some.inj h1).symm
    subst Fz;have he:=BK.of_t;simp only[T.norm]at he;refine⟨d+1,vn,?_,SH _ TO,?_,?_⟩
    ·rw[zHE,zJe,zIc _ _ Ed];omega
    ·rw[Ah,<- Ap];simp
    ·rw[he];exact hn.mono (by omega)
   ·refine⟨d+1,v0,?_,SH _ Uv,?_,Fe⟩
    ·rw[zHE,zJe,zIc _ _ Ed];omega
    ·rw[AG kr (S0 kr Uv).1 (S0 kr Uv).2 (fun h=>Hz h.symm)];exact S7
  ·rw[List.map_append,List.map_reverse,zJ4 _ _ Ed];rw[List.map_append,List.nodup_append]at Bt;refine List.nodup_append.2 ⟨Bt.1,List.pairwise_reverse.2 (TT.imp fun h=>h.symm),fun a ha b hb Ca=> ?_⟩;subst Ca;obtain⟨kq,n,rfl,I4⟩:=PZ a (List.mem_reverse.1 hb);obtain⟨⟨_,t2⟩,hw,rfl⟩:=List.mem_map.1 ha;obtain⟨k2,i2,rows2,e1,e2,_⟩:=AE _ (List.mem_append_left _ hw);cases e1;have:=(S0 _ e2).1;omega
  ·rcases List.mem_append.1 ha with ha | ha
   ·obtain⟨k2,i2,rows2,e1,e2,e3,e4⟩:=AE a (List.mem_append_left _ ha)
    by_cases AB:k2=k
    ·subst AB;rw[hk]at e3;cases e3;refine⟨k2,i2,_,e1,SH _ e2,Ah,?_⟩
     have:i≠i2:=by
      rintro rfl;rw[List.map_append,List.nodup_append]at Bt;exact Bt.2.2 a.1 (List.mem_map_of_mem ha) (.mp k2 i 0) (by simp) e1
     rw[List.getElem?_set_ne this];exact e4
    ·exact⟨k2,i2,rows2,e1,SH _ e2,by rw[AG k2 (S0 _ e2).1 (S0 _ e2).2 AB];exact e3,e4⟩
   ·obtain⟨n,Fj,Fh⟩:=List.mem_iff_getElem.1 (List.mem_reverse.1 ha);have Tt:n<qs.length/\n<t.kids.length:=by simp at Fj;omega
    have:=OX n qs[n] t.kids[n] (zI Tt.1) (zI Tt.2);rw[List.getElem_zip]at Fh;rw[<- Fh];exact this
  ·obtain⟨z1,z2,z3⟩:=Nn h'' hh;have AB:h'' k=some (.rows 9 (rows.set i ((t.enc.map V.t).set 7 vn)) false):=by rw[hh k (SH k TO)];exact Ah
   refine⟨.mp k i 0,.mp k i 7,vn,?_,?_,?_,z2,rfl,rfl,z1,z3⟩
   ·simp only[zBw,AB]
   ·simp only[zsM,AB]
   ·simp only[zuA,AB];rw[List.getElem?_set_self AV];simp[rd,Nd.enc_eq,zb9]
 refine⟨_,_,_,CF,rfl,?_⟩;rcases TC with⟨a1,rfl,a3⟩ | ⟨a1,q,rfl,a3,a4,a5,a6⟩
 ·have Ej:t.kids=[]:=List.length_eq_zero_iff.1 a1;refine main F [] (fun _ h=>h) (fun j hj=>⟨by have:=(S0 j hj).1;omega,(S0 j hj).2⟩) (fun _ _ h=>h) (by simp[a1]) (by rw[Ej];exact RdF.tree (x:=.nils)) (fun j _ j1 j2=>a3 j j1 j2) List.nodup_nil (by simp) (by simp) (fun h'' _=>⟨rfl,rfl,by simp⟩)
 ·have Nn:q≠k:=by omega
  refine main (fun j=>F j\/j=q) ((List.range t.kids.length).map fun n=> .mp q n 0) (fun _ h=> .inl h) (fun j hj=> ?_) (fun j hj h=>h.resolve_right (by omega)) (by simp) (zMw (.inr rfl) a5) (fun j hj j1 j2=>a6 j j1 j2 (by omega)) ?_ ?_ ?_ ?_
  ·rcases hj with hj | rfl
   ·exact⟨by have:=(S0 j hj).1;omega,(S0 j hj).2⟩
   ·exact⟨a4,by omega⟩
  ·exact List.pairwise_map.2 (List.nodup_range.imp fun h e=>h (by cases e;rfl))
  ·intro z hz;obtain⟨n,_,rfl⟩:=List.mem_map.1 hz;exact⟨q,n,rfl,a3⟩
  ·intro n z a hz ha;rw[zJ]at hz;have hn:n<t.kids.length:=(zH.1 ha).1;rw[List.getElem?_range hn]at hz;cases hz;exact⟨q,n,_,rfl,.inr rfl,a5,by rw[zGk,zJ,zJ,ha];rfl⟩
  ·intro h'' hh;have HN:h'' q=some (.rows 9 (zGk (t.kids.map Nd.enc)) false):=by rw[hh q (.inr rfl)];exact a5
   refine⟨rfl,by simp[lenS,HN],fun n z hz=> ?_⟩;rw[zJ]at hz
   have hn:n<t.kids.length:=by
    rcases Nat.lt_or_ge n t.kids.length with h | h
    ·exact h
    ·rw[List.getElem?_eq_none (by simpa using h)]at hz;cases hz
   rw[List.getElem?_range hn]at hz;cases hz;refine⟨?_,.inl ⟨q,n,0,rfl⟩⟩;simp only[zlx,HN];rw[if_pos ⟨by omega,by omega,trivial⟩];simp
theorem zHn {p:V} {H:Nat->Option O} {n:Nat} (hp:zIL p):
 ∃r h' n',DenR Γ G 627 [p] H n=some (r,h',n')/\(r= .fn 637 [] [.mp n 0 0]/\h'=updC H n (some (.rows 1 [[p]] false))/\n<n'):=by
 (refine zay Γ627 rfl ?_;dsimp only[zOd])
 have hv:=hp.vl;have hc:=hp.cl;unfold V.cells at hc;simp -dsimp -implicitDefEqProofs only[go_sem,seval,hv,hc];refine⟨rfl,by simp only[zaC,zaA];rfl,?_⟩
 (try simp -dsimp -implicitDefEqProofs only[go_sem,seval]);(try omega)
theorem CI.keep {kr:Nat} {t0:Nd} {W:List (V×Nd)} {F:Nat->Prop} {h h':Nat->Option O} (c:CI kr t0 W F h) (hh: ∀j,F j->h' j=h j):CI kr t0 W F h':=by
 obtain⟨⟨d,v0,h1,h2,h3,h4⟩,h5,h6⟩:=c;refine⟨⟨d,v0,h1,h2,by rw[hh kr h2];exact h3,h4.keep fun j hj=>⟨hh j hj,hj⟩⟩,h5,fun a ha=> ?_⟩;obtain⟨k,i,rows,e1,e2,e3,e4⟩:=h6 a ha;exact⟨k,i,rows,e1,e2,by rw[hh k e2];exact e3,e4⟩
theorem zIj {I:List (V×Nd)->(Nat->Prop)->(Nat->Option O)->Nat->Prop} {ky kr:Nat} {H:Nat->Option O} {env:Nat->V} {sl:Nat} {bd:C} {p0:V} {t0:Nd} {F0:Nat->Prop} {C:Ex->(Nat->Option O)->Nat->Prop} {wk:WK C}
 (hk:H ky=some (.loop env [sl] bd .ready)) (Hz:H kr=some (.rows 1 [[p0]] false)) (Tc:kr<ky)
 (AE: ∀W F h x h' x',I W F h x->x<=x'->(∀j,F j->h' j=h j)->I W F h' x')
 (hF: ∀W F h x,I W F h x-> ∀j,F j->j<x/\j≠ky)
 (BK: ∀W p t F h x,I (W++[(p,t)]) F h x->ky<x->h ky=some (.loop env [sl] bd .ready)-> ∃r h' x',DenY Γ G ky [p] h x=some (r,h',x')/\(r=vb true/\ ∃F' qs,I (W++(qs.zip t.kids).reverse) F' h' x'/\qs.length=t.kids.length/\
   (∀h'',(∀j,F' j->h'' j=h' j)->zNo h'' p qs)/\x<=x'/\h' ky=some (.loop env [sl] bd .ready)/\(∀j,j<x-> ¬F j->j≠ky->h' j=h j)/\ ∀j,j<x->F' j->F j))
 (AS:t0.size<2^30) (Nt:zIL p0) (h0:I [(p0,t0)] F0 H (ky+1))
 (hC: ∀F h' n',I [] F h' n'->ky+1<=n'->(∀j,j<ky-> ¬F0 j->h' j=H j)->(∀j,j<ky+1->F j->F0 j)->C .normal (updC h' ky (some .dead)) n'):
 zBm (DenR Γ G 637 [.yl ky,.mp kr 0 0] H (ky+1)) ky C wk:=by
 obtain⟨r,h3,n3,CF,F,hI,g2,g3,g4,g5⟩:=zLK (nx:=ky+1) AE hF BK AS Nt hk Hz (by omega) (by omega) h0;refine znN (P:=fun e h n=>e= .normal/\h=h3/\n=n3) ⟨r,h3,n3,CF,_,_,_,_,_,g3,rfl,rfl,rfl,rfl⟩ ?_;rintro _ _ _ ⟨rfl,rfl,rfl⟩;exact hC F _ _ hI g2 (fun j hj IS=>g4 j (by omega) IS (by omega)) g5
theorem RdF.vl {h:Nat->Option O} {F:Nat->Prop} {d:Nat} {v:V} {t:T} (o:RdF h F d v t):valOf v=some v/\V.cells v=some [v]:=by
 cases d with
 | zero=>obtain⟨y,h1,_⟩:=o;subst h1;exact⟨rfl,rfl⟩
 | succ d=>
   rcases o with⟨y,h1,_⟩ | ⟨k,rows,es,h1,_⟩
   ·subst h1;exact⟨rfl,rfl⟩
   ·subst h1;exact⟨rfl,rfl⟩
theorem zIg (t:Nd) (AS:t.size<900):Den Γ G 632 [(.agg [.t (ti (t).kind),.t (.str (t).name),.t (.str (t).other),.t (ti (t).n),.t (ti (t).len),.t (ti (t).init),.t (tb (t).ghost),.t (.sl ((t).kids.map Nd.enc)),.t (ti (t).pos)])]=some (.agg [.t (ti (t).kind),.t (.str (t).name),.t (.str (t).other),.t (ti (t).n),.t (ti (t).len),.t (ti (t).init),.t (tb (t).ghost),.t (.sl ((t).kids.map Nd.enc)),.t (ti (t).pos)]):=by
 (refine zag Γ632 rfl ?_;dsimp only[zOa])
 simp -dsimp -implicitDefEqProofs only[go_sem,seval];refine zas (zHn (.inl ⟨0,0,0,rfl⟩)) ?_;rintro r h2 n2 ⟨rfl,rfl,Fh⟩;simp -dsimp -implicitDefEqProofs only[go_sem,seval];have Ch:t.enc.map V.t=[.t (ti t.kind),.t (.str t.name),.t (.str t.other),.t (ti t.n),.t (ti t.len),.t (ti t.init),.t (tb t.ghost),.t (.sl (t.kids.map Nd.enc)),.t (ti t.pos)]:=by rw[Nd.enc_eq];rfl
 refine zIj (I:=fun W F h x=>CI 0 t W F h/\ ∀j,F j->j<x/\j≠n2) (p0:=.mp 0 0 0) (t0:=t) (F0:=fun j=>j=0) (by rw[zaa,if_pos rfl]) (by rw[zaa,if_neg (by omega),zaa,if_pos rfl]) (by omega)
  (fun W F h x h' x' hI hx hh=>⟨hI.1.keep hh,fun j hj=>⟨by have:=(hI.2 j hj).1;omega,(hI.2 j hj).2⟩⟩) (fun W F h x hI=>hI.2)
  (fun W p t F h x hI hy DA=>zKw hI.1 hI.2 hy DA (by omega)) (by omega) (.inl ⟨0,0,0,rfl⟩)
  ⟨⟨⟨0,.t (.sl (t.kids.map Nd.enc)),by simp[zIW],rfl,by rw[zaa,if_neg (by omega),zaa,if_neg (by omega),zaa,if_pos rfl,Ch];rfl,.tree⟩,by simp,fun a ha=>by
    rw[List.mem_singleton]at ha;subst ha
    exact⟨0,0,_,rfl,rfl,by rw[zaa,if_neg (by omega),zaa,if_neg (by omega),zaa,if_pos rfl],by rw[Ch];rfl⟩⟩,fun j hj=>by subst hj;omega⟩ ?_
 rintro F h3 n3 ⟨⟨⟨d,v0,e1,e2,e3,e4⟩,_,_⟩,S0⟩ g2 g4 g5;have z0:(0=n2)=False:=eq_false (by omega);rw[Ch]at e3;obtain⟨hv,DT⟩:=e4.vl;unfold V.cells at DT;have ht:=(e4.keep (h':=updC h3 n2 (some .dead)) (F':=F) fun j hj=>⟨by rw[zaa,if_neg (S0 j hj).2],hj⟩).toT (d':=1000) (by simp[zIW]at e1;omega);simp -dsimp -implicitDefEqProofs only[go_sem,seval,z0,e3,↓ht,hv,DT]
structure Va where
 name:ByteArray
 w:Int
 len:Int
 init:Int
 ghost:Bool
 module:Int
 pos:Int
structure Mo where
 name:ByteArray
 owner:ByteArray
 rely:Nd
 guar:Nd
 frame:List Nd
 pos:Int
structure Lk where
 name:ByteArray
 module:Int
 inv:Nd
 pos:Int
structure Pr where
 name:ByteArray
 module:Int
 params:List Va
 locals:List Va
 locked:ByteArray
 body:Nd
 calls:List Int
 pos:Int
structure Th where
 name:ByteArray
 proc:Int
 args:List Int
 asleep:Bool
 pos:Int
def Va.enc (v:Va):List T:=[.str v.name,ti v.w,ti v.len,ti v.init,tb v.ghost,ti v.module,ti v.pos]
def Lk.enc (l:Lk):List T:=[.str l.name,ti l.module]++l.inv.enc++[ti l.pos]
abbrev dgT (d:List (Int×Int)):List (List T):=d.map fun d=>[ti d.1,ti d.2]
abbrev Key:=Int×ByteArray
abbrev zJM (k:Key):T:=.sl [[ti k.1,.str k.2]]
structure Ct where
 mods:List Mo
 vars:List Va
 locks:List Lk
 procs:List Pr
 thrs:List Th
 bodies:List Nd
 diags:List (Int×Int)
 names:List Key
 recs:List (Key×List Nd)
structure CV where
 d:V
 mo:V
 va:V
 lo:V
 pr:V
 th:V
 bo:V
structure CK where
 c:Nat
 d:Nat
 n:Nat
 r:Nat
def Tp (ck:CK) (cv:CV) (j:Nat):Prop:=j=ck.c\/j=ck.d\/j=ck.n\/j=ck.r\/ ¬zbg cv.d j\/ ¬zbg cv.mo j\/ ¬zbg cv.va j\/ ¬zbg cv.lo j\/ ¬zbg cv.pr j\/ ¬zbg cv.th j\/ ¬zbg cv.bo j
def Nst (h:Nat->Option O) (x:Nat) (N:Nat->Prop) (v:V) (sz:Nat) (es:List (List T)):Prop:=
 (v= .t .nils/\es=[])\/ ∃k f,v= .ms k 0 es.length/\k<x/\N k/\h k=some (.rows sz (zGk es) f)
def MoR (h:Nat->Option O) (x:Nat) (N:Nat->Prop) (row:List V) (m:Mo):Prop:=
 ∃v,row=[.t (.str m.name),.t (.str m.owner)]++m.rely.enc.map V.t++m.guar.enc.map V.t++[v,.t (ti m.pos)]/\Nst h x N v 9 (m.frame.map Nd.enc)
def PrR (h:Nat->Option O) (x:Nat) (N:Nat->Prop) (row:List V) (p:Pr):Prop:=
 ∃vP vL vC,row=[.t (.str p.name),.t (ti p.module),vP,vL,.t (.str p.locked)]++p.body.enc.map V.t++[vC,.t (ti p.pos)]/\Nst h x N vP 7 (p.params.map Va.enc)/\Nst h x N vL 7 (p.locals.map Va.enc)/\Nst h x N vC 1 (p.calls.map fun n=>[ti n])/\(p.calls=[]->vC= .t .nils)
def ThR (h:Nat->Option O) (x:Nat) (N:Nat->Prop) (row:List V) (t:Th):Prop:=
 ∃v,row=[.t (.str t.name),.t (ti t.proc),v,.t (tb t.asleep),.t (ti t.pos)]/\Nst h x N v 1 (t.args.map fun n=>[ti n])
def RcR (h:Nat->Option O) (x:Nat) (N:Nat->Prop) (e:T×V) (r:Key×List Nd):Prop:=e.1=zJM r.1/\Nst h x N e.2 9 (r.2.map Nd.enc)
def Pw {α β:Type} (R:α->β->Prop) (a:List α) (b:List β):Prop:=a.length=b.length/\ ∀(i:Nat) (x:α) (y:β),a[i]? =some x->b[i]? =some y->R x y
theorem Pw.imp {α β:Type} {R S:α->β->Prop} {a:List α} {b:List β} (h:Pw R a b) (f: ∀x y,R x y->S x y):Pw S a b:=⟨h.1,fun i x y hx hy=>f _ _ (h.2 i x y hx hy)⟩
theorem Pw.nil {α β:Type} {R:α->β->Prop}:Pw R [] []:=⟨rfl,fun i x y h=>by simp at h⟩
theorem Pw.snoc {α β:Type} {R:α->β->Prop} {a:List α} {b:List β} {x:α} {y:β} (h:Pw R a b) (BW:R x y):Pw R (a++[x]) (b++[y]):=by
 refine⟨by simp[h.1],fun i u v hu hv=> ?_⟩;rcases Nat.lt_trichotomy i a.length with hi | hi | hi
 ·rw[List.getElem?_append_left hi]at hu;rw[List.getElem?_append_left (by have:=h.1;omega)]at hv;exact h.2 i u v hu hv
 ·subst hi;rw[List.getElem?_append_right (Nat.le_refl _)]at hu;rw[List.getElem?_append_right (by have:=h.1;omega)]at hv;have:=h.1;simp[this]at hu hv;rw[<- hu,<- hv];exact BW
 ·rw[List.getElem?_eq_none (by simp;omega)]at hu;cases hu
structure CS (ck:CK) (h:Nat->Option O) (x:Nat) (N:Nat->Prop) (cv:CV) (ct:Ct):Prop where
 hc:h ck.c=some (.rows 9 [[cv.mo,cv.va,cv.lo,cv.pr,cv.th,cv.bo,.fn 607 [] [.mp ck.d 0 0],.mm ck.n,.mm ck.r]] false)
 hd:h ck.d=some (.rows 1 [[cv.d]] false)
 hn:h ck.n=some (.map (ct.names.map fun k=>(zJM k,vb true)))
 hr: ∃es,h ck.r=some (.map es)/\Pw (RcR h x N) es ct.recs
 od:zaF h x cv.d 2 (zGk (dgT ct.diags))
 mo: ∃rows,zaF h x cv.mo 22 rows/\Pw (MoR h x N) rows ct.mods
 va:zaF h x cv.va 7 (zGk (ct.vars.map Va.enc))
 lo:zaF h x cv.lo 12 (zGk (ct.locks.map Lk.enc))
 pr: ∃rows,zaF h x cv.pr 16 rows/\Pw (PrR h x N) rows ct.procs
 th: ∃rows,zaF h x cv.th 5 rows/\Pw (ThR h x N) rows ct.thrs
 bo:zaF h x cv.bo 9 (zGk (ct.bodies.map Nd.enc))
 lt:ck.c<x/\ck.d<x/\ck.n<x/\ck.r<x
 ne:ck.n≠ck.r
 bc:zbg cv.bo ck.c
 nt: ∀j,N j-> ¬Tp ck cv j
 nl: ∀j,N j->j<x
theorem Nst.keep {h h':Nat->Option O} {x x':Nat} {N N':Nat->Prop} {v:V} {sz:Nat} {es:List (List T)} (o:Nst h x N v sz es) (hx:x<=x') (hh: ∀j,j<x->N j->h' j=h j/\N' j):Nst h' x' N' v sz es:=by
 rcases o with o | ⟨k,f,h1,h2,h3,h4⟩
 ·exact .inl o
 ·exact .inr ⟨k,f,h1,by omega,(hh k h2 h3).2,by rw[(hh k h2 h3).1];exact h4⟩
theorem MoR.keep {h h':Nat->Option O} {x x':Nat} {N N':Nat->Prop} {row:List V} {m:Mo} (o:MoR h x N row m) (hx:x<=x') (hh: ∀j,j<x->N j->h' j=h j/\N' j):MoR h' x' N' row m:=by
 obtain⟨v,h1,h2⟩:=o;exact⟨v,h1,h2.keep hx hh⟩
theorem PrR.keep {h h':Nat->Option O} {x x':Nat} {N N':Nat->Prop} {row:List V} {m:Pr} (o:PrR h x N row m) (hx:x<=x') (hh: ∀j,j<x->N j->h' j=h j/\N' j):PrR h' x' N' row m:=by
 obtain⟨v,v2,v3,h1,h2,h3,h4,h5⟩:=o;exact⟨v,v2,v3,h1,h2.keep hx hh,h3.keep hx hh,h4.keep hx hh,h5⟩
theorem ThR.keep {h h':Nat->Option O} {x x':Nat} {N N':Nat->Prop} {row:List V} {m:Th} (o:ThR h x N row m) (hx:x<=x') (hh: ∀j,j<x->N j->h' j=h j/\N' j):ThR h' x' N' row m:=by
 obtain⟨v,h1,h2⟩:=o;exact⟨v,h1,h2.keep hx hh⟩
theorem RcR.keep {h h':Nat->Option O} {x x':Nat} {N N':Nat->Prop} {e:T×V} {r:Key×List Nd} (o:RcR h x N e r) (hx:x<=x') (hh: ∀j,j<x->N j->h' j=h j/\N' j):RcR h' x' N' e r:=⟨o.1,o.2.keep hx hh⟩
theorem CS.keep {ck:CK} {h h':Nat->Option O} {x x':Nat} {N N':Nat->Prop} {cv:CV} {ct:Ct} (s:CS ck h x N cv ct) (hx:x<=x') (hh: ∀j,j<x->Tp ck cv j\/N j->h' j=h j) (hN: ∀j,j<x->N j->N' j) (G3: ∀j,N' j-> ¬Tp ck cv j) (Hx: ∀j,N' j->j<x'):CS ck h' x' N' cv ct:=by
 have S6: ∀j,j<x->N j->h' j=h j/\N' j:=fun j hj hn=>⟨hh j hj (.inr hn),hN j hj hn⟩
 obtain⟨l1,l2,l3,l4⟩:=s.lt;obtain⟨es,r1,r2⟩:=s.hr;obtain⟨rm,m1,m2⟩:=s.mo;obtain⟨rp,p1,p2⟩:=s.pr;obtain⟨rt,t1,t2⟩:=s.th
 refine⟨by rw[hh _ l1 (.inl (.inl rfl))];exact s.hc,by rw[hh _ l2 (.inl (.inr (.inl rfl)))];exact s.hd,by rw[hh _ l3 (.inl (.inr (.inr (.inl rfl))))];exact s.hn,
  ⟨es,by rw[hh _ l4 (.inl (.inr (.inr (.inr (.inl rfl)))))];exact r1,r2.imp fun _ _ o=>o.keep hx S6⟩,s.od.keep hx fun k hk hv=>hh k hk (.inl ?_),⟨rm,m1.keep hx fun k hk hv=>hh k hk (.inl ?_),m2.imp fun _ _ o=>o.keep hx S6⟩,s.va.keep hx fun k hk hv=>hh k hk (.inl ?_),
  s.lo.keep hx fun k hk hv=>hh k hk (.inl ?_),⟨rp,p1.keep hx fun k hk hv=>hh k hk (.inl ?_),p2.imp fun _ _ o=>o.keep hx S6⟩,⟨rt,t1.keep hx fun k hk hv=>hh k hk (.inl ?_),t2.imp fun _ _ o=>o.keep hx S6⟩,s.bo.keep hx fun k hk hv=>hh k hk (.inl ?_),⟨by omega,by omega,by omega,by omega⟩,s.ne,s.bc,G3,Hx⟩
 all_goals(unfold Tp;simp only[hv,true_or,or_true,not_false_eq_true])
structure FrC (ck:CK) (h:Nat->Option O) (x:Nat) (N:Nat->Prop) (cv:CV) (h':Nat->Option O) (x':Nat) (N':Nat->Prop) (cv':CV):Prop where
 le:x<=x'
 kp: ∀j,j<x-> ¬Tp ck cv j->h' j=h j
 tp: ∀j,j<x->Tp ck cv' j->Tp ck cv j
 nn: ∀j,j<x->N' j->N j
 nm: ∀j,N j->N' j
 bo:cv'.bo=cv.bo:=by rfl
structure FrM (ck:CK) (h:Nat->Option O) (x:Nat) (N:Nat->Prop) (cv:CV) (h':Nat->Option O) (x':Nat) (N':Nat->Prop) (cv':CV):Prop where
 le:x<=x'
 kp: ∀j,j<x-> ¬Tp ck cv j->h' j=h j
 tp: ∀j,j<x->Tp ck cv' j->Tp ck cv j
 nn: ∀j,j<x->N' j->N j
 nm: ∀j,N j->N' j
theorem FrC.m {ck:CK} {h h':Nat->Option O} {x x':Nat} {N N':Nat->Prop} {cv cv':CV} (a:FrC ck h x N cv h' x' N' cv'):FrM ck h x N cv h' x' N' cv':=⟨a.le,a.kp,a.tp,a.nn,a.nm⟩
theorem FrM.refl {ck:CK} {h:Nat->Option O} {x:Nat} {N:Nat->Prop} {cv:CV}:FrM ck h x N cv h x N cv:=⟨Nat.le_refl _,fun _ _ _=>rfl,fun _ _ h=>h,fun _ _ h=>h,fun _ h=>h⟩
theorem FrM.trans {ck:CK} {h h1 h2:Nat->Option O} {x x1 x2:Nat} {N N1 N2:Nat->Prop} {cv cv1 cv2:CV} (a:FrM ck h x N cv h1 x1 N1 cv1) (b:FrM ck h1 x1 N1 cv1 h2 x2 N2 cv2):FrM ck h x N cv h2 x2 N2 cv2:=
 ⟨Nat.le_trans a.le b.le,fun j hj ht=>(b.kp j (Nat.lt_of_lt_of_le hj a.le) fun h=>ht (a.tp j hj h)).trans (a.kp j hj ht),fun j hj h=>a.tp j hj (b.tp j (Nat.lt_of_lt_of_le hj a.le) h),
   fun j hj h=>a.nn j hj (b.nn j (Nat.lt_of_lt_of_le hj a.le) h),fun j h=>b.nm j (a.nm j h)⟩
theorem FrM.loc {ck:CK} {h h' h'':Nat->Option O} {x x' x'':Nat} {N N':Nat->Prop} {cv cv':CV} (a:FrM ck h x N cv h' x' N' cv') (hx:x'<=x'') (hh: ∀j,j<x->h'' j=h' j):FrM ck h x N cv h'' x'' N' cv':=
 ⟨Nat.le_trans a.le hx,fun j hj ht=>(hh j hj).trans (a.kp j hj ht),a.tp,a.nn,a.nm⟩
theorem FrC.refl {ck:CK} {h:Nat->Option O} {x:Nat} {N:Nat->Prop} {cv:CV}:FrC ck h x N cv h x N cv:=⟨Nat.le_refl _,fun _ _ _=>rfl,fun _ _ h=>h,fun _ _ h=>h,fun _ h=>h,rfl⟩
theorem FrC.trans {ck:CK} {h h1 h2:Nat->Option O} {x x1 x2:Nat} {N N1 N2:Nat->Prop} {cv cv1 cv2:CV} (a:FrC ck h x N cv h1 x1 N1 cv1) (b:FrC ck h1 x1 N1 cv1 h2 x2 N2 cv2):FrC ck h x N cv h2 x2 N2 cv2:=
 ⟨Nat.le_trans a.le b.le,fun j hj ht=>(b.kp j (Nat.lt_of_lt_of_le hj a.le) fun h=>ht (a.tp j hj h)).trans (a.kp j hj ht),fun j hj h=>a.tp j hj (b.tp j (Nat.lt_of_lt_of_le hj a.le) h),
   fun j hj h=>a.nn j hj (b.nn j (Nat.lt_of_lt_of_le hj a.le) h),fun j h=>b.nm j (a.nm j h),b.bo.trans a.bo⟩
theorem zGv {h:Nat->Option O} {x:Nat} {v:V} {sz:Nat} {rows:List (List V)} (o:zaF h x v sz rows):V.cells v=some [v]:=by
 rcases o with⟨rfl,_⟩ | ⟨k,rfl,_,_⟩<;>rfl
theorem zGA {h:Nat->Option O} {x:Nat} {v:V} {sz sz':Nat} {rows rs:List (List V)} {f:Bool} {q:Nat} (o:zaF h x v sz rows) (hq:h q=some (.rows sz' rs f)) (hs:sz≠sz'):zbg v q:=by
 rcases o with⟨rfl,_⟩ | ⟨k,rfl,_,hk⟩
 ·intro i n e;cases e
 ·refine za3 ?_ _ _;rintro rfl;rw[hk]at hq;cases hq;exact hs rfl
theorem zHH {h:Nat->Option O} {x:Nat} {v:V} {sz:Nat} {rows:List (List V)} {es:List (T×V)} {q:Nat} (o:zaF h x v sz rows) (hq:h q=some (.map es)):zbg v q:=by
 rcases o with⟨rfl,_⟩ | ⟨k,rfl,_,hk⟩
 ·intro i n e;cases e
 ·refine za3 ?_ _ _;rintro rfl;rw[hk]at hq;cases hq
theorem zGi {h:Nat->Option O} {x:Nat} {v:V} {sz:Nat} {rows:List (List V)} {q:Nat} (o:zaF h x v sz rows) (hq: ¬zbg v q):h q=some (.rows sz rows false)/\q<x:=by
 rcases o with⟨rfl,_⟩ | ⟨k,rfl,AF,hk⟩
 ·exact absurd (by intro i n e;cases e) hq
 ·have:q=k:=by
   by_cases h:q=k
   ·exact h
   ·exact absurd (za3 h _ _) hq
  subst this;exact⟨hk,AF⟩
inductive At (ck:CK) (h:Nat->Option O) (cv:CV) (j:Nat):Prop where
 | c (e:j=ck.c) (g: ∃r,h j=some (.rows 9 r false))
 | d (e:j=ck.d) (g: ∃r,h j=some (.rows 1 r false))
 | n (e:j=ck.n) (g: ∃m,h j=some (.map m))
 | r (e:j=ck.r) (g: ∃m,h j=some (.map m))
 | od (e: ¬zbg cv.d j) (g: ∃r,h j=some (.rows 2 r false))
 | mo (e: ¬zbg cv.mo j) (g: ∃r,h j=some (.rows 22 r false))
 | va (e: ¬zbg cv.va j) (g: ∃r,h j=some (.rows 7 r false))
 | lo (e: ¬zbg cv.lo j) (g: ∃r,h j=some (.rows 12 r false))
 | pr (e: ¬zbg cv.pr j) (g: ∃r,h j=some (.rows 16 r false))
 | th (e: ¬zbg cv.th j) (g: ∃r,h j=some (.rows 5 r false))
 | bo (e: ¬zbg cv.bo j) (g: ∃r,h j=some (.rows 9 r false))
theorem CS.at {ck:CK} {h:Nat->Option O} {x:Nat} {N:Nat->Prop} {cv:CV} {ct:Ct} (s:CS ck h x N cv ct) {j:Nat} (ht:Tp ck cv j):At ck h cv j/\j<x:=by
 obtain⟨l1,l2,l3,l4⟩:=s.lt;obtain⟨es,r1,r2⟩:=s.hr;obtain⟨rm,m1,m2⟩:=s.mo;obtain⟨rp,p1,p2⟩:=s.pr;obtain⟨rt,t1,t2⟩:=s.th;rcases ht with rfl | rfl | rfl | rfl | ht | ht | ht | ht | ht | ht | ht
 ·exact⟨.c rfl ⟨_,s.hc⟩,l1⟩
 ·exact⟨.d rfl ⟨_,s.hd⟩,l2⟩
 ·exact⟨.n rfl ⟨_,s.hn⟩,l3⟩
 ·exact⟨.r rfl ⟨_,r1⟩,l4⟩
 ·exact⟨.od ht ⟨_,(zGi s.od ht).1⟩,(zGi s.od ht).2⟩
 ·exact⟨.mo ht ⟨_,(zGi m1 ht).1⟩,(zGi m1 ht).2⟩
 ·exact⟨.va ht ⟨_,(zGi s.va ht).1⟩,(zGi s.va ht).2⟩
 ·exact⟨.lo ht ⟨_,(zGi s.lo ht).1⟩,(zGi s.lo ht).2⟩
 ·exact⟨.pr ht ⟨_,(zGi p1 ht).1⟩,(zGi p1 ht).2⟩
 ·exact⟨.th ht ⟨_,(zGi t1 ht).1⟩,(zGi t1 ht).2⟩
 ·exact⟨.bo ht ⟨_,(zGi s.bo ht).1⟩,(zGi s.bo ht).2⟩
theorem CS.below {ck:CK} {h:Nat->Option O} {x:Nat} {N:Nat->Prop} {cv:CV} {ct:Ct} (s:CS ck h x N cv ct) {j:Nat} (hj:x<=j): ¬Tp ck cv j:=fun ht=>by have:=(s.at ht).2;omega
def Ct.report (ct:Ct) (e:Int) (p:Int):Ct:=if ct.diags.length<20 then{ ct with diags:=ct.diags++[(e,p)] }else ct
theorem zGt {v:V} {j:Nat} (h: ¬¬zbg v j):zbg v j:=Classical.byContradiction h
theorem CS.setD {ck:CK} {h h':Nat->Option O} {x x':Nat} {N:Nat->Prop} {cv:CV} {ct:Ct} (s:CS ck h x N cv ct) (hx:x<=x') {v:V} {dl:List (Int×Int)} (h1:h' ck.d=some (.rows 1 [[v]] false)) (h2:zaF h' x' v 2 (zGk (dgT dl))) (h3: ∀j,j<x->zbg v j)
 (hk: ∀j,j<x->j≠ck.d->zbg cv.d j->h' j=h j):CS ck h' x' N { cv with d:=v } { ct with diags:=dl }/\FrC ck h x N cv h' x' N { cv with d:=v }:=by
 obtain⟨l1,l2,l3,l4⟩:=s.lt;obtain⟨es,r1,r2⟩:=s.hr;obtain⟨rm,m1,m2⟩:=s.mo;obtain⟨rp,p1,p2⟩:=s.pr;obtain⟨rt,t1,t2⟩:=s.th;have key: ∀j,j<x->(∀r,h j≠some (.rows 1 r false))->(∀r,h j≠some (.rows 2 r false))->h' j=h j:=fun j hj a1 a2=>hk j hj (fun e=>a1 _ (e▸s.hd)) (zGt fun e=>a2 _ (zGi s.od e).1)
 have S6: ∀j,j<x->N j->h' j=h j/\N j:=fun j hj hn=>⟨hk j hj (fun e=>s.nt j hn (.inr (.inl e))) (zGt fun e=>s.nt j hn (by unfold Tp;simp[e])),hn⟩
 have tp: ∀j,j<x->Tp ck { cv with d:=v } j->Tp ck cv j:=fun j hj ht=>by
  have h0:=h3 j hj;unfold Tp at ht⊢;simp only[h0,not_true_eq_false,false_or]at ht;rcases ht with ht | ht | ht | ht | ht | ht | ht | ht | ht | ht<;>simp[ht]
 have G3: ∀j,N j-> ¬Tp ck { cv with d:=v } j:=fun j hn ht=>s.nt j hn (tp j (s.nl j hn) ht)
 refine⟨⟨by rw[key _ l1 (by simp[s.hc]) (by simp[s.hc])];exact s.hc,h1,by rw[key _ l3 (by simp[s.hn]) (by simp[s.hn])];exact s.hn,⟨es,by rw[key _ l4 (by simp[r1]) (by simp[r1])];exact r1,r2.imp fun _ _ o=>o.keep hx S6⟩,h2,
  ⟨rm,m1.keep hx fun k hk hv=>key k hk (by simp[(zGi m1 hv).1]) (by simp[(zGi m1 hv).1]),m2.imp fun _ _ o=>o.keep hx S6⟩,s.va.keep hx fun k hk hv=>key k hk (by simp[(zGi s.va hv).1]) (by simp[(zGi s.va hv).1]),
  s.lo.keep hx fun k hk hv=>key k hk (by simp[(zGi s.lo hv).1]) (by simp[(zGi s.lo hv).1]),⟨rp,p1.keep hx fun k hk hv=>key k hk (by simp[(zGi p1 hv).1]) (by simp[(zGi p1 hv).1]),p2.imp fun _ _ o=>o.keep hx S6⟩,
  ⟨rt,t1.keep hx fun k hk hv=>key k hk (by simp[(zGi t1 hv).1]) (by simp[(zGi t1 hv).1]),t2.imp fun _ _ o=>o.keep hx S6⟩,s.bo.keep hx fun k hk hv=>key k hk (by simp[(zGi s.bo hv).1]) (by simp[(zGi s.bo hv).1]),⟨by omega,by omega,by omega,by omega⟩,s.ne,s.bc,G3,fun j hn=>by have:=s.nl j hn;omega⟩,
  ⟨hx,fun j hj ht=>hk j hj (fun e=>ht (.inr (.inl e))) (zGt fun e=>ht (by unfold Tp;simp[e])),tp,fun _ _ h=>h,fun _ h=>h,rfl⟩⟩
theorem zM4 {ck:CK} {h:Nat->Option O} {x:Nat} {N:Nat->Prop} {cv:CV} {ct:Ct} (s:CS ck h x N cv ct) (e:Int) (n:Nd):
 ∃r h' x',DenR Γ G 607 [vi e,(.agg [.t (ti (n).kind),.t (.str (n).name),.t (.str (n).other),.t (ti (n).n),.t (ti (n).len),.t (ti (n).init),.t (tb (n).ghost),.t (.sl ((n).kids.map Nd.enc)),.t (ti (n).pos)]),.mp ck.d 0 0] h x=some (r,h',x')/\ ∃v',CS ck h' x' N { cv with d:=v' } (ct.report e n.pos)/\FrC ck h x N cv h' x' N { cv with d:=v' }:=by
 have hd:=s.hd;have v1:=s.od.valOf;have v2:=s.od.lenS;rw[show(zGk (dgT ct.diags)).length=ct.diags.length by simp]at v2
 (refine zay Γ607 rfl ?_;dsimp only[zNN])
 by_cases hl:ct.diags.length<20
 ·have h1:((ct.diags.length:Int)<20)=True:=eq_true (by omega);have r1:=s.od.r3;simp -dsimp -implicitDefEqProofs only[go_sem,seval,hd,v1,v2,h1,r1];refine zav (s.od.upd (by omega) _) (by omega) (by simp;omega) (by decide) rfl (by simp) ?_;intro v hp hP Bp Aq;have z1:=hP.valOf;have z2:=zGv hP;unfold V.cells at z2;have RV:zbg cv.d ck.d:=zGA s.od hd (by decide);have GX:=Aq ck.d (by have:=s.lt.2.1;omega) RV;rw[zaa,if_neg (by have:=s.lt.2.1;omega),hd]at GX;simp -dsimp -implicitDefEqProofs only[go_sem,seval,z1,z2,GX];unfold Ct.report;rw[if_pos hl];have ld:=s.lt.2.1;refine⟨v,s.setD ?_ ?_ ?_ (fun j hj=>Bp j (by omega)) (fun j hj j1 j2=> ?_)⟩
  ·(try simp -dsimp -implicitDefEqProofs only[go_sem,seval]);(try omega)
  ·simp only[zaC,zaA];rw[zaa,if_pos rfl]
  ·rw[dgT,List.map_append,zGk,List.map_append];simp only[zaC,zaA];refine zaF.keep (rows:=_) hP (by(try simp -dsimp -implicitDefEqProofs only[go_sem,seval]);(try omega)) fun q q1 q2=> ?_
   have:q≠ck.d:=by rintro rfl;exact q2 (Bp _ (by omega))
   rw[zaa,if_neg this]
  ·simp only[zaC,zaA];rw[zaa,if_neg j1,Aq j (by omega) j2,zaa,if_neg (by omega)]
 ·have h1:((ct.diags.length:Int)<20)=False:=eq_false (by omega);simp -dsimp -implicitDefEqProofs only[go_sem,seval,hd,v1,v2,h1];unfold Ct.report;rw[if_neg hl];have hx: ∀a b,x<=addC (addC x a) b:=fun a b=>Nat.le_trans (zhI _ _) (zhI _ _)
  refine⟨cv.d,s.keep (hx _ _) (fun _ _ _=>rfl) (fun _ _ h=>h) s.nt (fun j h=>Nat.lt_of_lt_of_le (s.nl j h) (hx _ _)),hx _ _,fun _ _ _=>rfl,fun _ _ h=>h,fun _ _ h=>h,fun _ h=>h,rfl⟩
end Rg
end

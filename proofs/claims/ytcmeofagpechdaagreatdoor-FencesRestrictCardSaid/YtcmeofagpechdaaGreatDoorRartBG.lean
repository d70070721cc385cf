/- Part of the proof of laws of relyguardlaw31. No condition. -/
import Derived.Test.YtcmeofagpechdaaGreatDoorRartBF
set_option linter.unusedSimpArgs false
set_option linter.unusedVariables false
section
namespace Rg
open Go
theorem zyk (p:Prog) (c:Config) (t:Nat) (x:Thread) (i:Nat):(stepsB p c t x i).length<=i:=by
 unfold stepsB;refine Nat.le_trans (List.length_filterMap_le _ _) ?_;simp;omega
theorem zzl (k:Int) (t:Nat) (b:List Entry) (i:Nat):(entsB k t b i).length<=i:=by
 unfold entsB;refine Nat.le_trans (List.length_filterMap_le _ _) ?_;simp;omega
theorem zyC {p:Prog} {c:Config} {t:Nat} {x:Thread} {i:Nat} {s:Step} (h:x.steps[i]? =some s):
 stepsB p c t x (i+1)=stepsB p c t x i++(if enabledB p c t s then [⟨t,i,0⟩]else []):=by
 unfold stepsB;rw[zxF h,List.filterMap_append]
 congr 1
 cases hh:enabledB p c t s<;>simp[hh]
theorem zz5 {k:Int} {t:Nat} {b:List Entry} {i:Nat} {e:Entry} (h:b[i]? =some e):
 entsB k t b (i+1)=entsB k t b i++(if openM k b i e then [⟨t,-1,headC e⟩]else []):=by
 unfold entsB;rw[zxF h,List.filterMap_append]
 congr 1
 cases hh:openM k b i e<;>simp[hh]
theorem zx6 {p:Prog} {k:Int} {c:Config} {i:Nat} {x:Thread} (h:p.threads[i]? =some x):
 choicesBN p k c (i+1)=choicesBN p k c i++(stepsB p c i x x.steps.length++entsB k i (bufM c i) (bufM c i).length):=by
 unfold choicesBN;rw[zxF h,List.flatMap_append];simp
theorem zBv {p:Prog} {c:Config} (hc:IsB p c) (t:Nat):(bufM c t).length<=3:=by
 rcases Nat.lt_or_ge t c.buf.length with h | h
 ·exact(hc.buf t _ (bufM_at h)).1
 ·simp[bufM,List.getD,List.getElem?_eq_none h]
theorem zxR {p:Prog} (hf:formedM p=true) {k:Int} {c:Config} (hc:IsB p c): ∀i:Nat,(choicesBN p k c i).length<=67*i
 | 0=>by simp[choicesBN]
 | i+1=>by
   have ih:=zxR hf (k:=k) hc i;rcases hx:p.threads[i]? with _ | x
   ·have:p.threads.length<=i:=by simpa using hx
    have e:choicesBN p k c (i+1)=choicesBN p k c i:=by
     unfold choicesBN;rw[List.take_of_length_le (by omega),List.take_of_length_le (by omega)]
    rw[e];omega
   ·have h1:=((limits_points (formed_limits hf).1).2 x (List.mem_of_getElem? hx)).2.1;have h2:=zyk p c i x x.steps.length;have h3:=zzl k i (bufM c i) (bufM c i).length;have h4:=zBv hc i;rw[zx6 hx,List.length_append,List.length_append];omega
end Rg
end
section
namespace Rg
open Go
section
end
end Rg
end
section
namespace Rg
open Go
def idxB (l:List Int) (v:Int):Int:=match l.findIdx? (fun x=>decide (x=v))with
 | some i=>i
 | none=> -1
theorem zA7 {l:List Int} {v:Int} {i:Nat} (h:l[i]? =some v) (hn: ∀j,j<i->l[j]? ≠some v):idxB l v=i:=by
 have hi:=(zH.1 h).1
 have:l.findIdx? (fun x=>decide (x=v))=some i:=by
  rw[List.findIdx?_eq_some_iff_getElem];refine⟨hi,by simpa using(zH.1 h).2,fun j hj=> ?_⟩;have:=hn j hj;rw[zI (by omega)]at this;simpa using this
 rw[idxB,this]
theorem zAQ {l:List Int} {v:Int} (hn: ∀j,j<l.length->l[j]? ≠some v):idxB l v= -1:=by
 have:l.findIdx? (fun x=>decide (x=v))=none:=by
  rw[List.findIdx?_eq_none_iff];intro x hx;obtain⟨j,hj⟩:=List.getElem?_of_mem hx;have:=hn j (zH.1 hj).1;rw[hj]at this;simpa using this
 rw[idxB,this]
theorem zA8 (l:List Int) (v:Int):decide (idxB l v>=0)=l.contains v:=by
 unfold idxB
 cases h:l.findIdx? (fun x=>decide (x=v))with
 | some i=>
   have hm:v∈l:=by
    rw[List.findIdx?_eq_some_iff_getElem]at h;obtain⟨h1,h2,_⟩:=h;exact(by simpa using h2:l[i]=v)▸List.getElem_mem h1
   simp[hm]
 | none=>
   have hm:v∉ l:=by
    intro hm;rw[List.findIdx?_eq_none_iff]at h;have:=h v hm;simp at this
   simp[hm]
theorem zz7 (l:List Int) (v:Int) (hl:l.length<2^40):Den Γ G 207 [.t (ints l),vi v]=some (vi (idxB l v)):=by
 (refine den_ofY Γ207 rfl ?_;dsimp only[f207])
 simp -dsimp only[go_sem,seval];refine zaz 524080 l.length (fun i f=>(f 8).v=vi i/\ ∀j,j<i->l[j]? ≠some v) rfl rfl ⟨by simp -dsimp only[go_sem,seval],fun j hj=>by omega⟩ ?_;rintro i f u kk bb hi ⟨h8,hn⟩;have hw:=zah i (by omega);simp -dsimp only[go_sem,seval,h8];refine csplit (fun h=> ?_) (fun h=> ?_)<;>(try rw[h])<;>(try simp only[zab]at h)<;>(try simp -dsimp only[go_sem,seval,h8])
 ·obtain⟨y,hy,_⟩:=zaf ‹i<l.length›;simp -dsimp only[go_sem,seval,h8,hy];refine csplit (fun h=> ?_) (fun h=> ?_)<;>(try rw[h])<;>(try simp only[zab]at h)<;>(try simp -dsimp only[go_sem,seval,h8])
  ·rw[zA7 (by rw[hy,h]) hn]
  ·refine⟨by omega,by simp -dsimp only[go_sem,seval,hw],fun j hj=> ?_⟩;rcases Nat.lt_or_ge j i with h1 | h1
   ·exact hn j h1
   ·have:j=i:=by omega
    subst this;rw[hy];intro he;cases he;exact absurd rfl h
 ·have:i=l.length:=by omega
  subst this;rw[zAQ hn]
theorem zyh (l:List Int) (v:Int) (hl:l.length<2^40):Den Γ G 206 [.t (ints l),vi v]=some (vb (l.contains v)):=by
 (refine den_ofY Γ206 rfl ?_;dsimp only[f206])
 have h1:=zz7 l v hl;have h2:=zA8 l v;simp -dsimp only[go_sem,seval,h1,h2]
theorem zzz (l:List Entry) (e:Entry) (hl:l.length<2^40) (he:e.cells.length<2^40) (hc: ∀o∈l,o.cells.length<2^40):
 Den Γ G 201 [.t (.sl (l.map Entry.enc)),.agg [.t (ints e.cells),.t (ints e.values)]]=some (vb (blockedM l e)):=by
 (refine den_ofY Γ201 rfl ?_;dsimp only[f201])
 simp -dsimp only[go_sem,seval];refine zaz 268433744 l.length (fun i f=>(f 11).v=vi i/\blockedM l e=(l.drop i).any fun o=>zAM o e) rfl rfl ⟨by simp -dsimp only[go_sem,seval],rfl⟩ ?_;rintro i f u kk bb hi ⟨h11,hany⟩;have hw:=zah i (by omega);simp -dsimp only[go_sem,seval,h11];refine csplit (fun h=> ?_) (fun h=> ?_)<;>(try rw[h])<;>(try simp only[zab]at h)<;>(try simp -dsimp only[go_sem,seval,h11])
 ·obtain⟨y,hy,hym⟩:=zaf ‹i<l.length›;have hyc:=hc y hym;simp -dsimp only[go_sem,seval,h11,hy,Entry.enc];refine zaz 133955856 e.cells.length (fun j f'=>(f' 18).v=vi j/\(e.cells.take j).any (fun n=>y.cells.contains n)=false) rfl rfl ⟨by simp -dsimp only[go_sem,seval],by simp⟩ ?_;rintro j f' u' kk' bb' hj ⟨h18,hno⟩;have hw':=zah j (by omega);simp -dsimp only[go_sem,seval,h18];refine csplit (fun h=> ?_) (fun h=> ?_)<;>(try rw[h])<;>(try simp only[zab]at h)<;>(try simp -dsimp only[go_sem,seval,h18,h11])
  ·obtain⟨n,hn,hnm⟩:=zaf ‹j<e.cells.length›;have hcn:=zyh y.cells n hyc;simp -dsimp only[go_sem,seval,h18,h11,hn,hcn];refine csplit (fun h=> ?_) (fun h=> ?_)<;>(try rw[h])<;>(try simp only[zab]at h)<;>(try simp -dsimp only[go_sem,seval,h18,h11])
   ·rw[hany,zgt hy (by rw[zAM,List.any_eq_true];exact⟨n,hnm,by simpa using h⟩)]
   ·refine⟨by omega,by simp -dsimp only[go_sem,seval,hw'],?_⟩;rw[zae hn,List.any_append,hno];simpa using h
  ·have:j=e.cells.length:=by omega
   subst this;refine⟨by omega,by simp -dsimp only[go_sem,seval,hw],?_⟩;rw[hany,zbT hy (by rw[List.take_length]at hno;exact hno)]
 ·have:i=l.length:=by omega
  subst this;rw[hany,zil]
def zBO (h:Nat->Option O) (x:Nat) (v:V) (rows:List (List V)):Prop:=
 (v= .t (.sl [])/\rows=[])\/ ∃k,v= .ms k 0 rows.length/\k<x/\h k=some (.rows 1 rows false)
theorem zzv (l:List Int):intsOf (rowsI l)=some l:=by
 induction l with
 | nil=>rfl
 | cons n l ih=>
   show(intsOf (rowsI l)).map (n:: ·)=_;rw[ih];rfl
theorem zzu (l:List Int):ofInts l=rowsI l:=by simp[ofInts,rowsI]
theorem zzp {h:Nat->Option O} {key:Nat} {l:List Int} {K:V->List (Nat×O)->Prop} {w:WK K} (hl:l.length<2^40)
 (hK: ∀v hp,zBO (hpC h hp) (key+1) v (rowsI l)->(∀j,j≠key->hpC h hp j=h j)->(∀j,j≠key->zc1 v j)->(Rg.valOf v=some v/\V.cells v=some [v])->K v hp):zq6 (Γ:=Γ) (G:=G) false h key 198 [.t (ints l)] K w:=by
 refine⟨rfl,rfl,[.t (ints l)],rfl,?_⟩
 cases l with
 | nil=>
   refine⟨.t (.sl []),fun _=>none,0,zbr Γ198 rfl rfl rfl,{ val:=.t (.sl []) },rfl,hK _ _ (.inl ⟨rfl,rfl⟩) (fun j _=>by rw[zaq]) (fun j _ i n h=>by cases h) ⟨rfl,rfl⟩⟩
 | cons a l=>
   have hd:extSem .cloneI [.t (ints (a::l))] (fun _=>none) 0=some (.ms 0 0 (a::l).length,upd (fun _=>none) 0 (some (.rows 1 (ofInts (a::l)) false)),1):=by
    show((intsOf (rowsI (a::l))).bind fun zs=>if zs.length<1099511627776 then some (V.ms 0 0 zs.length,upd (fun _=>none) 0 (some (O.rows 1 (ofInts zs) false)),0+1)else none)=_;rw[zzv,zD,if_pos hl]
   rw[zzu]at hd;have hall:(rowsI (a::l)).all (fun row=>row.all V.isTr)=true:=by simp[rowsI,V.isTr]
   refine⟨_,_,_,zbr Γ198 rfl rfl hd,{ val:=.ms key 0 (rowsI (a::l)).length,hp:=[(key,.rows 1 (rowsI (a::l)) false)] },?_,hK _ _ (.inr ⟨key,rfl,by omega,by simp[zau,zaq,zac]⟩) (fun j hj=>by simp[zau,zaq,zac,hj]) (fun j hj=>offK_ms (by omega) _ _) ⟨rfl,rfl⟩⟩;simp only[ownR,upd_same];rw[if_pos ⟨trivial,by rw[rowsI_len],hall⟩,rowsI_len]
theorem zBO.reify {h:Nat->Option O} {x:Nat} {v:V} {l:List Int} (o:zBO h x v (rowsI l)):Rg.reify h v=some (.t (ints l)):=by
 rcases o with⟨rfl,he⟩ | ⟨k,rfl,_,hh⟩
 ·have:l=[]:=by
   have:=congrArg List.length he;rw[rowsI_len]at this;exact List.eq_nil_of_length_eq_zero this
  subst this;rfl
 ·have:toT h 1000 (.ms k 0 (rowsI l).length)=some (.sl (l.map fun n=>[ti n])):=zbu (h:=h) (x:=k+1) (es:=l.map fun n=>[ti n]) (.inr ⟨k,rfl,by omega,hh⟩) (ints_norm _);simp only[Rg.reify,toT1,this,Option.map_some]
def putN (m:List Int) (e:Entry) (i:Nat):List Int:=((e.cells.zip e.values).take i).foldl (fun m q=>m.set q.1.toNat q.2) m
theorem zzF (m:List Int) (e:Entry) (i:Nat):(putN m e i).length=m.length:=zxP _ m
theorem zzc {m:List Int} {e:Entry} {i:Nat} {c v:Int} (hc:e.cells[i]? =some c) (hv:e.values[i]? =some v):putN m e (i+1)=(putN m e i).set c.toNat v:=by
 have hz:(e.cells.zip e.values)[i]? =some (c,v):=by rw[List.getElem?_zip_eq_some];exact⟨hc,hv⟩
 unfold putN;rw[zae hz,List.foldl_append];rfl
theorem zzG {m:List Int} {e:Entry} (hl:e.values.length=e.cells.length):putN m e e.cells.length=putE m e:=by
 unfold putN putE;rw[List.take_of_length_le (by rw[List.length_zip];omega)]
theorem zzU (m:List Int) (e:Entry) (hl:e.values.length=e.cells.length) (hs:e.cells.length<2^40) (hc: ∀n∈e.cells,0<=n/\n.toNat<m.length) (H:Nat->Option O) (nx k:Nat) (hk:H k=some (.rows 1 (rowsI m) false)):
 ∃r h' n',DenR Γ G 199 [.ms k 0 m.length,.agg [.t (ints e.cells),.t (ints e.values)]] H nx=some (r,h',n')/\(r= .tup []/\h' k=some (.rows 1 (rowsI (putE m e)) false)/\(∀j,j≠k->h' j=H j)/\nx<=n'):=by
 (refine denR_ofY Γ199 rfl ?_;dsimp only[zBu])
 simp -dsimp only[go_sem,seval];refine zaj 8388144 e.cells.length (fun i f h x=>(f 9).v=vi i/\h k=some (.rows 1 (rowsI (putN m e i)) false)/\(∀j,j≠k->h j=H j)/\nx<=x) rfl ⟨by simp -dsimp only[go_sem,seval],by simp -dsimp only[go_sem,seval,hk,putN,List.take_zero,List.foldl_nil],fun j _=>rfl,by simp -dsimp only[go_sem,seval];omega⟩ ?_;rintro i f u h x bs hi ⟨h9,hh,hj,hx⟩;have hw:=zah i (by omega);simp -dsimp only[go_sem,seval,h9];refine csplit (fun h=> ?_) (fun h=> ?_)<;>(try rw[h])<;>(try simp only[zab]at h)<;>(try simp -dsimp only[go_sem,seval,h9])
 ·obtain⟨c,hcc,hcm⟩:=zaf ‹i<e.cells.length›;obtain⟨v,hv,_⟩:=zaf (show i<e.values.length by omega);obtain⟨c0,c1⟩:=hc c hcm;have hsucc:=zzc (m:=m) hcc hv;have hlen:=zzF m e i;have hgt:=zxo (l:=putN m e i) (i:=c.toNat) (by omega);have hst:=zxn (putN m e i) c.toNat v;have c2:c<(m.length:Int):=by omega
  simp -dsimp only[go_sem,seval,h9,hcc,hv,hh,c0,c2,hgt];refine⟨by omega,by simp -dsimp only[go_sem,seval,hw],?_,?_,by simp -dsimp only[go_sem,seval];omega⟩
  ·rw[hsucc];simp -dsimp only[go_sem,seval,hst]
  ·intro j hjk;simp -dsimp only[go_sem,seval,hjk,hj]
 ·have:i=e.cells.length:=by omega
  subst this;rw[zzG hl]at hh;refine⟨rfl,hh,hj,by simp -dsimp only[go_sem,seval];omega⟩
theorem zzD (p:Prog) (hf:formedM p=true) (c:Config) (hc:IsB p c) (t:Nat) (ht:t<p.threads.length):Den Γ G 188 [(.agg [.t (ints (c).mem),.t (ints (c).at_),.t (.sl ((c).buf.map (fun b=>[.sl (b.map Entry.enc)])))]),vi t]=some (.t (ints (viewM c t))):=by
 obtain⟨⟨m1,m2,m3,m4⟩,_⟩:=limits_points (formed_limits hf).1;have l1:=hc.lm;have l3:=hc.lb;have hget:=bufM_at (c:=c) (t:=t) (by omega);obtain⟨b1,b2,_⟩:=hc.buf t _ hget
 (refine den_ofY Γ188 rfl ?_;dsimp only[f188])
 simp -dsimp only[go_sem,seval];refine zzp (by omega) ?_;rintro v hp ho hhp hoff ⟨hv1,_⟩;simp -dsimp only[go_sem,seval,hget,hv1];rcases ho with⟨rfl,he⟩ | ⟨k,rfl,hk,hh⟩
 ·have hm:c.mem=[]:=by
   have:=congrArg List.length he;rw[rowsI_len]at this;exact List.eq_nil_of_length_eq_zero this
  have hb:bufM c t=[]:=by
   cases hbb:bufM c t with
   | nil=>rfl
   | cons e r=>
     have hp:=b2 e (by rw[hbb];exact List.mem_cons_self);have:=zxM hp (head_mem hp);have hl:p.cells.length=0:=by rw[<- l1,hm];rfl
     omega
  have hview:viewM c t=[]:=by rw[viewM,hb,hm];rfl
  refine zaj 33423488 (bufM c t).length (fun i f h x=>(f 17).v=vi i) rfl (by simp -dsimp only[go_sem,seval]) ?_;rintro i f u h x bs hi h17;simp -dsimp only[go_sem,seval,h17];refine csplit (fun h=> ?_) (fun h=> ?_)<;>(try rw[h])<;>(try simp only[zab]at h)<;>(try simp -dsimp only[go_sem,seval,h17])
  ·have:(bufM c t).length=0:=by rw[hb];rfl
   omega
  ·rw[hview];rfl
 ·rw[rowsI_len]at *;refine zaj 33423488 (bufM c t).length (fun i f h x=>(f 17).v=vi i/\h k=some (.rows 1 (rowsI (((bufM c t).take i).foldl putE c.mem)) false)) rfl ⟨by simp -dsimp only[go_sem,seval],by simp -dsimp only[go_sem,seval,hh,List.take_zero,List.foldl_nil]⟩ ?_;rintro i f u H2 x bs hi ⟨h17,hhk⟩;have hw:=zah i (by omega);simp -dsimp only[go_sem,seval,h17];refine csplit (fun h=> ?_) (fun h=> ?_)<;>(try rw[h])<;>(try simp only[zab]at h)<;>(try simp -dsimp only[go_sem,seval,h17])
  ·obtain⟨e,he,hem⟩:=zaf ‹i<(bufM c t).length›;have hpr:=b2 e hem;have hlen:(((bufM c t).take i).foldl putE c.mem).length=c.mem.length:=zx9 _ _;simp -dsimp only[go_sem,seval,h17,he,Entry.enc];refine zav (by rw[<- hlen];exact zzU _ e hpr.len (by have:=zxy hpr;omega) (fun n hn=>by have:=zxM hpr hn;omega) _ _ k (by simp -dsimp only[go_sem,seval,hhk])) ?_;rintro r h' n' ⟨rfl,g1,g2,g3⟩;simp -dsimp only[go_sem,seval,h17];refine⟨by omega,by simp -dsimp only[go_sem,seval,hw],?_⟩;rw[zae he,List.foldl_append];simp -dsimp only[go_sem,seval,g1,List.foldl_cons,List.foldl_nil]
  ·have:i=(bufM c t).length:=by omega
   subst this;rw[List.take_length]at hhk;have hh2:H2 k=some (.rows 1 (rowsI (viewM c t)) false):=hhk;have hlen2:(rowsI (viewM c t)).length=c.mem.length:=by rw[rowsI_len,zAE]
   have htk:List.take c.mem.length (rowsI (viewM c t))=rowsI (viewM c t):=zxm hlen2.symm;simp -dsimp only[go_sem,seval,hh2,hlen2,htk,Nat.le_refl,zxr]
end Rg
end
section
-- FULL
namespace Rg
open Go
def stV (p:Prog) (k:Int) (c:Config):V:=.agg [.t (ints c.mem),.t (ints c.at_),.t (.sl (c.buf.map fun b=>[.sl (b.map Entry.enc)])),.t (.sl (p.cells.map Cell.enc)),.t (.sl (p.modules.map Contract.enc)),.t (.sl (p.locks.map Lock.enc)),.t (.sl (p.threads.map Thread.enc)),vi k]
theorem zyt (p:Prog) (hf:formedM p=true) (k:Int) (c:Config) (hc:IsB p c) (t:Nat) (x:Thread) (hx:p.threads[t]? =some x) (i:Nat) (s:Step) (hs:x.steps[i]? =some s):
 Den Γ G 189 [stV p k c,vi t,vi i,.t (ints (viewM c t))]=some (vb (enabledB p c t s)):=by
 have l1:=hc.lm;have l2:=hc.la;have l3:=hc.lb;have hok:=formed_step hf hx hs;have htl:t<p.threads.length:=(zH.1 hx).1;obtain⟨a,ha,_⟩:=zaf (show t<c.at_.length by omega);have ha':atI c.at_ t=a:=zya (by simpa using ha);have hev:=zxX s.guard (viewM c t) (viewM c t);have hget:=bufM_at (c:=c) (t:=t) (by omega);unfold stV
 (refine den_ofY Γ189 rfl ?_;dsimp only[f189])
 by_cases h1:a=s.fr
 ·by_cases h2:s.guard.eval (viewM c t) (viewM c t)=1
  ·have hE:enabledB p c t s=(if s.kind=3 then(if s.release then decide ((bufM c t).length=0)else decide ((bufM c t).length<3))
    else if s.kind=4\/s.kind=5 then decide ((bufM c t).length=0)
    else if s.kind=6 then decide ((bufM c t).length=0)&&decide (atI c.at_ s.target= -1)
    else if s.kind=7 then decide ((bufM c t).length=0)&&(decide (atI c.at_ s.target=zxl p s.target-1)&&decide ((bufM c s.target.toNat).length=0))
    else true):=by
    simp[enabledB,ha',h1,h2]
   rw[h2]at hev;rw[hE];have e0:((bufM c t).length:Int)=0<->(bufM c t).length=0:=by omega
   have e3:((bufM c t).length:Int)<3<->(bufM c t).length<3:=by omega
   by_cases hk:s.kind=6\/s.kind=7
   ·obtain⟨hr,_⟩:=hok.tgt hk;simp only[inR,decide_eq_true_eq]at hr;obtain⟨b,hb,_⟩:=zaf (show s.target.toNat<c.at_.length by omega);obtain⟨y,hy,_⟩:=zaf (show s.target.toNat<p.threads.length by omega);have hyb:=points_bound hf hy;have hw:IntKind.i64.wrap (y.points-1)=y.points-1:=zan (by omega);have hb':=zya hb;have hp':zxl p s.target=y.points:=by simp[zxl,hy]
    have hget2:=bufM_at (c:=c) (t:=s.target.toNat) (by omega);have e4:((bufM c s.target.toNat).length:Int)=0<->(bufM c s.target.toNat).length=0:=by omega
    by_cases hn:(bufM c t).length=0
    ·rcases hk with hk | hk
     ·simp -dsimp [go_sem,hx,hs,ha,h1,hev,hget,hn,hk,hr.1,hb,hb']
     ·by_cases hbp:b=y.points-1
      ·simp -dsimp [go_sem,hx,hs,ha,h1,hev,hget,hn,hk,hr.1,hb,hy,hw,hb',hp',hget2,hbp,e4]
      ·simp -dsimp [go_sem,hx,hs,ha,h1,hev,hget,hn,hk,hr.1,hb,hy,hw,hb',hp',hget2,hbp,e4]
    ·rcases hk with hk | hk
     ·simp -dsimp [go_sem,hx,hs,ha,h1,hev,hget,hn,hk,hr.1,hb,hb',e0]
     ·simp -dsimp [go_sem,hx,hs,ha,h1,hev,hget,hn,hk,hr.1,hb,hy,hw,hb',hp',hget2,e0]
   ·have k6: ¬s.kind=6:=by omega
    have k7: ¬s.kind=7:=by omega
    by_cases hk3:s.kind=3
    ·cases hrl:s.release
     ·simp -dsimp [go_sem,hx,hs,ha,h1,hev,hget,hk3,hrl,e3]
     ·simp -dsimp [go_sem,hx,hs,ha,h1,hev,hget,hk3,hrl,e0]
    ·by_cases hk4:s.kind=4
     ·simp -dsimp [go_sem,hx,hs,ha,h1,hev,hget,hk4,e0]
     ·by_cases hk5:s.kind=5
      ·simp -dsimp [go_sem,hx,hs,ha,h1,hev,hget,hk5,e0]
      ·simp -dsimp [go_sem,hx,hs,ha,h1,hev,hget,k6,k7,hk3,hk4,hk5]
  ·have hE:enabledB p c t s=false:=by simp[enabledB,h2]
   rw[hE];simp -dsimp [go_sem,hx,hs,ha,h1,hev,h2]
 ·have hE:enabledB p c t s=false:=by simp[enabledB,ha',h1]
  rw[hE];simp -dsimp [go_sem,hx,hs,ha,h1]
def zzB (h:Nat->Option O) (lo hi:Nat) (v:V) (rows:List (List V)):Prop:=
 (v= .t (.sl [])/\rows=[])\/ ∃k,v= .ms k 0 rows.length/\lo<=k/\k<hi/\h k=some (.rows 1 rows false)
theorem zzB.keep {h h':Nat->Option O} {lo hi:Nat} {v:V} {rows:List (List V)} (o:zzB h lo hi v rows) (hh: ∀k,lo<=k->k<hi->h' k=h k):zzB h' lo hi v rows:=by
 rcases o with o | ⟨k,h1,h2,h3,h4⟩
 ·exact .inl o
 ·exact .inr ⟨k,h1,h2,h3,by rw[hh k h2 h3];exact h4⟩
theorem zzB.val {h:Nat->Option O} {lo hi:Nat} {v:V} {rows:List (List V)} (o:zzB h lo hi v rows):Rg.valOf v=some v/\V.cells v=some [v]:=by
 rcases o with⟨rfl,_⟩ | ⟨k,rfl,_⟩<;>exact⟨rfl,rfl⟩
theorem zzB.tree {h:Nat->Option O} {lo hi:Nat} {v:V} {l:List Int} (o:zzB h lo hi v (rowsI l)) (d:Nat):toT h (d+1) v=some (ints l):=by
 rcases o with⟨rfl,he⟩ | ⟨k,rfl,_,_,hh⟩
 ·have:l=[]:=by
   have:=congrArg List.length he;rw[rowsI_len]at this;exact List.eq_nil_of_length_eq_zero this
  subst this;rfl
 ·have htk:List.take (rowsI l).length (rowsI l)=rowsI l:=zxm rfl;simp only[toT,hh,rd,Nat.zero_add,Nat.le_refl,if_true,List.drop_zero,htk,zC,zD,zxr]
def zBf (h:Nat->Option O) (lo hi:Nat) (r:List V) (e:Entry):Prop:=
 ∃kc kv,r=[.ms kc 0 e.cells.length,.ms kv 0 e.values.length]/\lo<=kc/\kc<hi/\lo<=kv/\kv<hi/\h kc=some (.rows 1 (rowsI e.cells) false)/\h kv=some (.rows 1 (rowsI e.values) false)
theorem zBf.keep {h h':Nat->Option O} {lo hi lo' hi':Nat} {r:List V} {e:Entry} (o:zBf h lo hi r e) (h1:lo'<=lo) (h2:hi<=hi') (hh: ∀k,lo<=k->k<hi->(∀rs fz,h k≠some (.rows 2 rs fz))->h' k=h k):zBf h' lo' hi' r e:=by
 obtain⟨kc,kv,e1,a1,a2,a3,a4,a5,a6⟩:=o;exact⟨kc,kv,e1,by omega,by omega,by omega,by omega,by rw[hh kc a1 a2 (by rw[a5];simp)];exact a5,by rw[hh kv a3 a4 (by rw[a6];simp)];exact a6⟩
theorem zBf.tree {h:Nat->Option O} {lo hi:Nat} {r:List V} {e:Entry} (o:zBf h lo hi r e) (d:Nat):r.mapM (toT h (d+1))=some (Entry.enc e):=by
 obtain⟨kc,kv,rfl,a1,a2,a3,a4,a5,a6⟩:=o;have h1:=zzB.tree (h:=h) (lo:=lo) (hi:=hi) (v:=.ms kc 0 e.cells.length) (l:=e.cells) (.inr ⟨kc,by rw[rowsI_len],a1,a2,a5⟩) d;have h2:=zzB.tree (h:=h) (lo:=lo) (hi:=hi) (v:=.ms kv 0 e.values.length) (l:=e.values) (.inr ⟨kv,by rw[rowsI_len],a3,a4,a6⟩) d;rw[List.mapM_cons,h1,List.mapM_cons,h2,List.mapM_nil];rfl
def zz9 (h:Nat->Option O) (lo hi:Nat) (v:V) (b:List Entry):Prop:=
 ∃rows,((v= .t .nils/\rows=[])\/ ∃k,v= .ms k 0 rows.length/\lo<=k/\k<hi/\h k=some (.rows 2 rows false))/\rows.length=b.length/\(∀r∈rows,r.length=2)/\
  ∀(j:Nat) (e:Entry),b[j]? =some e-> ∃r,rows[j]? =some r/\zBf h lo hi r e
theorem zz9.keep {h h':Nat->Option O} {lo hi hi':Nat} {v:V} {b:List Entry} (o:zz9 h lo hi v b) (h2:hi<=hi') (hh: ∀k,lo<=k->k<hi->h' k=h k):zz9 h' lo hi' v b:=by
 obtain⟨rows,h1,h3,h4,h5⟩:=o;refine⟨rows,?_,h3,h4,fun j e he=> ?_⟩
 ·rcases h1 with h1 | ⟨k,a1,a2,a3,a4⟩
  ·exact .inl h1
  ·exact .inr ⟨k,a1,a2,by omega,by rw[hh k a2 a3];exact a4⟩
 ·obtain⟨r,hr,hE⟩:=h5 j e he;exact⟨r,hr,hE.keep (Nat.le_refl _) h2 fun k k1 k2 _=>hh k k1 k2⟩
theorem zyl {h:Nat->Option O} {d:Nat}: ∀(rows:List (List V)) (b:List Entry),rows.length=b.length->(∀(j:Nat) (e:Entry),b[j]? =some e-> ∃r,rows[j]? =some r/\r.mapM (toT h d)=some (Entry.enc e))->
 rows.mapM (fun row=>row.mapM (toT h d))=some (b.map Entry.enc)
 | [],[],_,_=>rfl
 | [],_::_,hl,_=>by simp at hl
 | _::_,[],hl,_=>by simp at hl
 | r::rows,e::b,hl,hj=>by
   have ih:=zyl rows b (by simpa using hl) fun j e he=>hj (j+1) e he
   obtain⟨r',hr,ht⟩:=hj 0 e rfl;simp only[List.getElem?_cons_zero,zA]at hr;subst hr;rw[List.mapM_cons,ht,ih];rfl
theorem zz9.tree {h:Nat->Option O} {lo hi:Nat} {v:V} {b:List Entry} (o:zz9 h lo hi v b) (d:Nat):toT h (d+2) v=some (.sl (b.map Entry.enc)):=by
 obtain⟨rows,h1,h3,h4,h5⟩:=o;rcases h1 with⟨rfl,rfl⟩ | ⟨k,rfl,a2,a3,a4⟩
 ·have:b=[]:=List.eq_nil_of_length_eq_zero (by simpa using h3.symm);subst this;rfl
 ·have htk:List.take rows.length rows=rows:=zxm rfl
  have hr:=zyl (h:=h) (d:=d+1) rows b h3 fun j e he=>by
   obtain⟨r,hr,hE⟩:=h5 j e he;exact⟨r,hr,hE.tree d⟩
  simp only[toT,a4,rd,Nat.zero_add,Nat.le_refl,if_true,List.drop_zero,htk,zC,zD,hr]
theorem zz9.val {h:Nat->Option O} {lo hi:Nat} {v:V} {b:List Entry} (o:zz9 h lo hi v b):Rg.valOf v=some v/\V.cells v=some [v]:=by
 obtain⟨rows,⟨rfl,_⟩ | ⟨k,rfl,_⟩,_⟩:=o<;>exact⟨rfl,rfl⟩
structure BufsV (h:Nat->Option O) (bd:Nat->Nat) (vs:List (List V)) (bs:List (List Entry)):Prop where
 len:vs.length=bs.length
 mono: ∀q,q<bs.length->bd q<=bd (q+1)
 at_: ∀(q:Nat) (b:List Entry),bs[q]? =some b-> ∃v,vs[q]? =some [v]/\zz9 h (bd q) (bd (q+1)) v b
theorem BufsV.le {h:Nat->Option O} {bd:Nat->Nat} {vs:List (List V)} {bs:List (List Entry)} (o:BufsV h bd vs bs) {q r:Nat} (hq:q<=r) (hr:r<=bs.length):bd q<=bd r:=by
 induction r with
 | zero=>have:q=0:=by omega
         subst this;exact Nat.le_refl _
 | succ r ih=>
   rcases Nat.lt_or_ge q (r+1)with h | h
   ·exact Nat.le_trans (ih (by omega) (by omega)) (o.mono r (by omega))
   ·have:q=r+1:=by omega
    subst this;exact Nat.le_refl _
theorem BufsV.snoc {h h':Nat->Option O} {bd:Nat->Nat} {vs:List (List V)} {bs:List (List Entry)} (o:BufsV h bd vs bs) {x:Nat} {v:V} {b:List Entry} (hx:bd bs.length<=x)
 (hh: ∀k,bd 0<=k->k<bd bs.length->h' k=h k) (hv:zz9 h' (bd bs.length) x v b):BufsV h' (fun q=>if q<=bs.length then bd q else x) (vs++[[v]]) (bs++[b]):=by
 refine⟨by simp[o.len],fun q hq=> ?_,fun q b' hb=> ?_⟩
 ·rw[List.length_append,List.length_singleton]at hq;rcases Nat.lt_or_ge q bs.length with h1 | h1
  ·rw[if_pos (by omega),if_pos (by omega)];exact o.mono q h1
  ·have:q=bs.length:=by omega
   subst this;rw[if_pos (Nat.le_refl _),if_neg (by omega)];exact hx
 ·rcases Nat.lt_or_ge q bs.length with h1 | h1
  ·rw[List.getElem?_append_left h1]at hb;obtain⟨u,hu,hB⟩:=o.at_ q b' hb;refine⟨u,by rw[List.getElem?_append_left (by rw[o.len];exact h1)];exact hu,?_⟩;rw[if_pos (by omega),if_pos (by omega)];refine hB.keep (Nat.le_refl _) fun k k1 k2=>hh k ?_ ?_
   ·have:=o.le (Nat.zero_le q) (by omega);omega
   ·have:=o.le (show q+1<=bs.length by omega) (Nat.le_refl _);omega
  ·have hq:q=bs.length:=by
    have:=(zH.1 hb).1;rw[List.length_append,List.length_singleton]at this;omega
   subst hq;rw[List.getElem?_append_right (Nat.le_refl _),Nat.sub_self]at hb;simp only[List.getElem?_cons_zero,zA]at hb;subst hb;refine⟨v,by rw[List.getElem?_append_right (by rw[o.len];exact Nat.le_refl _),o.len,Nat.sub_self];rfl,?_⟩;rw[if_pos (Nat.le_refl _),if_neg (by omega)];exact hv
def zCm (h:Nat->Option O) (x:Nat) (vM vA:V) (kB:Nat) (c:Config):Prop:=
 ∃x1 x2 bd vs,zzB h 0 x1 vM (rowsI c.mem)/\zzB h x1 x2 vA (rowsI c.at_)/\x1<=x2/\x2<=kB/\kB<bd 0/\h kB=some (.rows 1 vs false)/\BufsV h bd vs c.buf/\bd c.buf.length<=x
theorem cloneB_den (p:Prog) (hf:formedM p=true) (c:Config) (hc:IsB p c) (nx:Nat):
 ∃r h' n',DenR Γ G 202 [(.agg [.t (ints (c).mem),.t (ints (c).at_),.t (.sl ((c).buf.map (fun b=>[.sl (b.map Entry.enc)])))])] (fun _=>none) nx=some (r,h',n')/\ ∃vM vA kB,r= .agg [vM,vA,.ms kB 0 c.buf.length]/\zCm h' n' vM vA kB c:=by
 obtain⟨⟨m1,m2,m3,m4⟩,_⟩:=limits_points (formed_limits hf).1;have l1:=hc.lm;have l2:=hc.la;have l3:=hc.lb;have e3:(c.buf.length:Int)<=4294967296:=by omega
 (refine denR_ofY Γ202 rfl ?_;dsimp only[f202])
 simp -dsimp only[go_sem,seval];refine zzp (by omega) ?_;rintro vM hp1 ho1 hh1 hf1 ⟨hv1,hc1⟩;simp -dsimp only[go_sem,seval,hv1];refine zzp (by omega) ?_;rintro vA hp2 ho2 hh2 hf2 ⟨hv2,hc2⟩;unfold V.cells at hc1 hc2;simp -dsimp only[go_sem,seval,hv1,hc1,hv2,hc2,e3,Int.le_refl]
 generalize hH0:hpC (hpC (fun _=>none) hp1) hp2=H0 at *
 have n1:c.buf.length=c.buf.length:=rfl;refine zaj 9007199250546864 c.buf.length (fun i f h x=>(f 22).v=vi i/\ ∃bd vs,h (nx+2+9)=some (.rows 1 (vs++List.replicate (c.buf.length-i) [.t .nils]) false)/\BufsV h bd vs (c.buf.take i)/\bd 0=nx+2+10/\bd i<=x/\(∀k,k<nx+2+9->h k=H0 k)) rfl ?_ ?_
 ·refine⟨by simp -dsimp only[go_sem,seval],fun _=>nx+2+10,[],by simp -dsimp only[go_sem,seval,List.nil_append,Nat.sub_zero],⟨rfl,fun q hq=>Nat.le_refl _,fun q b hb=>by simp at hb⟩,rfl,by simp -dsimp only[go_sem,seval];omega,?_⟩;intro k hk;have:k≠nx+2+9:=by omega
  simp -dsimp only[go_sem,seval,this]
 rintro i f u Ho x bs hi ⟨h22,bd,vs,hB,hbs,hb0,hbi,hfr⟩;have hw:=zah i (by omega);simp -dsimp only[go_sem,seval,h22];refine csplit (fun h=> ?_) (fun h=> ?_)<;>(try rw[h])<;>(try simp only[zab]at h)<;>(try simp -dsimp only[go_sem,seval,h22])
 ·obtain⟨b,hb,hbm⟩:=zaf ‹i<c.buf.length›;obtain⟨b1,b2,_⟩:=hc.buf i b hb;simp -dsimp only[go_sem,seval,h22,hb]
  have hrep:List.replicate (c.buf.length-i) [V.t T.nils]=[V.t T.nils]::List.replicate (c.buf.length-i-1) [V.t T.nils]:=by
   rw[<- List.replicate_succ];congr 1;omega
  have hvl:vs.length=i:=by rw[hbs.len,List.length_take];omega
  have hkb:nx+2+9<x:=by have:=hbs.le (q:=0) (r:=i) (by omega) (by rw[List.length_take];omega);omega
  refine zaj 4503599090499712 b.length (fun j f' h' x'=>(f' 29).v=vi j/\ ∃v,h' (nx+2+9)=some (.rows 1 (vs++[v]::List.replicate (c.buf.length-i-1) [.t .nils]) false)/\zz9 h' x x' v (b.take j)/\x<=x'/\(∀k,k<x->k≠nx+2+9->h' k=Ho k)) rfl ?_ ?_
  ·refine⟨by simp -dsimp only[go_sem,seval],.t .nils,by simp -dsimp only[go_sem,seval,hB,hrep],⟨[],.inl ⟨rfl,rfl⟩,by simp,by simp,by simp⟩,by simp -dsimp only[go_sem,seval];omega,fun k _ _=>rfl⟩
  rintro j f' u' Hi x' bs' hj ⟨h29,v,hB',hbv,hxx,hfr'⟩;have hw':=zah j (by omega);simp -dsimp only[go_sem,seval,h29];refine csplit (fun h=> ?_) (fun h=> ?_)<;>(try rw[h])<;>(try simp only[zab]at h)<;>(try simp -dsimp only[go_sem,seval,h29,h22])
  ·obtain⟨e,he,hem⟩:=zaf ‹j<b.length›;have hpr:=b2 e hem;have hpl:=zxy hpr
   have hgt:(vs++[v]::List.replicate (c.buf.length-i-1) [V.t T.nils])[i]? =some [v]:=by
    rw[List.getElem?_append_right (by omega),hvl,Nat.sub_self];rfl
   obtain⟨hvv,hvc⟩:=hbv.val;have hi3:(i:Int)<(c.buf.length:Int):=by omega
   have hi0:(0:Int)<=(i:Int):=by omega
   simp -dsimp only[go_sem,seval,h29,h22,he,Entry.enc,hB',hgt,hi3,hi0,hvv];refine zzp (by omega) ?_;rintro vc hpa hoa hha hfa ⟨hva,hca⟩;simp -dsimp only[go_sem,seval,hva];refine zzp (by have:=hpr.len;omega) ?_;rintro vv hpb hob hhb hfb ⟨hvb,hcb⟩;unfold V.cells at hca hcb;obtain⟨rows,hro,hrl,hr2,hre⟩:=hbv
   have hG: ∀k,k<x'->updC (hpC (hpC Hi hpa) hpb) (x'+1+4+15) (some (O.rows 2 [[vc,vv]] false)) k=Hi k:=fun k hk=>by
    rw[zac,if_neg (by omega),hhb k (by omega),hha k (by omega)]
   have hoG:zxp (updC (hpC (hpC Hi hpa) hpb) (x'+1+4+15) (some (O.rows 2 [[vc,vv]] false))) (x'+1+4+16) v 2 rows:=by
    rcases hro with h | ⟨k,h1,h2,h3,h4⟩
    ·exact .inl h
    ·exact .inr ⟨k,h1,by omega,by rw[hG k h3];exact h4⟩
   have hrs:=hoG.rowsS;simp -dsimp only[go_sem,seval,hvv,hva,hca,hvb,hcb,hrs];have hall:(rows.all fun r=>decide (r.length=2))=true:=by simpa using hr2
   refine zas hoG (Nat.le_refl _) (by have:=hbs.len;rw[hrl,List.length_take];omega) (by decide) rfl hall ?_;intro v2 hp hO hoffs hkeep;rcases hO with⟨_,he0⟩ | ⟨k2,rfl,hk2,hk2h⟩
   ·simp at he0
   have hk2q:x'+1+4+16<=k2:=by
    rcases Nat.lt_or_ge k2 (x'+1+4+16)with h1 | h1
    ·exact absurd rfl (hoffs k2 h1 0 _)
    ·exact h1
   have hoffv: ∀k,(k<x\/x'<=k\/ ∀rs fz,Hi k≠some (O.rows 2 rs fz))->zc1 v k:=by
    intro k hk;rcases hro with⟨rfl,_⟩ | ⟨k',rfl,h2,h3,h4⟩
    ·intro i n h0;cases h0
    ·refine offK_ms ?_ _ _;rintro rfl;rcases hk with hk | hk | hk
     ·omega
     ·omega
     ·exact hk _ _ h4
   have hkp: ∀k,k<x'->(k<x\/ ∀rs fz,Hi k≠some (O.rows 2 rs fz))->hpC (updC (hpC (hpC Hi hpa) hpb) (x'+1+4+15) (some (O.rows 2 [[vc,vv]] false))) hp k=Hi k:=by
    intro k hk hk';rw[hkeep k (by omega) (hoffv k (by rcases hk' with h | h;exact .inl h;exact .inr (.inr h))),hG k hk]
   have hB2:=hkp (nx+2+9) (by omega) (.inl (by omega));rw[hB']at hB2
   have hset:(vs++[v]::List.replicate (c.buf.length-i-1) [V.t T.nils]).set i [V.ms k2 0 (rows++[[vc,vv]]).length]=vs++[V.ms k2 0 (rows++[[vc,vv]]).length]::List.replicate (c.buf.length-i-1) [V.t T.nils]:=by
    rw[List.set_append_right _ _ (by omega),hvl,Nat.sub_self];rfl
   simp -dsimp only[go_sem,seval,h29,h22,hB2,hgt,hi3,hi0,hset];have hkF: ∀(o:Option O) k,k≠nx+2+9->updC (hpC (updC (hpC (hpC Hi hpa) hpb) (x'+1+4+15) (some (O.rows 2 [[vc,vv]] false))) hp) (nx+2+9) o k=hpC (updC (hpC (hpC Hi hpa) hpb) (x'+1+4+15) (some (O.rows 2 [[vc,vv]] false))) hp k:=fun o k hk=>by rw[zac,if_neg hk]
   have hbufs: ∀(o:Option O) x'',k2<x''->zz9 (updC (hpC (updC (hpC (hpC Hi hpa) hpb) (x'+1+4+15) (some (O.rows 2 [[vc,vv]] false))) hp) (nx+2+9) o) x x'' (.ms k2 0 (rows++[[vc,vv]]).length) (b.take (j+1)):=by
    intro o x'' hx'';refine⟨rows++[[vc,vv]],.inr ⟨k2,rfl,by omega,hx'',by rw[hkF _ _ (by omega)];exact hk2h⟩,by rw[List.length_append,hrl,List.length_take,List.length_take];simp;omega,?_,?_⟩
    ·intro r hr;rcases List.mem_append.1 hr with hr | hr
     ·exact hr2 r hr
     ·rw[List.mem_singleton]at hr;rw[hr];rfl
    ·intro q e0 hq;rw[zae he]at hq;have hjl:(b.take j).length=j:=by rw[List.length_take];omega
     rcases Nat.lt_or_ge q j with h1 | h1
     ·rw[List.getElem?_append_left (by omega)]at hq;obtain⟨r,hr,hE⟩:=hre q e0 hq;refine⟨r,by rw[List.getElem?_append_left (by rw[hrl];omega)];exact hr,hE.keep (Nat.le_refl _) (by omega) fun k a1 a2 a3=> ?_⟩;rw[hkF _ _ (by omega),hkp k a2 (.inr a3)]
     ·have hqj:q=j:=by
       have:=(zH.1 hq).1;rw[List.length_append,hjl,List.length_singleton]at this;omega
      subst hqj;rw[List.getElem?_append_right (by omega),hjl,Nat.sub_self]at hq;simp only[List.getElem?_cons_zero,zA]at hq;subst hq;refine⟨[vc,vv],by rw[List.getElem?_append_right (by rw[hrl,hjl];exact Nat.le_refl _),hrl,hjl,Nat.sub_self];rfl,?_⟩;have hec:rowsI e.cells≠[]:=fun h0=>hpr.ne (List.eq_nil_of_length_eq_zero (by rw[<- rowsI_len,h0];rfl))
      have hev:rowsI e.values≠[]:=fun h0=>hpr.ne (List.eq_nil_of_length_eq_zero (by rw[<- hpr.len,<- rowsI_len,h0];rfl))
      rcases hoa with⟨_,h0⟩ | ⟨kc,rfl,hkc,hkch⟩
      ·exact absurd h0 hec
      rcases hob with⟨_,h0⟩ | ⟨kv,rfl,hkv,hkvh⟩
      ·exact absurd h0 hev
      have qc:kc=x'+1+4+10:=by
       rcases Nat.decEq kc (x'+1+4+10)with h1 | h1
       ·exact absurd rfl (hfa kc h1 0 _)
       ·exact h1
      have qv:kv=x'+1+4+13:=by
       rcases Nat.decEq kv (x'+1+4+13)with h1 | h1
       ·exact absurd rfl (hfb kv h1 0 _)
       ·exact h1
      refine⟨kc,kv,by rw[rowsI_len,rowsI_len],by omega,by omega,by omega,by omega,?_,?_⟩
      ·rw[hkF _ _ (by omega),hkeep kc (by omega) (hoffv kc (.inr (.inl (by omega)))),zac,if_neg (by omega),hhb kc (by omega)];exact hkch
      ·rw[hkF _ _ (by omega),hkeep kv (by omega) (hoffv kv (.inr (.inl (by omega)))),zac,if_neg (by omega)];exact hkvh
   refine⟨by omega,by simp -dsimp only[go_sem,seval,hw'],.ms k2 0 (rows++[[vc,vv]]).length,by simp -dsimp only[go_sem,seval],?_,by simp -dsimp only[go_sem,seval];omega,?_⟩
   ·simp -dsimp only[go_sem,seval];exact hbufs _ _ (by omega)
   intro k hk hkB;simp -dsimp only[go_sem,seval,hkF _ k hkB];rw[hkp k (by omega) (.inl hk)];exact hfr' k hk hkB
  ·have:j=b.length:=by omega
   subst this;rw[List.take_length]at hbv;have htk:c.buf.take (i+1)=c.buf.take i++[b]:=zae hb;have hln:(c.buf.take i).length=i:=by rw[List.length_take];omega
   have hsn:=hbs.snoc (h':=Hi) (x:=x') (v:=v) (b:=b) (by rw[hln];omega) (fun k k1 k2=>by rw[hln]at k2;exact hfr' k (by omega) (by omega)) (by
    rw[hln];obtain⟨rows,hro,hrl,hr2,hre⟩:=hbv;refine⟨rows,?_,hrl,hr2,fun q e0 hq=> ?_⟩
    ·rcases hro with h | ⟨k,h1,h2,h3,h4⟩
     ·exact .inl h
     ·exact .inr ⟨k,h1,by omega,h3,h4⟩
    ·obtain⟨r,hr,hE⟩:=hre q e0 hq
     exact⟨r,hr,hE.keep hbi (Nat.le_refl _) fun _ _ _ _=>rfl⟩)
   rw[hln,<- htk]at hsn;refine⟨by omega,by simp -dsimp only[go_sem,seval,hw,h22],_,vs++[[v]],?_,hsn,by rw[if_pos (Nat.zero_le _)];exact hb0,by rw[if_neg (by omega)];simp -dsimp only[go_sem,seval];omega,?_⟩
   ·simp -dsimp only[go_sem,seval,hB'];rw[List.append_assoc];rfl
   ·intro k hk;simp -dsimp only[go_sem,seval,hfr' k (by omega) (by omega)];exact hfr k hk
 ·have hi2:i=c.buf.length:=by omega
  subst hi2;rw[Nat.sub_self,List.replicate_zero,List.append_nil]at hB;rw[List.take_length]at hbs
  have hM:zzB Ho 0 (nx+5) vM (rowsI c.mem):=by
   rcases ho1 with h1 | ⟨k,h1,h2,h3⟩
   ·exact .inl h1
   ·exact .inr ⟨k,h1,by omega,by omega,by rw[hfr k (by omega),hh2 k (by omega)];exact h3⟩
  have hA:zzB Ho (nx+5) (nx+8) vA (rowsI c.at_):=by
   rcases ho2 with h1 | ⟨k,h1,h2,h3⟩
   ·exact .inl h1
   ·have hk:k=nx+2+5:=by
     rcases Nat.decEq k (nx+2+5)with h4 | h4
     ·subst h1;exact absurd rfl (hf2 k h4 0 _)
     ·exact h4
    exact .inr ⟨k,h1,by omega,by omega,by rw[hfr k (by omega)];exact h3⟩
  refine⟨vM,vA,nx+2+9,rfl,nx+5,nx+8,bd,vs,hM,hA,by omega,by omega,by omega,hB,hbs,by simp -dsimp only[go_sem,seval];omega⟩
theorem writeO_den (m:List Int) (e:Entry) (hl:e.values.length=e.cells.length) (hs:e.cells.length<2^40) (hc: ∀n∈e.cells,0<=n/\n.toNat<m.length) (H:Nat->Option O) (nx k kc kv:Nat) (hk:H k=some (.rows 1 (rowsI m) false))
 (hkc:H kc=some (.rows 1 (rowsI e.cells) false)) (hkv:H kv=some (.rows 1 (rowsI e.values) false)) (h1:kc≠k) (h2:kv≠k):
 ∃r h' n',DenR Γ G 199 [.ms k 0 m.length,.agg [.ms kc 0 e.cells.length,.ms kv 0 e.values.length]] H nx=some (r,h',n')/\(r= .tup []/\h' k=some (.rows 1 (rowsI (putE m e)) false)/\(∀j,j≠k->h' j=H j)/\nx<=n'):=by
 (refine denR_ofY Γ199 rfl ?_;dsimp only[zBu])
 simp -dsimp only[go_sem,seval,hkc];refine zaj 8388144 e.cells.length (fun i f h x=>(f 9).v=vi i/\h k=some (.rows 1 (rowsI (putN m e i)) false)/\(∀j,j≠k->h j=H j)/\nx<=x) rfl ⟨by simp -dsimp only[go_sem,seval],by simp -dsimp only[go_sem,seval,hk,putN,List.take_zero,List.foldl_nil],fun j _=>rfl,by simp -dsimp only[go_sem,seval];omega⟩ ?_;rintro i f u H2 x bs hi ⟨h9,hh,hj,hx⟩;have hw:=zah i (by omega);have hkc':=hj kc h1;have hkv':=hj kv h2;rw[hkc]at hkc';rw[hkv]at hkv';simp -dsimp only[go_sem,seval,h9];refine csplit (fun h=> ?_) (fun h=> ?_)<;>(try rw[h])<;>(try simp only[zab]at h)<;>(try simp -dsimp only[go_sem,seval,h9])
 ·obtain⟨c,hcc,hcm⟩:=zaf ‹i<e.cells.length›;obtain⟨v,hv,_⟩:=zaf (show i<e.values.length by omega);obtain⟨c0,c1⟩:=hc c hcm;have hsucc:=zzc (m:=m) hcc hv;have hlen:=zzF m e i;have hgt:=zxo (l:=putN m e i) (i:=c.toNat) (by omega);have hst:=zxn (putN m e i) c.toNat v;have c2:c<(m.length:Int):=by omega
  have i0:(0:Int)<=(i:Int):=by omega
  have j1:i<e.cells.length:=by omega
  have j2:i<e.values.length:=by omega
  have i1:(i:Int)<(e.cells.length:Int):=by omega
  have i2:(i:Int)<(e.values.length:Int):=by omega
  have hr1:(rowsI e.cells)[i]? =some [vi c]:=by simp[rowsI,hcc]
  have hr2:(rowsI e.values)[i]? =some [vi v]:=by simp[rowsI,hv]
  simp -dsimp only[go_sem,seval,h9,hkc',hkv',i0,i1,i2,j1,j2,hr1,hr2,hh,c0,c2,hgt];refine⟨by omega,by simp -dsimp only[go_sem,seval,hw],?_,?_,by simp -dsimp only[go_sem,seval];omega⟩
  ·rw[hsucc];simp -dsimp only[go_sem,seval,hst]
  ·intro j hjk;simp -dsimp only[go_sem,seval,hjk,hj]
 ·have:i=e.cells.length:=by omega
  subst this;rw[zzG hl]at hh;refine⟨rfl,hh,hj,by simp -dsimp only[go_sem,seval];omega⟩
theorem delete_den (A:List (List V)) (hA: ∀r∈A,r.length=2) (hn:A.length<2^20) (i:Nat) (hi:i<A.length) (H:Nat->Option O) (nx k:Nat) (hk:H k=some (.rows 2 A false)) (hkn:k<nx):
 ∃r h' n',DenR Γ G 203 [.ms k 0 A.length,vi i,vi ((i+1:Nat):Int)] H nx=some (r,h',n')/\ ∃k',r= .ms k' 0 (A.length-1)/\h' k'=some (.rows 2 (A.eraseIdx i++[[.t .nils,.t .nils]]) false)/\(∀j,j<nx->j≠k->h' j=H j)/\(k'=k\/nx<=k'):=by
 have g1:(0:Int)<=(i:Int):=by omega
 have g2:(i:Int)<=((i+1:Nat):Int):=by omega
 have g3:((i+1:Nat):Int)<=(A.length:Int):=by omega
 have g4:(0:Int)<=((i+1:Nat):Int):=by omega
 have g5:(i:Int)<=(A.length:Int):=by omega
 have g6: ¬(i:Int)=((i+1:Nat):Int):=by omega
 have g7:(A.length:Int)<=(A.length:Int):=Int.le_refl _;have g8: ¬((i+1:Nat):Int)=0:=by omega
 have s0:((i:Int)-0).toNat=i:=by omega
 have s1:((A.length:Int)-((i+1:Nat):Int)).toNat=A.length-(i+1):=by omega
 have s2:i<=A.length:=by omega
 have s3:rowsS H (.ms k (i+1) (A.length-(i+1)))=some (A.drop (i+1)):=by
  simp only[rowsS,hk,rd];rw[if_pos (by omega),List.take_of_length_le (by simp)]
 have s4:(A.take i).length=i:=by rw[List.length_take];omega
 have hall: ∀l:List (List V),(∀r∈l,r∈A)->(l.all fun r=>decide (r.length=2))=true:=fun l hl=>List.all_eq_true.2 fun r hr=>by simpa using hA r (hl r hr)
 (refine denR_ofY Γ203 rfl ?_;dsimp only[f203])
 simp -dsimp only[go_sem,seval,hk,g1,g2,g3,g4,g5,g6,g7,g8,false_and,and_false,if_false,s0,s1,s2,s3];unfold appS;rw[if_pos ⟨⟨by rw[s4,List.length_drop];omega,by decide⟩,hall _ fun r hr=>List.mem_of_mem_drop hr,hall _ fun r hr=>List.mem_of_mem_take hr⟩];have hne:(A.length:Int)-1=((A.length-1:Nat):Int):=by omega
 by_cases hlast:i+1=A.length
 ·have hd:A.drop (i+1)=[]:=List.drop_of_length_le (by omega);rw[hd];simp only[List.isEmpty_nil,if_true,zbK,zaq];have q2:((A.length:Int)-(i:Int)).toNat=1:=by omega
  have q3: ¬(A.length:Int)<=(i:Int):=by omega
  have q4:znS H 2 (i:Int) (A.length:Int) (.ms k 0 i)=some (.ms k i 1):=by
   simp only[znS,hk];rw[if_pos ⟨trivial,by omega,by omega,by omega⟩];simp only[Int.toNat_natCast,Nat.zero_add,q2]
  have q5:A.take i++[[V.t T.nils,V.t T.nils]]++A.drop (i+1)=A.eraseIdx i++[[.t .nils,.t .nils]]:=by
   rw[List.eraseIdx_eq_take_drop_succ,hd];simp
  have q6:i+1<=A.length:=hi;simp -dsimp only[go_sem,seval,hk,g1,q2,q3,q4,false_and,and_false,if_false,List.replicate_one,q5,q6];refine⟨k,by rw[show A.length-1=i by omega];rfl,by simp[zau,zaq,zac],fun j _ hj=>by simp[zau,zaq,zac,hj],.inl rfl⟩
 ·have hd:(A.drop (i+1)).isEmpty=false:=by
   cases hdd:A.drop (i+1)with
   | nil=>have:=congrArg List.length hdd;rw[List.length_drop]at this;simp at this;omega
   | cons _ _=>rfl
  rw[hd];simp only[zG,if_false,hk,and_self,if_true,zbK];have hm:(A.take i).length+(A.drop (i+1)).length=A.length-1:=by rw[s4,List.length_drop];omega
  have q3: ¬(A.length:Int)<=((A.length-1:Nat):Int):=by omega
  have hR:appRows (A.take i) (A.drop (i+1)) A=A.eraseIdx i++A.drop (A.length-1):=by
   unfold appRows;rw[hm,if_neg (by omega),List.eraseIdx_eq_take_drop_succ]
  have hRl:(A.eraseIdx i++A.drop (A.length-1)).length=A.length:=by
   rw[List.length_append,List.length_eraseIdx_of_lt hi,List.length_drop];omega
  rw[hm,hR]
  have q4: ∀(h:Nat->Option O) q,znS (updC h q (some (O.rows 2 (A.eraseIdx i++A.drop (A.length-1)) false))) 2 ((A.length-1:Nat):Int) (A.length:Int) (.ms q 0 (A.length-1))=some (.ms q (A.length-1) 1):=by
   intro h q;simp only[znS,zac,if_true];rw[if_pos ⟨trivial,by omega,by omega,by rw[hRl];omega⟩];simp only[Int.toNat_natCast,Nat.zero_add]
   congr 1;congr 1;omega
  have e1:(A.eraseIdx i).length=A.length-1:=List.length_eraseIdx_of_lt hi
  have q5:(A.eraseIdx i++A.drop (A.length-1)).take (A.length-1)++[[V.t T.nils,V.t T.nils]]++(A.eraseIdx i++A.drop (A.length-1)).drop (A.length-1+1)=A.eraseIdx i++[[.t .nils,.t .nils]]:=by
   rw[List.take_append_of_le_length (by omega),List.take_of_length_le (by omega),List.drop_of_length_le (by rw[hRl];omega),List.append_nil]
  have q6:A.length-1+1<=(A.eraseIdx i++A.drop (A.length-1)).length:=by rw[hRl];omega
  simp -dsimp only[go_sem,seval,q3,q4,false_and,and_false,if_false,List.replicate_one,q5,q6];refine⟨_,rfl,by simp[zau,zaq,zac],fun j hj hne=> ?_,.inr (by omega)⟩;have hjn:j≠nx+1+6+3+3+6:=by omega
  rw[zau,zaq,zau,zau,zaq,zac,if_neg hjn,zac,if_neg hjn,zac,if_neg hne]
end Rg
end

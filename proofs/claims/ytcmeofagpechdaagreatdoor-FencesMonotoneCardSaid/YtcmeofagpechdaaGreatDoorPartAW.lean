/- Part of the proof of laws of relyguardlaw31. No condition. -/
import Derived.Test.YtcmeofagpechdaaGreatDoorPartAV
import Derived.Test.YtcmeofagpechdaaGreatDoorPartAR
set_option linter.unusedSimpArgs false
set_option linter.unusedVariables false
section
namespace Rg
open Go
def OwnB (h:Nat->Option O) (x:Nat) (v:V) (sz:Nat) (rows:List (List V)):Prop:=
 (v= .t .nils/\rows=[])\/ ∃k,v= .ms k 0 rows.length/\k<x/\h k=some (.rows sz rows false)
theorem OwnB.rowsS {h:Nat->Option O} {x:Nat} {v:V} {sz:Nat} {rows:List (List V)} (o:OwnB h x v sz rows):rowsS h v=some rows:=by
 rcases o with⟨rfl,rfl⟩ | ⟨k,rfl,_,hk⟩
 ·rfl
 ·simp[Rg.rowsS,hk,rd]
theorem OwnB.lenS {h:Nat->Option O} {x:Nat} {v:V} {sz:Nat} {rows:List (List V)} (o:OwnB h x v sz rows):lenS h v=some rows.length:=by
 rcases o with⟨rfl,rfl⟩ | ⟨k,rfl,_,hk⟩
 ·rfl
 ·simp[Rg.lenS,hk]
theorem OwnB.valOf {h:Nat->Option O} {x:Nat} {v:V} {sz:Nat} {rows:List (List V)} (o:OwnB h x v sz rows):valOf v=some v:=by
 rcases o with⟨rfl,rfl⟩ | ⟨k,rfl,_,hk⟩<;>rfl
theorem zmM {h:Nat->Option O} {x q sz bytes:Nat} {u:V} {a b:List (List V)} {K:V->List (Nat×O)->Prop} {w:WK K}
 (ho:OwnB h x u sz a) (hx:x<=q) (hlen:a.length+b.length<=2^32) (hby:bytes<=2^12) (hb:(b.all fun r=>decide (r.length=sz))=true) (ha:(a.all fun r=>decide (r.length=sz))=true)
 (hK: ∀v hp,OwnB (hpC h hp) (q+1) v sz (a++b)->(∀j,j<q->(∀i n,u≠ .ms j i n)->hpC h hp j=h j)->(∀j,q<j->hpC h hp j=h j)->K v hp):
 zft false (appS h q sz bytes u a b) K w:=by
 unfold appS;rw[if_pos ⟨⟨hlen,hby⟩,hb,ha⟩]
 cases b with
 | nil=>
   simp only[List.isEmpty_nil,if_true,zbK];refine hK _ _ ?_ (fun j _ _=>by rw[zaq]) (fun j _=>by rw[zaq]);rw[zaq,List.append_nil];rcases ho with h1 | ⟨k,h1,h2,h3⟩
   ·exact .inl h1
   ·exact .inr ⟨k,h1,by omega,h3⟩
 | cons r b=>
   simp only[List.isEmpty_cons,zG,if_false];rcases ho with⟨rfl,rfl⟩ | ⟨k,rfl,hk,hh⟩
   ·simp only[zbK];refine hK _ _ (.inr ⟨q,rfl,by omega,?_⟩) (fun j hj _=> ?_) (fun j hj=> ?_)
    ·simp[zau,zaq,zac]
    ·have:j≠q:=by omega
     simp[zau,zaq,zac,this]
    ·have:j≠q:=by omega
     simp[zau,zaq,zac,this]
   ·simp only[hh,and_self,if_true,zbK,zcM];refine hK _ _ (.inr ⟨q,by rw[List.length_append],by omega,?_⟩) (fun j hj hne=> ?_) (fun j hj=> ?_)
    ·simp[zau,zaq,zac]
    ·have h1:j≠q:=by omega
     have h2:j≠k:=by rintro rfl;exact hne 0 _ rfl
     simp[zau,zaq,zac,h1,h2]
    ·have h1:j≠q:=by omega
     have h2:j≠k:=by omega
     simp[zau,zaq,zac,h1,h2]
theorem zgV {h:Nat->Option O} {x q sz bytes k0 n0:Nat} {a b:List (List V)} {K:V->List (Nat×O)->Prop} {w:WK K}
 (hh:h k0=some (.rows sz a false)) (hn:n0=a.length) (hx:k0<x) (hxq:x<=q) (hlen:a.length+b.length<=2^32) (hby:bytes<=2^12) (hb:(b.all fun r=>decide (r.length=sz))=true) (ha:(a.all fun r=>decide (r.length=sz))=true)
 (hK: ∀k hp,k<q+1->hpC h hp k=some (.rows sz (a++b) false)->(∀j,j<q->j≠k0->hpC h hp j=h j)->(∀j,q<j->hpC h hp j=h j)->K (.ms k 0 (a++b).length) hp):
 zft false (appS h q sz bytes (.ms k0 0 n0) a b) K w:=by
 subst hn;unfold appS;rw[if_pos ⟨⟨hlen,hby⟩,hb,ha⟩]
 cases b with
 | nil=>
   simp only[List.isEmpty_nil,if_true,zbK];have:=hK k0 [] (by omega) (by rw[zaq,List.append_nil];exact hh) (fun j _ _=>by rw[zaq]) (fun j _=>by rw[zaq])
   rwa[List.append_nil]at this
 | cons r b=>
   simp only[List.isEmpty_cons,zG,if_false,hh,and_self,if_true,zbK,zcM]
   have:=hK q [(k0,.dead),(q,.rows sz (a++r::b) false)] (by omega) (by simp[zau,zaq,zac]) (fun j hj hne=>by
    have h1:j≠q:=by omega
    simp[zau,zaq,zac,h1,hne]) (fun j hj=>by
    have h1:j≠q:=by omega
    have h2:j≠k0:=by omega
    simp[zau,zaq,zac,h1,h2])
   rwa[List.length_append]at this
def zh1 (p:Prog) (e:Expr):Prop:= ∀op,op=2\/op=3-> ∀c∈e.sup op,0<=c/\c<p.cells.length
def mayR (p:Prog) (shared:Bool) (t c:Int):Bool:=match p.cells[c.toNat]? with
 | some x=> !((decide (x.thread= -1)&& !shared)||(decide (0<=x.thread)&&decide (x.thread≠t)))
 | none=>false
theorem zdc (op:Int) (e:Expr):(e.sup op).length<=32:=by
 unfold Expr.sup;split
 ·unfold marked;rw[List.length_map];exact Nat.le_trans (List.length_filter_le _ _) (by simp)
 ·simp
theorem ziC (l:List Int):(l.map fun n=>[ti n]).map (fun x=>x.map V.t)=rowsI l:=rfl
theorem zkN (p:Prog) (e:Expr) (sh:Bool) (t:Int) (hin:zh1 p e):
 Den Γ G 115 [(.agg [.t (.sl ((p).cells.map (Cell.enc))),.t (.sl ((p).modules.map (Contract.enc))),.t (.sl ((p).locks.map (Lock.enc))),.t (.sl ((p).threads.map (Thread.enc)))]),(.agg [.t (ti (e).op),.t (ti (e).w),.t (ti (e).n),.t (.sl ((e).kids.map (Expr.enc)))]),vb sh,vi t]=some (vb ((e.sup 3++e.sup 2).all (mayR p sh t))):=by
 (refine den_ofY Γ115 rfl ?_;dsimp only[f115])
 have h1:=zgB e;have s3:=zdc 3 e;have s2:=zdc 2 e
 have hall: ∀c∈e.sup 3++e.sup 2,0<=c/\c<p.cells.length:=by
  intro c hc;rcases List.mem_append.1 hc with hc | hc
  ·exact hin 3 (.inr rfl) c hc
  ·exact hin 2 (.inl rfl) c hc
 have hap:rowsI (e.sup 3)++rowsI (e.sup 2)=rowsI (e.sup 3++e.sup 2):=by simp[rowsI]
 have hlen:(e.sup 3++e.sup 2).length<=64:=by rw[List.length_append];omega
 simp -dsimp only[go_sem,seval,h1,ziC];refine zgV (x:=11) (by simp -dsimp only[go_sem,seval]) rfl (by decide) (by decide) (by rw[zai];simp;omega) (by decide) (rowsI_all _) (by decide) ?_;intro k hp hk hh _ _;rw[List.nil_append]at hh⊢;simp -dsimp only[go_sem,seval,hh,ziC,Nat.le_refl,List.take_length];refine zgV hh rfl hk (by decide) (by rw[zai,zai];omega) (by decide) (rowsI_all _) (rowsI_all _) ?_;intro k2 hp2 hk2 hh2 _ _;rw[hap]at hh2⊢
 generalize e.sup 3++e.sup 2=l at *
 obtain⟨M,hM⟩: ∃M,M=mayR p sh t:=⟨_,rfl⟩
 rw[<- hM];replace hM: ∀c,mayR p sh t c=M c:=fun c=>by rw[hM]
 cases sh
 all_goals(
  simp -dsimp only[go_sem,seval];refine zaj 18014398492717312 l.length (fun i f hh x=>(f 12).v=vi i/\hh k2=some (.rows 1 (rowsI l) false)/\(l.take i).all M=true) rfl ⟨by simp -dsimp only[go_sem,seval],by simp -dsimp only[go_sem,seval,hh2],by simp⟩ ?_;clear hh2;rintro i f u hh x bs hi ⟨h12,hh2,htk⟩;have hwi:=zah i (by omega);simp -dsimp only[go_sem,seval,h12,hh2,zai];refine csplit (fun h=> ?_) (fun h=> ?_)<;>(try simp only[zab]at h)<;>(try simp -dsimp only[go_sem,seval, *])
  ·obtain⟨c,hc,hm⟩:=zaf (show i<l.length by omega);obtain⟨c0,c1⟩:=hall c hm;obtain⟨y,hy⟩: ∃y,p.cells[c.toNat]? =some y:=⟨_,zI (by omega)⟩
   have hrow:(rowsI l)[i]? =some [vi c]:=by simp[rowsI,hc]
   have hi0:(0:Int)<=(i:Int):=by omega
   have hi1:i<l.length:=by omega
   have hmay:=(hM c).symm;simp only[mayR,hy]at hmay;have hno:M c=false->l.all M=false:=fun h0=>zaZ hm h0
   simp -dsimp only[go_sem,seval,h12,hh2,hrow,hi1,c0,hy,zai]
   repeat'(refine csplit (fun h=> ?_) (fun h=> ?_)<;>(try simp only[zab]at h)<;>(try simp -dsimp only[go_sem,seval, *]))
   all_goals first
    | (rw[hno (by rw[hmay];simp[*])];done)
    | (refine⟨by omega,by simp -dsimp only[go_sem,seval,hwi],by simp -dsimp only[go_sem,seval,hh2],?_⟩
       rw[zae hc,List.all_append,htk];simp only[List.all_cons,List.all_nil,hmay]
       simp[*];(try omega);done)
  ·have:i=l.length:=by omega
   subst this;rw[List.take_length]at htk
   rw[htk])
end Rg
end
section
namespace Rg
open Go
theorem OwnB.upd {h:Nat->Option O} {x:Nat} {v:V} {sz:Nat} {rows:List (List V)} (o:OwnB h x v sz rows) {q:Nat} (hq:x<=q) (b:Option O):OwnB (updC h q b) (q+1) v sz rows:=by
 rcases o with o | ⟨k,h1,h2,h3⟩
 ·exact .inl o
 ·exact .inr ⟨k,h1,by omega,by rw[zac,if_neg (by omega)];exact h3⟩
theorem OwnB.le {h:Nat->Option O} {x y:Nat} {v:V} {sz:Nat} {rows:List (List V)} (o:OwnB h x v sz rows) (hq:x<=y):OwnB h y v sz rows:=by
 rcases o with o | ⟨k,h1,h2,h3⟩
 ·exact .inl o
 ·exact .inr ⟨k,h1,by omega,h3⟩
theorem OwnB.r1 {h:Nat->Option O} {x:Nat} {v:V} {sz:Nat} {rows:List (List V)} (o:OwnB h x v sz rows) (a:Nat) (b:Option O):Rg.rowsS (updC h (x+a) b) v=some rows:=(o.upd (by omega) b).rowsS
theorem OwnB.r2 {h:Nat->Option O} {x:Nat} {v:V} {sz:Nat} {rows:List (List V)} (o:OwnB h x v sz rows) (a c:Nat) (b:Option O):Rg.rowsS (updC h (x+a+c) b) v=some rows:=(o.upd (by omega) b).rowsS
theorem OwnB.r3 {h:Nat->Option O} {x:Nat} {v:V} {sz:Nat} {rows:List (List V)} (o:OwnB h x v sz rows) (a c d:Nat) (b:Option O):Rg.rowsS (updC h (x+a+c+d) b) v=some rows:=(o.upd (by omega) b).rowsS
theorem OwnB.r4 {h:Nat->Option O} {x:Nat} {v:V} {sz:Nat} {rows:List (List V)} (o:OwnB h x v sz rows) (a c d e:Nat) (b:Option O):Rg.rowsS (updC h (x+a+c+d+e) b) v=some rows:=(o.upd (by omega) b).rowsS
theorem OwnB.r5 {h:Nat->Option O} {x:Nat} {v:V} {sz:Nat} {rows:List (List V)} (o:OwnB h x v sz rows) (a c d e f:Nat) (b:Option O):Rg.rowsS (updC h (x+a+c+d+e+f) b) v=some rows:=(o.upd (by omega) b).rowsS
theorem OwnB.reify {h:Nat->Option O} {x:Nat} {v:V} {sz:Nat} {es:List (List T)} (o:OwnB h x v sz (es.map (·.map V.t))) (hn: ∀e∈es,∀t∈e,T.norm t=t):Rg.reify h v=some (.t (.sl es)):=by
 have:=zbu o hn;rcases o with⟨rfl,he⟩ | ⟨k,rfl,_,_⟩
 ·have:es=[]:=by simpa using he
  subst this;rfl
 ·simp only[Rg.reify,toT1,this,Option.map_some]
theorem OwnB.one {h:Nat->Option O} {x:Nat} {v:V} {sz:Nat} {rows:List (List V)} (o:OwnB h x v sz rows):v.one=true:=by
 rcases o with⟨rfl,_⟩ | ⟨k,rfl,_,_⟩<;>rfl
theorem OwnB.resVal {h:Nat->Option O} {x:Nat} {v:V} {sz:Nat} {rows:List (List V)} (o:OwnB h x v sz rows):Rg.resVal v=some v:=by
 rcases o with⟨rfl,_⟩ | ⟨k,rfl,_,_⟩<;>rfl
def zc1 (v:V) (k:Nat):Prop:= ∀i n,v≠ .ms k i n
theorem offK_ms {q k:Nat} (h:k≠q) (i n:Nat):zc1 (.ms q i n) k:=by
 intro i' n' he;cases he;exact h rfl
theorem OwnB.off {h:Nat->Option O} {x:Nat} {v:V} {sz:Nat} {rows:List (List V)} (o:OwnB h x v sz rows) {k:Nat} (hk:x<=k):zc1 v k:=by
 rcases o with⟨rfl,_⟩ | ⟨k',rfl,h2,_⟩
 ·intro i n he;cases he
 ·exact offK_ms (by omega) _ _
theorem zas {h:Nat->Option O} {x q sz bytes:Nat} {u:V} {a:List (List V)} {r:List V} {K:V->List (Nat×O)->Prop} {w:WK K}
 (ho:OwnB h x u sz a) (hx:x<=q) (hlen:a.length<2^32) (hby:bytes<=2^12) (hb:r.length=sz) (ha:(a.all fun r=>decide (r.length=sz))=true)
 (hK: ∀v hp,OwnB (hpC h hp) (q+1) v sz (a++[r])->(∀j,j<x->zc1 v j)->(∀j,j<x->zc1 u j->hpC h hp j=h j)->K v hp):
 zft false (appS h q sz bytes u a [r]) K w:=by
 unfold appS;rw[if_pos ⟨⟨by simp;omega,hby⟩,by simp[hb],ha⟩];simp only[List.isEmpty_cons,zG,if_false];rcases ho with⟨rfl,rfl⟩ | ⟨k,rfl,hk,hh⟩
 ·simp only[zbK];refine hK _ _ (.inr ⟨q,rfl,by omega,?_⟩) (fun j hj=>offK_ms (by omega) _ _) (fun j hj _=> ?_)
  ·simp[zau,zaq,zac]
  ·have:j≠q:=by omega
   simp[zau,zaq,zac,this]
 ·simp only[hh,and_self,if_true,zbK,zcM];refine hK _ [(k,.dead),(q,.rows sz (a++[r]) false)] (.inr ⟨q,by rw[List.length_append],by omega,by simp[zau,zaq,zac]⟩) (fun j hj=>offK_ms (by omega) _ _) (fun j hj hne=> ?_);have h1:j≠q:=by omega
  have h2:j≠k:=by rintro rfl;exact hne 0 _ rfl
  simp[zau,zaq,zac,h1,h2]
theorem OwnB.keep {h h':Nat->Option O} {x y:Nat} {v:V} {sz:Nat} {rows:List (List V)} (o:OwnB h x v sz rows) (hxy:x<=y) (hh: ∀k,k<x-> ¬zc1 v k->h' k=h k):OwnB h' y v sz rows:=by
 rcases o with o | ⟨k,rfl,h2,h3⟩
 ·exact .inl o
 ·exact .inr ⟨k,rfl,by omega,by rw[hh k h2 (fun h0=>h0 _ _ rfl)];exact h3⟩
theorem zlx {h:Nat->Option O} {key g sz:Nat} {vs rs:List V} {es:List (List T)} {K:V->List (Nat×O)->Prop} {w:WK K} (ht:vs.all V.tree=true) (hrs:vs.mapM (toT1 h)=some rs)
 (hd: ∃r h' n',DenR Γ G g rs (fun _=>none) 0=some (r,h',n')/\OwnB h' n' r sz (es.map (·.map V.t)))
 (hK: ∀v hp,OwnB (hpC h hp) (key+1) v sz (es.map (·.map V.t))->(∀j,j≠key->hpC h hp j=h j)->(∀j,j≠key->zc1 v j)->K v hp):zq6 (Γ:=Γ) (G:=G) false h key g vs K w:=by
 obtain⟨r,h',n',hden,hown⟩:=hd
 have hreach:vs.flatMap (reach1 h)=[]:=by
  simp only[List.flatMap_eq_nil_iff];intro v hv;exact zfs (List.all_eq_true.1 ht v hv)
 refine⟨rfl,hreach,rs,hrs,r,h',n',hden,?_⟩;rcases hown with⟨rfl,he⟩ | ⟨k,rfl,hk,hh⟩
 ·refine⟨{ val:=.t .nils },rfl,hK _ _ (.inl ⟨rfl,he⟩) (fun j _=>by rw[zaq]) (fun j _ i n h=>by cases h)⟩
 ·have hall:(es.map (·.map V.t)).all (fun row=>row.all V.isTr)=true:=by
   simp[V.isTr]
  refine⟨{ val:=.ms key 0 (es.map (·.map V.t)).length,hp:=[(key,.rows sz (es.map (·.map V.t)) false)] },?_,hK _ _ (.inr ⟨key,rfl,by omega,by simp[zau,zaq,zac]⟩) (fun j hj=>by simp[zau,zaq,zac,hj]) (fun j hj=>offK_ms (by omega) _ _)⟩;simp only[zwC,hh];rw[if_pos ⟨trivial,trivial,hall⟩]
def zpb:Task->Out->Prop
 | .code _ s,.code _ s'=>s.nxt<=s'.nxt
 | .loop _ s,.code _ s'=>s.nxt<=s'.nxt
 | .ops _ _ _ s,.ops s'=>s.nxt<=s'.nxt
 | .rcall _ _ _ n,.vals _ _ n'=>n<=n'
 | _,_=>True
theorem zo3 {Γ:Nat->Option F} {G:Nat->List T} {t:Task} {o:Out} (h:Big Γ G t o):zpb t o:=by
 induction h with
 | rext hg hr hb h=>exact(ext_frame h).1
 | opsYield hw hf ho hfv hkk hvs hlen hca hk1 hcb hk2 h iha ihb ih=>
   simp only[zpb,St.apply,roundSt]at *
   omega
 | _=>simp_all [zpb,St.begin,St.apply,St.init]<;>omega
theorem zno {Γ:Nat->Option F} {G:Nat->List T} {g:Nat} {args:List V} {h h':Nat->Option O} {n n':Nat} {r:V} (hd:DenR Γ G g args h n=some (r,h',n')):n<=n':=zo3 (denR_iff.1 hd)
theorem nxt_of {Γ:Nat->Option F} {G:Nat->List T} {g:Nat} {args:List V} {h:Nat->Option O} {n:Nat} {P:V->(Nat->Option O)->Nat->Prop} (hd: ∃r h' n',DenR Γ G g args h n=some (r,h',n')/\P r h' n'):
 ∃r h' n',DenR Γ G g args h n=some (r,h',n')/\(P r h' n'/\n<=n'):=
 let⟨r,h',n',h1,h2⟩:=hd
 ⟨r,h',n',h1,h2,zno h1⟩
theorem supportP_den (e:Expr) (H0:Nat->Option O) (n0:Nat):
 ∃r h' n',DenR Γ G 60 [(.agg [.t (ti (e).op),.t (ti (e).w),.t (ti (e).n),.t (.sl ((e).kids.map (Expr.enc)))])] H0 n0=some (r,h',n')/\ ∃v3 v2,r= .tup [v3,v2]/\OwnB h' n' v3 1 (rowsI (e.sup 3))/\OwnB h' n' v2 1 (rowsI (e.sup 2))/\n0<=n'/\ ∀k,k<n0->h' k=H0 k/\zc1 v3 k/\zc1 v2 k:=by
 (refine denR_ofY Γ60 rfl ?_;dsimp only[f60])
 have h1:=zc2 e
 by_cases hf:e.formed=true
 ·simp -dsimp only[go_sem,seval,h1,hf];have hd:=formed_deep hf;refine zav (nxt_of (leaves_den 77 _ (fun s h=>IS (n0+0) (n0+3+3+0) (n0+3+3+1) e s h/\ ∀k,k<n0->h k=H0 k) (fun s x=>(markS 3 s.1 x,markS 2 s.2 x)) lcS ?_ e _ (List.replicate 32 false,List.replicate 32 false) _ _ (deep_lcS 40 e hd) ⟨⟨rfl,rfl,?_,?_,?_⟩,?_⟩ (fun s h hI=> .inr ⟨n0+0,false,rfl,hI.1.2.2.2.2⟩))) ?_
  ·rintro s h n v x ⟨hI,hkp⟩ hk hl hs;obtain⟨r,h',n',hd,hI',hkp'⟩:=zgC (n0+0) (n0+3+3+0) (n0+3+3+1) e (by omega) (by omega) (by omega) s h n v x hI hk hl hs;exact⟨r,h',n',hd,hI',fun k hk=>(hkp' k (by omega) (by omega)).trans (hkp k hk)⟩
  ·rw[zac,if_neg (by omega),zac,if_pos rfl];rfl
  ·rw[zac,if_pos rfl];rfl
  ·rw[zac,if_neg (by omega),zac,if_neg (by omega),zac,if_pos rfl]
  ·intro k hk;rw[zac,if_neg (by omega),zac,if_neg (by omega),zac,if_neg (by omega)]
  rintro r h' n' ⟨⟨hI,hkp⟩,hnn⟩;rw[zdT]at hI;obtain⟨l1,l2,i4,i5,i1⟩:=hI;change h' (n0+3+3+0)=some (.rows 32 [vbs (e.occ 3)] false)at i4;change h' (n0+3+3+1)=some (.rows 32 [vbs (e.occ 2)] false)at i5;have o3:=zgc 3 e;have o2:=zgc 2 e;have v3:(vbs (e.occ 3)).length=32:=by simp[vbs,o3]
  have v2:(vbs (e.occ 2)).length=32:=by simp[vbs,o2]
  have t3:List.take 32 (vbs (e.occ 3))=vbs (e.occ 3):=List.take_of_length_le (by omega);have t2:List.take 32 (vbs (e.occ 2))=vbs (e.occ 2):=List.take_of_length_le (by omega);have m3:=zeH (e.occ 3) o3;have m2:=zeH (e.occ 2) o2;change ∃r h' n',DenR Γ G 78 [V.agg (vbs (e.occ 3))] (fun _=>none) 0=some (r,h',n')/\_ at m3;change ∃r h' n',DenR Γ G 78 [V.agg (vbs (e.occ 2))] (fun _=>none) 0=some (r,h',n')/\_ at m2
  have tr: ∀l:List Bool,[V.agg (vbs l)].all V.tree=true:=fun l=>by
   simp only[List.all_cons,List.all_nil,Bool.and_true,V.tree,vbs,List.all_map,List.all_eq_true];intros;rfl
  have mt: ∀(g:Nat->Option O) (l:List Bool),[V.agg (vbs l)].mapM (toT1 g)=some [V.agg (vbs l)]:=fun g l=>by
   have:List.mapM (toT g 1000) (vbs l)=some (l.map fun b=>tb b):=by
    refine zbd _ _ _ (fun i a ha=> ?_) (by simp[vbs]);rw[vbs,zJ]at ha;rw[zJ]
    cases hb:l[i]? with
    | none=>rw[hb]at ha;simp at ha
    | some x=>rw[hb]at ha;simp at ha;subst ha;exact⟨_,rfl,rfl⟩
   have h2:List.map V.t (l.map fun b=>tb b)=vbs l:=by simp[vbs]
   simp only[List.mapM_cons,List.mapM_nil,toT1,this,Option.map_some,h2];rfl
  simp -dsimp only[go_sem,seval,i4,v3,t3];refine zlx (tr _) (mt _ _) m3 ?_;intro w3 hp3 hO3 hk3 hf3;have x3:=hO3.valOf;have i5':=(hk3 (n0+3+3+1) (by omega)).trans i5;simp -dsimp only[go_sem,seval,i5',v2,t2,x3];refine zlx (tr _) (mt _ _) m2 ?_;intro w2 hp2 hO2 hk2 hf2;have x2:=hO2.valOf;have y3:=hO3.resVal;have y2:=hO2.resVal;simp only[Rg.resVal]at y3 y2;simp -dsimp only[go_sem,seval,x3,x2,y3,y2];have hs: ∀op,marked (e.occ op) 32=e.sup op:=fun op=>by simp[Expr.sup,hf]
  have hO3':=hO3.keep (y:=n'+6) (h':=hpC (hpC h' hp3) hp2) (by omega) (fun k hk _=>hk2 k (by omega));have ha: ∀l:List ROp,l.length=6->addC n' l=n'+6:=fun l hl=>by rw[zfb];simp[hl]
  refine⟨w3,w2,rfl,?_,?_,?_,fun k hk=>⟨?_,hf3 k (by omega),hf2 k (by omega)⟩⟩
  ·rw[<- hs 3,ha _ rfl];exact hO3'
  ·rw[<- hs 2,ha _ rfl];exact hO2.le (by omega)
  ·rw[ha _ rfl];omega
  ·rw[hk2 k (by omega),hk3 k (by omega)];exact hkp k hk
 ·have hf:e.formed=false:=by simpa using hf
  simp -dsimp only[go_sem,seval,h1,hf];have hs: ∀op,e.sup op=[]:=fun op=>by simp[Expr.sup,hf]
  rw[hs,hs];exact⟨_,_,rfl,.inl ⟨rfl,rfl⟩,.inl ⟨rfl,rfl⟩,Nat.le_trans (addC_le _ _) (Nat.le_trans (addC_le _ _) (addC_le _ _)),fun k hk=>⟨by rw[zac,if_neg (by omega)],(fun i n h=>by cases h),(fun i n h=>by cases h)⟩⟩
def feGo {α:Type} (f:Nat->α->Int):Nat->List α->Int×Int
 | _,[]=>(0,-1)
 | i,x::r=>if f i x=0 then feGo f (i+1) r else(f i x,i)
theorem zba {α:Type} {l:List α} {i:Nat} {x:α} (h:l[i]? =some x):l.drop i=x::l.drop (i+1):=by
 obtain⟨hi,rfl⟩:=zH.1 h;exact List.drop_eq_getElem_cons hi
theorem zbh {α:Type} {f:Nat->α->Int} {l:List α} {i:Nat} {x:α} (h:l[i]? =some x) (h0:f i x=0):feGo f i (l.drop i)=feGo f (i+1) (l.drop (i+1)):=by
 rw[zba h,feGo,if_pos h0]
theorem fe_stop {α:Type} {f:Nat->α->Int} {l:List α} {i:Nat} {x:α} (h:l[i]? =some x) (h0: ¬f i x=0):feGo f i (l.drop i)=(f i x,(i:Int)):=by
 rw[zba h,feGo,if_neg h0]
theorem zbQ {α:Type} (f:Nat->α->Int) (l:List α):feGo f l.length (l.drop l.length)=(0,-1):=by
 rw[List.drop_length];rfl
theorem zaN {α:Type} {P:α->Bool} {l:List α} {i:Nat} {x:α} (h:l[i]? =some x) (h0:P x=true):(l.drop i).all P=(l.drop (i+1)).all P:=by
 rw[zba h,List.all_cons,h0,Bool.true_and]
theorem zaM {α:Type} {P:α->Bool} {l:List α} {i:Nat} {x:α} (h:l[i]? =some x) (h0:P x=false):(l.drop i).all P=false:=by
 rw[zba h,List.all_cons,h0,Bool.false_and]
theorem za0 {α:Type} (P:α->Bool) (l:List α):(l.drop l.length).all P=true:=by
 rw[List.drop_length];rfl
theorem zbT {α:Type} {P:α->Bool} {l:List α} {i:Nat} {x:α} (h:l[i]? =some x) (h0:P x=false):(l.drop i).any P=(l.drop (i+1)).any P:=by
 rw[zba h,List.any_cons,h0,Bool.false_or]
theorem zgt {α:Type} {P:α->Bool} {l:List α} {i:Nat} {x:α} (h:l[i]? =some x) (h0:P x=true):(l.drop i).any P=true:=by
 rw[zba h,List.any_cons,h0,Bool.true_or]
theorem zil {α:Type} (P:α->Bool) (l:List α):(l.drop l.length).any P=false:=by
 rw[List.drop_length];rfl
def mayP (p:Prog) (sh:Bool) (t c:Int):Bool:=if sh then sees p t c else ofThread p t c
def overOk (p:Prog) (e:Expr) (sh:Bool) (t:Int):Bool:=(e.sup 3).all (mayP p sh t)&&(e.sup 2).all (mayP p sh t)
def truthOk (p:Prog) (e:Expr) (pair:Bool) (t:Int):Bool:=e.valid p.cells pair&&decide (e.w=1)&&overOk p e true t
def zao (x:Thread):Bool:=decide (x.points>48)||decide ((x.steps.length:Int)>64)||decide ((x.loops.length:Int)>8)
def limitsM (p:Prog):Int×Int:=
 if(p.cells.length:Int)>32\/(p.modules.length:Int)>6\/(p.locks.length:Int)>4\/(p.threads.length:Int)>4 then(2,-1)
 else feGo (fun _ x=>if zao x then 2 else 0) 0 p.threads
def zaY (p:Prog) (c:Cell):Bool:=
 !isLabel c.name||decide (c.w<1)||decide (c.w>8)||decide (c.init<0)||decide (c.init>=2^c.w.toNat)||decide (c.thread< -1)||decide (c.thread>=p.threads.length) || !inR c.module p.modules.length
def cellErr (p:Prog) (i:Nat) (c:Cell):Int:=
 if zaY p c then 1 else if(p.cells.take i).any (fun d=>d.name.toList==c.name.toList)then 41 else 0
def cellsM (p:Prog):Int:=(feGo (cellErr p) 0 p.cells).1
def modErr (p:Prog) (i:Nat) (m:Contract):Int:=
 if !isLabel m.name || !isLabel m.owner then 1
 else if(p.modules.take i).any (fun d=>d.name.toList==m.name.toList)then 41
 else if(!m.rely.absent&& !truthOk p m.rely true (-1)) || !truthOk p m.guar true (-1)then 60
 else if !rising m.frame || !m.frame.all (ofThread p (-1))then 1 else 0
def modulesM (p:Prog):Int:=(feGo (modErr p) 0 p.modules).1
def zaJ (p:Prog) (c:Int) (f:Cell->Bool):Bool:=match p.cells[c.toNat]? with
 | some x=>f x
 | none=>false
def lockErr (p:Prog) (i:Nat) (l:Lock):Int:=
 if !ofThread p (-1) l.cell || !zaJ p l.cell (fun x=>decide (x.w=1))||zaJ p l.cell Cell.ghost || !inR l.module p.modules.length then 1
 else if(p.locks.take i).any (fun d=>decide (d.cell=l.cell))then 1
 else if !truthOk p l.inv false (-1)then 60 else 0
def locksM (p:Prog):Int:=(feGo (lockErr p) 0 p.locks).1
def setErr (p:Prog) (set:List Assign) (i:Nat) (a:Assign):Int:=
 if !inR a.cell p.cells.length||(set.take i).any (fun b=>decide (b.cell=a.cell))then 70
 else if !a.to.valid p.cells false || !zaJ p a.cell (fun x=>decide (a.to.w=x.w))then 60 else 0
def valuesOk (p:Prog) (s:Step) (sh:Bool) (t:Int):Bool:=overOk p s.guard sh t&&s.set.all fun a=>overOk p a.to sh t
def joinOk (p:Prog) (t:Int) (s:Step):Bool:=s.guard.one&&decide (s.set=[])&&decide (s.target≠t)&&inR s.target p.threads.length
def zbS (p:Prog) (t:Int):Bool:=match p.threads[t.toNat]? with
 | some x=>x.asleep
 | none=>false
def loadOk (p:Prog) (t:Int) (s:Step):Bool:=match s.set with
 | []=>false
 | a::r=>overOk p s.guard false t&&ofThread p t a.cell&& !zaJ p a.cell Cell.ghost&&decide (a.to.op=2)&&ofThread p (-1) a.to.n&& !zaJ p a.to.n Cell.ghost&&
    r.all fun b=>ofThread p t b.cell&&zaJ p b.cell Cell.ghost&&overOk p b.to false t
def storeOk (p:Prog) (t:Int) (s:Step):Bool:=match s.set with
 | []=>false
 | a::r=>valuesOk p s false t&&ofThread p (-1) a.cell&& !zaJ p a.cell Cell.ghost&&r.all fun b=>zaJ p b.cell Cell.ghost&&sees p t b.cell
def kindOk (p:Prog) (t:Int) (s:Step):Bool:=
 if s.kind=1 then valuesOk p s false t&&s.set.all fun a=>ofThread p t a.cell
 else if s.kind=2 then loadOk p t s
 else if s.kind=3 then storeOk p t s
 else if s.kind=4 then valuesOk p s true t&&s.set.all fun a=>sees p t a.cell
 else if s.kind=5 then s.guard.one&&decide (s.set=[])
 else if s.kind=6 then joinOk p t s&&zbS p s.target
 else joinOk p t s
def zbl (p:Prog) (n:Int) (s:Step):Bool:=
 decide (s.kind<1)||decide (s.kind>7) || !inR s.fr (n-1) || !inR s.to n || !inR s.module p.modules.length||(s.release&&decide (s.kind≠3))||(decide (s.target≠0)&& !(decide (s.kind=6)||decide (s.kind=7)))
def stepErr (p:Prog) (t n:Int) (s:Step):Int:=
 if zbl p n s then 70
 else if !s.guard.valid p.cells false||decide (s.guard.w≠1)then 60
 else if ¬(feGo (setErr p s.set) 0 s.set).1=0 then(feGo (setErr p s.set) 0 s.set).1
 else if kindOk p t s then 0 else 70
def zaA (p:Prog) (t n:Int) (l:Loop):Int:=
 if !inR l.head n || !rising l.body || !l.body.all (fun k=>inR k n&&decide (k≠l.head))then 1
 else if !l.variant.valid p.cells false || !overOk p l.variant true t then 60 else 0
def threadErr (p:Prog) (i:Nat) (x:Thread):Int×Int:=
 if !isLabel x.name then(1,-1)
 else if(p.threads.take i).any (fun d=>d.name.toList==x.name.toList)then(41,-1)
 else if x.points<1\/ ¬(x.asserts.length:Int)=x.points\/ ¬(x.modules.length:Int)=x.points then(1,-1)
 else if !x.modules.all (fun m=>inR m p.modules.length)then(1,-1)
 else if !x.asserts.all (fun e=>truthOk p e false i)then(60,-1)
 else if ¬(feGo (fun _ s=>stepErr p i x.points s) 0 x.steps).1=0 then feGo (fun _ s=>stepErr p i x.points s) 0 x.steps
 else((feGo (fun _ l=>zaA p i x.points l) 0 x.loops).1,-1)
def thrGo (p:Prog):Nat->List Thread->Int×Int×Int
 | _,[]=>(0,-1,-1)
 | i,x::r=>if(threadErr p i x).1=0 then thrGo p (i+1) r else((threadErr p i x).1,(i:Int),(threadErr p i x).2)
def validM (p:Prog):Int×Int×Int:=
 if ¬(limitsM p).1=0 then((limitsM p).1,(limitsM p).2,-1)
 else if ¬cellsM p=0 then(cellsM p,-1,-1)
 else if ¬modulesM p=0 then(modulesM p,-1,-1)
 else if ¬locksM p=0 then(locksM p,-1,-1)
 else thrGo p 0 p.threads
theorem zir {p:Prog} {l:List Thread} {i:Nat} {x:Thread} (h:l[i]? =some x) (h0:(threadErr p i x).1=0):thrGo p i (l.drop i)=thrGo p (i+1) (l.drop (i+1)):=by
 rw[zba h,thrGo,if_pos h0]
theorem ziq {p:Prog} {l:List Thread} {i:Nat} {x:Thread} (h:l[i]? =some x) (h0: ¬(threadErr p i x).1=0):thrGo p i (l.drop i)=((threadErr p i x).1,(i:Int),(threadErr p i x).2):=by
 rw[zba h,thrGo,if_neg h0]
theorem zj3 (p:Prog) (l:List Thread):thrGo p l.length (l.drop l.length)=(0,-1,-1):=by
 rw[List.drop_length];rfl
structure Prog.sane (p:Prog):Prop where
 cells:p.cells.length<2^48
 modules:p.modules.length<2^48
 locks:p.locks.length<2^48
 threads:p.threads.length<2^48
 cname: ∀c∈p.cells,c.name.size<2^50
 mname: ∀m∈p.modules,m.name.size<2^50/\m.owner.size<2^50/\m.frame.length<2^48
 thr: ∀t∈p.threads,t.name.size<2^50/\t.asserts.length<2^48/\t.modules.length<2^48/\t.steps.length<2^48/\t.loops.length<2^48
 sets: ∀t∈p.threads,∀s∈t.steps,s.set.length<2^48
 loops: ∀t∈p.threads,∀l∈t.loops,l.body.length<2^48
end Rg
end
section
-- FULL
namespace Rg
open Go
theorem zk3 {p:Prog} (hc: ∀c∈p.cells,-1<=c.thread) (sh:Bool) (t c:Int) (ht: -1<=t) (hs:sh=true\/0<=t) (h0:0<=c):mayR p sh t c=mayP p sh t c:=by
 unfold mayR mayP sees ofThread;rcases hx:p.cells[c.toNat]? with _ | x
 ·cases sh<;>simp
 ·have:=hc x (List.mem_of_getElem? hx);simp only[h0,decide_true,Bool.true_and]
  have a1:(decide (0<=x.thread))= !decide (x.thread= -1):=by
   by_cases h:x.thread= -1
   ·simp[h]
   ·simp[h];omega
  rw[a1];cases sh
  ·have ht:0<=t:=by simpa using hs
   by_cases h:x.thread= -1
   ·simp[h];omega
   ·simp[h]
  ·by_cases h:x.thread= -1
   ·simp[h]
   ·simp[h]
theorem zdG {α:Type} {P Q:α->Bool} {l:List α} (h: ∀x∈l,P x=Q x):l.all P=l.all Q:=by
 induction l with
 | nil=>rfl
 | cons x r ih=>rw[List.all_cons,List.all_cons,h x (by simp),ih fun y hy=>h y (by simp[hy])]
theorem zj5 {op:Int} {e:Expr} {c:Int} (h:c∈e.sup op):0<=c/\e.formed=true/\ ∃x∈e.lv,x.op=op/\x.n.toNat=c.toNat:=by
 unfold Expr.sup at h;split at h
 ·rename_i hf;obtain⟨j,hj,rfl⟩:=List.mem_map.1 h;refine⟨by omega,hf,?_⟩;obtain⟨_,hj⟩:=List.mem_filter.1 hj
  have key: ∀(l:List Expr) (s:List Bool),(l.foldl (markS op) s).getD j false=true->s.getD j false=true\/ ∃x∈l,x.op=op/\x.n.toNat=j:=by
   intro l
   induction l with
   | nil=>intro s h;exact .inl h
   | cons x l ih=>
     intro s h;rw[List.foldl_cons]at h;rcases ih _ h with h | ⟨y,hy,h1,h2⟩
     ·unfold markS at h;split at h
      ·rename_i ho
       by_cases hn:x.n.toNat=j
       ·exact .inr ⟨x,by simp,ho,hn⟩
       ·left;simpa[List.getD,List.getElem?_set,hn]using h
      ·exact .inl h
     ·exact .inr ⟨y,by simp[hy],h1,h2⟩
  rcases key _ _ hj with h | ⟨x,hx,h1,h2⟩
  ·have:(List.replicate 32 false).getD j false=false:=by
    rw[List.getD,List.getElem?_replicate];split<;>rfl
   rw[this]at h;simp at h
  ·exact⟨x,hx,h1,by simpa using h2⟩
 ·simp at h
theorem valid_in {p:Prog} {e:Expr} {pair:Bool} (h:e.valid p.cells pair=true):zh1 p e:=by
 intro op hop c hc;obtain⟨h0,hf,x,hx,h1,h2⟩:=zj5 hc;refine⟨h0,?_⟩;unfold Expr.valid at h;rw[hf,Bool.true_and,znW (fun x=>zeP p.cells pair) 40 e (formed_deep hf)]at h;have:=List.all_eq_true.1 h x hx;unfold leafOk at this;rcases hop with rfl | rfl
 ·simp only[h1]at this;rcases hy:p.cells[x.n.toNat]? with _ | y
  ·simp[hy]at this
  ·have:=(zH.1 hy).1;omega
 ·simp only[h1]at this;rcases hy:p.cells[x.n.toNat]? with _ | y
  ·simp[hy]at this
  ·have:=(zH.1 hy).1;omega
theorem zdt {p:Prog} (hc: ∀c∈p.cells,-1<=c.thread) {e:Expr} (hin:zh1 p e) (sh:Bool) (t:Int) (ht: -1<=t) (hs:sh=true\/0<=t):
 Den Γ G 115 [(.agg [.t (.sl ((p).cells.map (Cell.enc))),.t (.sl ((p).modules.map (Contract.enc))),.t (.sl ((p).locks.map (Lock.enc))),.t (.sl ((p).threads.map (Thread.enc)))]),(.agg [.t (ti (e).op),.t (ti (e).w),.t (ti (e).n),.t (.sl ((e).kids.map (Expr.enc)))]),vb sh,vi t]=some (vb (overOk p e sh t)):=by
 rw[zkN p e sh t hin,List.all_append,overOk];rw[zdG (l:=e.sup 3) fun c hc'=>zk3 hc sh t c ht hs (hin 3 (.inr rfl) c hc').1];rw[zdG (l:=e.sup 2) fun c hc'=>zk3 hc sh t c ht hs (hin 2 (.inl rfl) c hc').1]
theorem zcP {p:Prog} (hc: ∀c∈p.cells,-1<=c.thread) (e:Expr) (pair:Bool) (t:Int) (ht: -1<=t):
 Den Γ G 112 [(.agg [.t (.sl ((p).cells.map (Cell.enc))),.t (.sl ((p).modules.map (Contract.enc))),.t (.sl ((p).locks.map (Lock.enc))),.t (.sl ((p).threads.map (Thread.enc)))]),(.agg [.t (ti (e).op),.t (ti (e).w),.t (ti (e).n),.t (.sl ((e).kids.map (Expr.enc)))]),vb pair,vi t]=some (vb (truthOk p e pair t)):=by
 (refine den_ofY Γ112 rfl ?_;dsimp only[f112])
 have h1:=zcO e p.cells pair;cases hv:e.valid p.cells pair
 ·rw[hv]at h1;simp -dsimp [go_sem,h1];simp[truthOk,hv]
 ·rw[hv]at h1;have h2:=zdt hc (valid_in hv) true t ht (.inl rfl);simp -dsimp [go_sem,h1];refine csplit (fun h=> ?_) (fun h=> ?_)<;>(try rw[h])<;>(try simp only[zab]at h)<;>(try simp -dsimp [go_sem,h2])
  ·simp[truthOk,hv,h]
  ·simp[truthOk,hv,h]
theorem zmV:Den Γ G 157 []=some (.agg [vi 1,vi 1,vi 1,.t (.sl [])]):=by
 (refine den_ofY Γ157 rfl ?_;dsimp only[f157])
 have h1:=zlT 1 1;simp -dsimp [go_sem,h1]
theorem zhU (p:Prog) (hs:p.sane):Den Γ G 84 [(.agg [.t (.sl ((p).cells.map (Cell.enc))),.t (.sl ((p).modules.map (Contract.enc))),.t (.sl ((p).locks.map (Lock.enc))),.t (.sl ((p).threads.map (Thread.enc)))])]=some (.tup [vi (limitsM p).1,vi (limitsM p).2]):=by
 (refine den_ofY Γ84 rfl ?_;dsimp only[f84])
 simp -dsimp [go_sem]
 by_cases hbig:(p.cells.length:Int)>32\/(p.modules.length:Int)>6\/(p.locks.length:Int)>4\/(p.threads.length:Int)>4
 ·have hm:limitsM p=(2,-1):=by rw[limitsM,if_pos hbig]
  rw[hm]
  repeat'(refine csplit (fun h=> ?_) (fun h=> ?_)<;>(try rw[h])<;>(try simp only[zab]at h)<;>(try simp -dsimp [go_sem]))
  all_goals(try omega)
 ·have hm:limitsM p=feGo (fun _ x=>if zao x then 2 else 0) 0 p.threads:=by rw[limitsM,if_neg hbig]
  have g1: ¬(p.cells.length:Int)>32:=by omega
  have g2: ¬(p.modules.length:Int)>6:=by omega
  have g3: ¬(p.locks.length:Int)>4:=by omega
  have g4: ¬(p.threads.length:Int)>4:=by omega
  simp -dsimp [go_sem,g1,g2,g3,g4];refine zaz 72057593769492540 p.threads.length (fun i f=>(f 4).v=vi i/\limitsM p=feGo (fun _ x=>if zao x then 2 else 0) i (p.threads.drop i)) rfl rfl ⟨by simp -dsimp [go_sem],hm⟩ ?_;clear hm;rintro i f u kk bb hi ⟨h4,hm⟩;have hw:=zah i (by omega);simp -dsimp [go_sem,h4];refine csplit (fun h=> ?_) (fun h=> ?_)<;>(try rw[h])<;>(try simp only[zab]at h)<;>(try simp -dsimp [go_sem])
  ·obtain⟨x,hx,_⟩:=zaf ‹i<p.threads.length›;have hbad:zao x=true->limitsM p=(2,(i:Int)):=fun h0=>by rw[hm,fe_stop hx (by simp[h0])];simp[h0]
   simp -dsimp [go_sem,h4,hx]
   repeat'(refine csplit (fun h=> ?_) (fun h=> ?_)<;>(try rw[h])<;>(try simp only[zab]at h)<;>(try simp -dsimp [go_sem,h4]))
   ·rw[hbad (by simp[zao, *])];simp
   ·rw[hbad (by simp[zao, *])];simp
   ·rw[hbad (by simp[zao, *])];simp
   ·refine⟨by omega,by simp -dsimp [go_sem,hw],?_⟩;rw[hm,zbh hx (by simp[zao, *])]
  ·have:i=p.threads.length:=by omega
   subst this;rw[hm,zbQ];simp
end Rg
end
section
-- FULL
namespace Rg
open Go
theorem any_take_stop {α:Type} {P:α->Bool} {l:List α} {i j:Nat} {x:α} (hx:l[j]? =some x) (hj:j<i) (h:P x=true):(l.take i).any P=true:=by
 rw[List.any_eq_true];exact⟨x,List.mem_of_getElem? (by rw[List.getElem?_take,if_pos hj];exact hx),h⟩
theorem zbi {α:Type} {P:α->Bool} {l:List α} {j:Nat} {x:α} (hx:l[j]? =some x):(l.take (j+1)).any P=((l.take j).any P||P x):=by
 rw[zae hx,List.any_append];simp
theorem zjO (p:Prog) (hs:p.sane):Den Γ G 85 [(.agg [.t (.sl ((p).cells.map (Cell.enc))),.t (.sl ((p).modules.map (Contract.enc))),.t (.sl ((p).locks.map (Lock.enc))),.t (.sl ((p).threads.map (Thread.enc)))])]=some (vi (cellsM p)):=by
 (refine den_ofY Γ85 rfl ?_;dsimp only[f85])
 simp -dsimp [go_sem];refine zaz 2417851639229258349412348 p.cells.length (fun i f=>(f 3).v=vi i/\cellsM p=(feGo (cellErr p) i (p.cells.drop i)).1) rfl rfl ⟨by simp -dsimp [go_sem],rfl⟩ ?_;rintro i f u kk bb hi ⟨h3,hm⟩;have hbi:=hs.cells;have hw:=zah i (by omega);simp -dsimp [go_sem,h3];refine csplit (fun h=> ?_) (fun h=> ?_)<;>(try rw[h])<;>(try simp only[zab]at h)<;>(try simp -dsimp [go_sem,h3])
 ·obtain⟨c,hc,hcm⟩:=zaf ‹i<p.cells.length›
  have hbad:zaY p c=true->cellsM p=1:=fun h0=>by
   have:cellErr p i c=1:=by simp[cellErr,h0]
   rw[hm,fe_stop hc (by simp[this])];exact this
  have hl:=zcY c.name (hs.cname c hcm);have hin:=zcq c.module p.modules.length
  by_cases hb:zaY p c=true
  ·rw[hbad hb]
   by_cases hww:c.w<=8
   ·have hp:=zeF c.w (by omega);simp -dsimp [go_sem,h3,hc,hl]
    repeat'(refine csplit (fun h=> ?_) (fun h=> ?_)<;>(try rw[h])<;>(try simp only[zab]at h)<;>(try simp -dsimp [go_sem,h3,hp,hin]))
    all_goals(exfalso;simp only[zaY,Bool.or_eq_true,Bool.not_eq_true',decide_eq_true_eq]at hb;grind)
   ·have g8:c.w>8:=by omega
    simp -dsimp [go_sem,h3,hc,hl,g8]
    repeat'(refine csplit (fun h=> ?_) (fun h=> ?_)<;>(try rw[h])<;>(try simp only[zab]at h)<;>(try simp -dsimp [go_sem,h3,hin]))
    all_goals(exfalso;omega)
  ·have hb':=hb;simp only[zaY,Bool.or_eq_true,Bool.not_eq_true',decide_eq_true_eq,not_or]at hb';obtain⟨⟨⟨⟨⟨⟨⟨b1,b2⟩,b3⟩,b4⟩,b5⟩,b6⟩,b7⟩,b8⟩:=hb';have b1:isLabel c.name=true:=by simpa using b1
   have b8:inR c.module p.modules.length=true:=by simpa using b8
   rw[b1]at hl;rw[b8]at hin;have hp:=zeF c.w (by omega);simp -dsimp [go_sem,h3,hc,hl,b2,b3,b4,hp,b5,b6,b7,hin];refine zaz 2417704065276668672999460 i (fun k f'=>(f' 5).v=vi k/\(p.cells.take k).any (fun d=>d.name.toList==c.name.toList)=false) rfl rfl ⟨by simp -dsimp [go_sem],by simp⟩ ?_;rintro k f' u' kk' bb' hk ⟨h5,hany⟩;have hw':=zah k (by omega);simp -dsimp [go_sem,h3,h5];refine csplit (fun h=> ?_) (fun h=> ?_)<;>(try rw[h])<;>(try simp only[zab]at h)<;>(try simp -dsimp [go_sem,h3,h5])
   ·obtain⟨d,hd,hdm⟩:=zaf (show k<p.cells.length by omega);simp -dsimp [go_sem,h3,h5,hd];refine csplit (fun h=> ?_) (fun h=> ?_)<;>(try rw[h])<;>(try simp only[zab]at h)<;>(try simp -dsimp [go_sem,h3,h5])
    ·have:cellErr p i c=41:=by
      rw[cellErr,if_neg hb,if_pos (any_take_stop hd ‹k<i› (by simpa using h))]
     rw[hm,fe_stop hc (by simp[this])];exact this.symm
    ·refine⟨by omega,by simp -dsimp [go_sem,hw'],?_⟩;rw[zbi hd,hany];simpa using h
   ·have:k=i:=by omega
    subst this;refine⟨by omega,by simp -dsimp [go_sem,hw],?_⟩;rw[hm,zbh hc (by rw[cellErr,if_neg hb,if_neg (by simp[hany])])]
 ·have:i=p.cells.length:=by omega
  subst this;rw[hm,zbQ]
theorem cellsM_thread {p:Prog} (h:cellsM p=0): ∀c∈p.cells,zaY p c=false:=by
 have key: ∀(l:List Cell) (i:Nat),(feGo (cellErr p) i l).1=0-> ∀c∈l,zaY p c=false:=by
  intro l
  induction l with
  | nil=>intro i _ c hc;simp at hc
  | cons x r ih=>
    intro i h c hc;rw[feGo]at h;split at h
    ·rename_i h0;rcases List.mem_cons.1 hc with rfl | hc
     ·cases hb:zaY p c
      ·rfl
      ·simp[cellErr,hb]at h0
     ·exact ih _ h c hc
    ·rename_i h0;exact absurd h h0
 exact key p.cells 0 h
theorem cellBad_parts {p:Prog} {c:Cell} (h:zaY p c=false):isLabel c.name=true/\1<=c.w/\c.w<=8/\0<=c.init/\c.init<2^c.w.toNat/\ -1<=c.thread/\c.thread<p.threads.length/\inR c.module p.modules.length=true:=by
 simp only[zaY,Bool.or_eq_false_iff,Bool.not_eq_false',decide_eq_false_iff_not]at h;obtain⟨⟨⟨⟨⟨⟨⟨b1,b2⟩,b3⟩,b4⟩,b5⟩,b6⟩,b7⟩,b8⟩:=h;exact⟨b1,by omega,by omega,by omega,by omega,by omega,by omega,b8⟩
theorem zcK {p:Prog} (h:cellsM p=0): ∀c∈p.cells,-1<=c.thread:=fun c hc=>(cellBad_parts (cellsM_thread h c hc)).2.2.2.2.2.1
theorem zaS {p:Prog} {c t:Int} {x:Cell} (h0:0<=c) (hx:p.cells[c.toNat]? =some x):ofThread p t c=decide (x.thread=t):=by
 simp[ofThread,h0,hx]
theorem zgY (p:Prog) (hs:p.sane) (hcl:cellsM p=0):Den Γ G 86 [(.agg [.t (.sl ((p).cells.map (Cell.enc))),.t (.sl ((p).modules.map (Contract.enc))),.t (.sl ((p).locks.map (Lock.enc))),.t (.sl ((p).threads.map (Thread.enc)))])]=some (vi (modulesM p)):=by
 (refine den_ofY Γ86 rfl ?_;dsimp only[f86])
 simp -dsimp [go_sem];have hct:=zcK hcl;refine zaz 39614081257132168796771975164 p.modules.length (fun i f=>(f 3).v=vi i/\modulesM p=(feGo (modErr p) i (p.modules.drop i)).1) rfl rfl ⟨by simp -dsimp [go_sem],rfl⟩ ?_;rintro i f u kk bb hi ⟨h3,hm⟩;have hbi:=hs.modules;have hw:=zah i (by omega);simp -dsimp [go_sem,h3];refine csplit (fun h=> ?_) (fun h=> ?_)<;>(try rw[h])<;>(try simp only[zab]at h)<;>(try simp -dsimp [go_sem,h3])
 ·obtain⟨c,hc,hcm⟩:=zaf ‹i<p.modules.length›;obtain⟨s1,s2,s3⟩:=hs.mname c hcm
  have hstop: ∀k:Int,k≠0->modErr p i c=k->modulesM p=k:=fun k hk h0=>by
   rw[hm,fe_stop hc (by rw[h0];exact hk)];exact h0
  have hl:=zcY c.name s1;have hl2:=zcY c.owner s2;simp -dsimp [go_sem,h3,hc,hl];refine csplit (fun h=> ?_) (fun h=> ?_)<;>(try rw[h])<;>(try simp only[zab]at h)<;>(try simp -dsimp [go_sem,h3,hl2])
  ·rw[hstop 1 (by decide) (by simp[modErr,h])]
  ·refine csplit (fun h=> ?_) (fun h=> ?_)<;>(try rw[h])<;>(try simp only[zab]at h)<;>(try simp -dsimp [go_sem,h3])
   ·rw[hstop 1 (by decide) (by simp[modErr,h])]
   ·have e1:isLabel c.name=true:=by assumption
    have e2:isLabel c.owner=true:=by assumption
    refine zaz 8795556151332 i (fun k f'=>(f' 5).v=vi k/\(p.modules.take k).any (fun d=>d.name.toList==c.name.toList)=false) rfl rfl ⟨by simp -dsimp [go_sem],by simp⟩ ?_;rintro k f' u' kk' bb' hk ⟨h5,hany⟩;have hw':=zah k (by omega);simp -dsimp [go_sem,h3,h5];refine csplit (fun h=> ?_) (fun h=> ?_)<;>(try rw[h])<;>(try simp only[zab]at h)<;>(try simp -dsimp [go_sem,h3,h5])
    ·obtain⟨d,hd,hdm⟩:=zaf (show k<p.modules.length by omega);simp -dsimp [go_sem,h3,h5,hd];refine csplit (fun h=> ?_) (fun h=> ?_)<;>(try rw[h])<;>(try simp only[zab]at h)<;>(try simp -dsimp [go_sem,h3,h5])
     ·rw[hstop 41 (by decide) (by rw[modErr,if_neg (by simp[e1,e2]),if_pos (any_take_stop hd ‹k<i› (by simpa using h))])]
     ·refine⟨by omega,by simp -dsimp [go_sem,hw'],?_⟩;rw[zbi hd,hany];simpa using h
    ·have:k=i:=by omega
     subst this;have hab:=zim c.rely;have ht1:=zcP hct c.rely true (-1) (by omega);have ht2:=zcP hct c.guar true (-1) (by omega)
     have hme:modErr p k c=if(!c.rely.absent&& !truthOk p c.rely true (-1)) || !truthOk p c.guar true (-1)then 60 else if !rising c.frame || !c.frame.all (ofThread p (-1))then 1 else 0:=by
      rw[modErr,if_neg (by simp[e1,e2]),if_neg (by simp[hany])]
     by_cases hr:((!c.rely.absent&& !truthOk p c.rely true (-1)) || !truthOk p c.guar true (-1))=true
     ·rw[hstop 60 (by decide) (by rw[hme,if_pos hr])];simp -dsimp [go_sem,h3,hab]
      repeat'(refine csplit (fun h=> ?_) (fun h=> ?_)<;>(try rw[h])<;>(try simp only[zab]at h)<;>(try simp -dsimp [go_sem,h3,ht1,ht2]))
      all_goals(exfalso;simp_all)
     ·have hfr: ∀(Q:Prop),(c.rely.absent=true->truthOk p c.guar true (-1)=true->Q)->(c.rely.absent=false->truthOk p c.rely true (-1)=true->truthOk p c.guar true (-1)=true->Q)->Q:=fun Q q1 q2=>by
       cases h1:c.rely.absent<;>cases h2:truthOk p c.rely true (-1)<;>cases h3:truthOk p c.guar true (-1)<;>simp_all
      rw[if_neg hr]at hme;refine hfr _ (fun r1 r2=> ?_) (fun r1 r2 r3=> ?_)
      all_goals(
       (try rw[r1]at hab)
       (try rw[r2]at ht1)
       (try rw[r2]at ht2)
       (try rw[r3]at ht2)
       simp -dsimp [go_sem,h3,hab,ht1,ht2];refine zaz 2475880076264917540584554564 c.frame.length (fun j f2=>(f2 6).v=vi j/\c.frame.all (ofThread p (-1))=(c.frame.drop j).all (ofThread p (-1))) rfl rfl ⟨by simp -dsimp [go_sem],rfl⟩ ?_;rintro j f2 u2 kk2 bb2 hj ⟨h6,hall⟩;have hw2:=zah j (by omega);simp -dsimp [go_sem,h3,h6];refine csplit (fun h=> ?_) (fun h=> ?_)<;>(try rw[h])<;>(try simp only[zab]at h)<;>(try simp -dsimp [go_sem,h3,h6])
       ·obtain⟨d,hd,hdm⟩:=zaf (show j<c.frame.length by omega);have hin:=zcq d p.cells.length
        have hno:ofThread p (-1) d=false->1=modulesM p:=fun h0=>by
         rw[hstop 1 (by decide) (by rw[hme,hall,zaM hd h0];simp)]
        simp -dsimp [go_sem,h3,h6,hd,hin];refine csplit (fun h=> ?_) (fun h=> ?_)<;>(try rw[h])<;>(try simp only[zab]at h)<;>(try simp -dsimp [go_sem,h3,h6])
        ·exact hno (ofThread_out h)
        ·obtain⟨d0,x,hx⟩:=zaV h;have hot:=zaS (t:= -1) d0 hx;simp -dsimp [go_sem,h3,h6,hd,d0,hx];refine csplit (fun h=> ?_) (fun h=> ?_)<;>(try rw[h])<;>(try simp only[zab]at h)<;>(try simp -dsimp [go_sem,h3,h6])
         ·exact hno (by rw[hot];simpa using h)
         ·refine⟨by omega,by simp -dsimp [go_sem,hw2],?_⟩;rw[hall,zaN hd (by rw[hot];simpa using h)]
       ·have:j=c.frame.length:=by omega
        subst this;rw[za0]at hall;rw[hall]at hme;have hri:=zfr c.frame (by omega);simp -dsimp [go_sem,h3,hri];refine csplit (fun h=> ?_) (fun h=> ?_)<;>(try rw[h])<;>(try simp only[zab]at h)<;>(try simp -dsimp [go_sem,h3])
        ·rw[hstop 1 (by decide) (by rw[hme];simp[h])]
        ·refine⟨by omega,by simp -dsimp [go_sem,hw],?_⟩
         rw[hm,zbh hc (by rw[hme];simp[h])])
 ·have:i=p.modules.length:=by omega
  subst this;rw[hm,zbQ]
end Rg
end
section
-- FULL
namespace Rg
open Go
theorem zaH {p:Prog} {c:Int} {x:Cell} {g:Cell->Bool} (hx:p.cells[c.toNat]? =some x):zaJ p c g=g x:=by simp[zaJ,hx]
theorem zjr (p:Prog) (hs:p.sane) (hcl:cellsM p=0):Den Γ G 87 [(.agg [.t (.sl ((p).cells.map (Cell.enc))),.t (.sl ((p).modules.map (Contract.enc))),.t (.sl ((p).locks.map (Lock.enc))),.t (.sl ((p).threads.map (Thread.enc)))])]=some (vi (locksM p)):=by
 (refine den_ofY Γ87 rfl ?_;dsimp only[f87])
 simp -dsimp [go_sem];have hct:=zcK hcl;refine zaz 4835703278458516698824700 p.locks.length (fun i f=>(f 3).v=vi i/\locksM p=(feGo (lockErr p) i (p.locks.drop i)).1) rfl rfl ⟨by simp -dsimp [go_sem],rfl⟩ ?_;rintro i f u kk bb hi ⟨h3,hm⟩;have hbi:=hs.locks;have hw:=zah i (by omega);simp -dsimp [go_sem,h3];refine csplit (fun h=> ?_) (fun h=> ?_)<;>(try rw[h])<;>(try simp only[zab]at h)<;>(try simp -dsimp [go_sem,h3])
 ·obtain⟨l,hl,hlm⟩:=zaf ‹i<p.locks.length›
  have hstop: ∀k:Int,k≠0->lockErr p i l=k->locksM p=k:=fun k hk h0=>by
   rw[hm,fe_stop hl (by rw[h0];exact hk)];exact h0
  have hin:=zcq l.cell p.cells.length;have hin2:=zcq l.module p.modules.length;simp -dsimp [go_sem,h3,hl,hin];refine csplit (fun h=> ?_) (fun h=> ?_)<;>(try rw[h])<;>(try simp only[zab]at h)<;>(try simp -dsimp [go_sem,h3])
  ·rw[hstop 1 (by decide) (by simp[lockErr,ofThread_out h])]
  ·obtain⟨d0,x,hx⟩:=zaV h;have hot:=zaS (t:= -1) d0 hx;have hc1:=zaH (g:=fun x=>decide (x.w=1)) hx;have hc2:=zaH (g:=Cell.ghost) hx;simp -dsimp [go_sem,h3,hl,d0,hx]
   by_cases hbad:(!ofThread p (-1) l.cell || !zaJ p l.cell (fun x=>decide (x.w=1))||zaJ p l.cell Cell.ghost || !inR l.module p.modules.length)=true
   ·rw[hstop 1 (by decide) (by rw[lockErr,if_pos hbad])];rw[hot,hc1,hc2]at hbad
    repeat'(refine csplit (fun h=> ?_) (fun h=> ?_)<;>(try rw[h])<;>(try simp only[zab]at h)<;>(try simp -dsimp [go_sem,h3,hl,d0,hx,hin2]))
    all_goals(exfalso;simp_all)
   ·have hle:lockErr p i l=if(p.locks.take i).any (fun d=>decide (d.cell=l.cell))then 1 else if !truthOk p l.inv false (-1)then 60 else 0:=by rw[lockErr,if_neg hbad]
    rw[hot,hc1,hc2]at hbad;simp only[Bool.or_eq_true,Bool.not_eq_true',decide_eq_false_iff_not,not_or,Decidable.not_not,Bool.not_eq_true,Bool.not_eq_false]at hbad;obtain⟨⟨⟨b1,b2⟩,b3⟩,b4⟩:=hbad;rw[b4]at hin2;simp -dsimp [go_sem,h3,hl,d0,hx,b1,b2,b3,hin2];refine zaz 151106504079791792062500 i (fun k f'=>(f' 5).v=vi k/\(p.locks.take k).any (fun d=>decide (d.cell=l.cell))=false) rfl rfl ⟨by simp -dsimp [go_sem],by simp⟩ ?_;rintro k f' u' kk' bb' hk ⟨h5,hany⟩;have hw':=zah k (by omega);simp -dsimp [go_sem,h3,h5];refine csplit (fun h=> ?_) (fun h=> ?_)<;>(try rw[h])<;>(try simp only[zab]at h)<;>(try simp -dsimp [go_sem,h3,h5])
    ·obtain⟨d,hd,hdm⟩:=zaf (show k<p.locks.length by omega);simp -dsimp [go_sem,h3,h5,hd];refine csplit (fun h=> ?_) (fun h=> ?_)<;>(try rw[h])<;>(try simp only[zab]at h)<;>(try simp -dsimp [go_sem,h3,h5])
     ·rw[hstop 1 (by decide) (by rw[hle,if_pos (any_take_stop hd ‹k<i› (by simpa using h))])]
     ·refine⟨by omega,by simp -dsimp [go_sem,hw'],?_⟩;rw[zbi hd,hany];simpa using h
    ·have:k=i:=by omega
     subst this;rw[hany]at hle;have ht1:=zcP hct l.inv false (-1) (by omega);simp -dsimp [go_sem,h3,ht1];refine csplit (fun h=> ?_) (fun h=> ?_)<;>(try rw[h])<;>(try simp only[zab]at h)<;>(try simp -dsimp [go_sem,h3])
     ·rw[hstop 60 (by decide) (by rw[hle];simp[h])]
     ·refine⟨by omega,by simp -dsimp [go_sem,hw],?_⟩;rw[hm,zbh hl (by rw[hle];simp[h])]
 ·have:i=p.locks.length:=by omega
  subst this;rw[hm,zbQ]
end Rg
end

/- Part of the proof of laws of relyguardlaw04. No condition. -/
import Derived.Test.YtmgalfhaeddfbaaDoorOartAP
import Derived.Test.YtmgalfhaeddfbaaDoorOartAL
set_option linter.unusedSimpArgs false
set_option linter.unusedVariables false
section
namespace Rg
open Go
structure Va.okW (v:Va):Prop where
 w:1<=v.w/\v.w<=8
 l:0<=v.len/\v.len<=8
 i:0<=v.init/\v.init<2^v.w.toNat
def Ct.keys (ct:Ct):List Key:=(ct.locks.map fun l=>(l.module,l.name))++ct.procs.map fun p=>(p.module,p.name)
structure NmD (B:Nat) (ct:Ct):Prop where
 k:ct.keys.Nodup
 n: ∀k∈ct.keys,k∈ct.names
 lm: ∀l∈ct.locks,(0<=l.module/\l.module<B)/\l.name.size<=1048576
 ll:ct.locks.length<=4
 v: ∀v∈ct.vars,v.okW
 pv: ∀p∈ct.procs,∀v∈p.params++p.locals,v.okW/\v.module=p.module/\v.len=0/\v.init=0/\v.name.size<=1048576
theorem NmD.mono {B:Nat} {a b:Ct} (h:NmD B a) (h1:b.procs=a.procs) (h2:b.vars=a.vars) (h4:b.locks=a.locks) (h3: ∀k∈a.names,k∈b.names):NmD B b:=by
 have hk:b.keys=a.keys:=by unfold Ct.keys;rw[h1,h4]
 exact⟨by rw[hk];exact h.k,by rw[hk];exact fun k hk=>h3 _ (h.n k hk),by rw[h4];exact h.lm,by rw[h4];exact h.ll,by rw[h2];exact h.v,by rw[h1];exact h.pv⟩
theorem zSb {i w:Int} (h:zhA i w=true):0<=i/\i<2^w.toNat:=by
 unfold zhA at h;simpa using h
theorem zR7 {ct:Ct} (Bm:ct.ok) (m:Int) (n:Nd):(ct.shared m n).1.procs=ct.procs/\(ct.shared m n).1.locks=ct.locks/\ ∃x:List Va,(ct.shared m n).1.vars=ct.vars++x/\ ∀v∈x,v.okW:=by
 have rv: ∀(c:Ct) (e p:Int),(c.report e p).vars=c.vars/\(c.report e p).locks=c.locks:=fun c e p=>by unfold Ct.report;split<;>exact⟨rfl,rfl⟩
 have rp: ∀(e p:Int),(ct.report e p).procs=ct.procs/\(ct.report e p).locks=ct.locks/\ ∃x:List Va,(ct.report e p).vars=ct.vars++x/\ ∀v∈x,v.okW:=fun e p=>⟨zGF _ _ _,(rv _ _ _).2,[],by rw[(rv _ _ _).1];simp,by simp⟩
 have fin: ∀vs:List Va,(∀v∈vs,(1<=v.w/\v.w<=8)/\0<=v.len/\v.len<=8)->(ct.sharedFin n vs).1.procs=ct.procs/\(ct.sharedFin n vs).1.locks=ct.locks/\ ∃x:List Va,(ct.sharedFin n vs).1.vars=ct.vars++x/\ ∀v∈x,v.okW:=fun vs hv=>by
  unfold Ct.sharedFin;split
  ·rename_i ha;rw[List.all_eq_true]at ha;exact⟨rfl,rfl,vs,rfl,fun v hm=>⟨(hv v hm).1,(hv v hm).2,zSb (ha v hm)⟩⟩
  ·exact rp _ _
 unfold Ct.shared;split
 ·exact rp _ _
 rename_i Ac;have hl:0<=n.len/\n.len<=8:=by omega
 split
 ·split
  ·rename_i hw;refine fin _ fun v hv=> ?_
   rw[List.mem_singleton]at hv;subst hv;exact⟨hw,hl⟩
  ·exact rp _ _
 split
 ·exact rp _ _
 ·rename_i r hr;have PX:=List.mem_of_find?_eq_some hr;refine fin _ fun v hv=> ?_
  obtain⟨f,hf,rfl⟩:=List.mem_map.1 hv;exact⟨(Bm.rw r PX f hf).1,hl⟩
theorem zRH (m:Int): ∀(l:List Nd) (st:AddS),(∀a∈l,a.name.size<=1048576)->(∀v∈st.vs,v.okW/\v.module=m/\v.len=0/\v.init=0/\v.name.size<=1048576)-> ∀v∈(l.foldl (zGn m) st).vs,v.okW/\v.module=m/\v.len=0/\v.init=0/\v.name.size<=1048576
 | [],st,_,h=>h
 | a::l,st,hl,h=>by
   rw[List.foldl_cons];refine zRH m l (zGn m st a) (fun b hb=>hl b (by simp[hb])) ?_;unfold zGn;split
   ·exact h
   ·split
    ·rename_i hw;intro v hv;rcases List.mem_append.1 hv with hv | hv
     ·exact h v hv
     ·rw[List.mem_singleton]at hv;subst hv;have hp:(0:Int)<2^a.n.toNat:=Int.pow_pos (by decide);exact⟨⟨hw,⟨Int.le_refl _,by show(0:Int)<=8;decide⟩,⟨Int.le_refl _,hp⟩⟩,rfl,rfl,rfl,hl a (by simp)⟩
    ·exact h
theorem zSe (ct:Ct) (m:Int) {n:Nd} (hs:n.sane) (hz:n.size<900): ∀v∈(zGp ct m n).vs++(zGr ct m n).vs,v.okW/\v.module=m/\v.len=0/\v.init=0/\v.name.size<=1048576:=by
 intro v hv;rcases List.mem_append.1 hv with hv | hv
 ·exact zRH m (zGo n 58) ⟨ct,[],[]⟩ (fun a ha=>(hs.kid (List.mem_filter.1 ha).1).self.name) (by simp) v hv
 ·refine zRH m ((zGj n 34).flat.filter fun a=>decide (a.kind=35)) { zGp ct m n with vs:=[] } (fun a ha=> ?_) (by simp) v hv;obtain⟨_,h6,_⟩:=zI6 (k:=34) hs hz;exact(h6 a (List.mem_filter.1 ha).1).name
theorem zR0 {B:Nat} {ct:Ct} (h:NmD B ct) (Bm:ct.ok) {m:Int} (hm:0<=m/\m<B) {a:Nd} (hs:a.sane) (hz:a.size<900):NmD B (zGl m ct a):=by
 have rv: ∀(c:Ct) (e p:Int),(c.report e p).vars=c.vars/\(c.report e p).locks=c.locks:=fun c e p=>by unfold Ct.report;split<;>exact⟨rfl,rfl⟩
 have rp: ∀(e p:Int),NmD B (ct.report e p):=fun e p=>h.mono (zGF _ _ _) (rv _ _ _).1 (rv _ _ _).2 (by rw[(zGE _ _ _).1];exact fun _ h=>h)
 have an: ∀(c:Ct) (k:Key),NmD B c->NmD B (c.addName k):=fun c k hc=>hc.mono rfl rfl rfl (fun x hx=>by simp[Ct.addName,hx])
 unfold zGl;split
 rotate_left
 ·exact h
 split
 ·exact rp _ _
 rename_i T1;have BD:(m,a.name)∉ ct.names:=fun hx=>T1 (zIf.2 hx)
 have Fp:(m,a.name)∉ ct.keys:=fun hx=>BD (h.n _ hx)
 split
 ·obtain⟨d,hd⟩:=zG0 (zGo a 52) (ct,[]);have hf:(ct.fields a).1= { ct with diags:=d }:=hd;refine an _ _ ?_;rw[hf];exact h.mono rfl rfl rfl (fun _ h=>h)
 split
 ·obtain⟨h1,h0,x,h2,h3⟩:=zR7 Bm m a;have C6:=(zJC ct m a).1;have hk:(ct.shared m a).1.keys=ct.keys:=by unfold Ct.keys;rw[h1,h0]
  have Lb:NmD B (ct.shared m a).1:=⟨by rw[hk];exact h.k,by rw[hk,C6];exact h.n,by rw[h0];exact h.lm,by rw[h0];exact h.ll,fun v hv=>by
   rw[h2]at hv;rcases List.mem_append.1 hv with hv | hv
   ·exact h.v v hv
   ·exact h3 v hv,by rw[h1];exact h.pv⟩
  split
  ·exact an _ _ Lb
  ·exact Lb
 split
 ·unfold Ct.lock
  by_cases c:ct.locks.length>=4
  ·rw[if_pos c];exact rp _ _
  ·rw[if_neg c];simp only[if_true]
   have hk:(({ ct with locks:=ct.locks++[⟨a.name,m,zGC a,a.pos⟩] }:Ct).addName (m,a.name)).keys=(ct.locks.map fun l=>(l.module,l.name))++(m,a.name)::ct.procs.map fun p=>(p.module,p.name):=by
    simp[Ct.keys,Ct.addName]
   refine⟨?_,fun k AF=> ?_,fun l hl=> ?_,?_,h.v,h.pv⟩
   ·rw[hk];exact(List.perm_middle.nodup_iff).2 (List.nodup_cons.2 ⟨Fp,h.k⟩)
   ·rw[hk]at AF;rcases List.mem_cons.1 (List.perm_middle.mem_iff.1 AF)with rfl | AF
    ·simp[Ct.addName]
    ·exact List.mem_append_left _ (h.n k AF)
   ·rcases List.mem_append.1 hl with hl | hl
    ·exact h.lm l hl
    ·rw[List.mem_singleton]at hl;subst hl;exact⟨hm,hs.self.name⟩
   ·show(ct.locks++[_]).length<=4;simp;omega
 ·obtain⟨d,hd⟩:=zJj ct m a;have Ji:=zSe ct m hs hz;rw[hd]
  have hk:(({ ct with diags:=d,procs:=ct.procs++[⟨a.name,m,(zGp ct m a).vs,(zGr ct m a).vs,a.other,zGj a 34,[],a.pos⟩] }:Ct).addName (m,a.name)).keys=ct.keys++[(m,a.name)]:=by
   simp[Ct.keys,Ct.addName]
  refine⟨?_,fun k AF=> ?_,h.lm,h.ll,h.v,fun p hp=> ?_⟩
  ·rw[hk];exact zQZ h.k Fp
  ·rw[hk]at AF;rcases List.mem_append.1 AF with AF | AF
   ·exact List.mem_append_left _ (h.n k AF)
   ·rw[List.mem_singleton]at AF;subst AF;simp[Ct.addName]
  ·rcases List.mem_append.1 hp with hp | hp
   ·exact h.pv p hp
   ·rw[List.mem_singleton]at hp;subst hp;exact Ji
theorem zRM {B:Nat} {m:Int} (hm:0<=m/\m<B): ∀(l:List Nd) {ct:Ct} {D:Nat},ct.okD D->NmD B ct->(∀a∈l,a.sane/\a.size<900)->(l.foldl (zGl m) ct).okD (D+l.length)/\NmD B (l.foldl (zGl m) ct)
 | [],ct,D,h,n,_=>⟨h,n⟩
 | a::l,ct,D,h,n,hl=>by
   obtain⟨h1,h2⟩:=hl a (by simp);have:=zRM hm l (zIA m ct D a h h1 h2) (zR0 n h.ok hm h1 h2) fun b hb=>hl b (by simp[hb])
   rw[List.foldl_cons,List.length_cons,show D+(l.length+1)=D+1+l.length by omega];exact this
theorem zRW {B:Nat}: ∀(l:List (Nd×Nat)) {ct:Ct} {D:Nat},(∀q∈l,q.2<B/\q.1.sane/\q.1.size<900)->ct.okD D->NmD B ct->NmD B (l.foldl (fun c q=>q.1.kids.foldl (zGl (q.2:Nat)) c) ct)
 | [],ct,D,_,_,n=>n
 | q::l,ct,D,hq,h,n=>by
   obtain⟨h1,h2,h3⟩:=hq q (by simp);obtain⟨k1,k2⟩:=zRM (m:=(q.2:Nat)) (B:=B) (by omega) q.1.kids h n fun a ha=>⟨h2.kid ha,by have:=Nd.size_kid ha;omega⟩
   exact zRW l (fun x hx=>hq x (by simp[hx])) k1 k2
theorem zSg {t:Nd} (hz:t.size<900) (hs:t.sane):NmD (Ct.nil.modules t).mods.length (Ct.nil.modules t).decls:=by
 obtain⟨dM,bM,mM,hM,D5,VJ,_⟩:=zI0 t;have D4:(Ct.nil.modules t).bodies.length=(Ct.nil.modules t).mods.length:=by rw[hM];exact VJ.symm
 rw[<- D4];unfold Ct.decls;refine zRW (D:=0) _ (fun q hq=> ?_) ?_ ?_
 ·have h1:=List.snd_lt_of_mem_zipIdx hq;have h2:q.1∈bM:=by have:=List.fst_mem_of_mem_zipIdx hq;rw[hM]at this;exact this
  have h3:=D5.subset h2;exact⟨by omega,hs.kid h3,by have:=Nd.size_kid h3;omega⟩
 ·rw[hM];refine⟨⟨?_,?_⟩,?_,?_,?_,?_⟩<;>simp[Ct.nil]
 ·rw[hM];refine⟨?_,?_,?_,?_,?_,?_⟩<;>simp[Ct.nil,Ct.keys]
end Rg
end
section
namespace Rg
open Go
structure Th.okT (P:List Pr) (t:Th):Prop where
 p: ∃(i:Nat) (p:Pr),t.proc=i/\P[i]? =some p/\t.args.length=p.params.length/\ ∀(k:Nat) (n:Int) (v:Va),t.args[k]? =some n->p.params[k]? =some v->0<=n/\n<2^v.w.toNat
 s:t.name.size<=1048576
theorem zSa (mn:List ByteArray) (pk:List Key) (m:Int) (b:ByteArray):0<=(zG1 mn pk m b).1:=by
 have h: ∀p:Key->Bool,0<=(zGN p pk).1:=fun p=>by unfold zGN;split<;>simp
 unfold zG1;split
 ·simp
 split
 ·exact h _
 split
 ·exact h _
 ·simp
theorem zRX {st:Ct×List ByteArray} {a:Nd} (ha:a.name.size<=1048576) (h:st.2=st.1.thrs.map Th.name/\st.2.Nodup/\st.1.thrs.length<=4/\ ∀t∈st.1.thrs,t.okT st.1.procs):
 (zGx st a).1.procs=st.1.procs/\(zGx st a).2=(zGx st a).1.thrs.map Th.name/\(zGx st a).2.Nodup/\(zGx st a).1.thrs.length<=4/\ ∀t∈(zGx st a).1.thrs,t.okT st.1.procs:=by
 have rp: ∀(e p:Int),(st.1.report e p).procs=st.1.procs/\st.2=(st.1.report e p).thrs.map Th.name/\st.2.Nodup/\(st.1.report e p).thrs.length<=4/\ ∀t∈(st.1.report e p).thrs,t.okT st.1.procs:=fun e p=>by
  have:(st.1.report e p).thrs=st.1.thrs:=by unfold Ct.report;split<;>rfl
  rw[this];exact⟨zGF _ _ _,h⟩
 unfold zGx;split
 ·exact rp _ _
 rename_i c1;split
 ·exact rp _ _
 rename_i c2;split
 ·exact rp _ _
 split
 ·exact⟨rfl,h⟩
 rename_i p hp;split
 ·exact rp _ _
 rename_i hl;have hl:a.kids.length=p.params.length:=by omega
 split
 ·exact rp _ _
 ·rename_i hb;refine⟨rfl,by simp[h.1],zQZ h.2.1 (fun hx=>c1 (zIf.2 hx)),by simp only[zM,List.length_singleton];omega,fun t ht=> ?_⟩;rcases List.mem_append.1 ht with ht | ht
  ·exact h.2.2.2 t ht
  ·rw[List.mem_singleton]at ht;subst ht;refine⟨⟨(st.1.procOf (-1) a.other).1.toNat,p,(Int.toNat_of_nonneg (zSa _ _ _ _)).symm,hp,by simpa using hl,fun k n v hk hv=> ?_⟩,ha⟩;rw[zJ,zE]at hk;obtain⟨x,hx,rfl⟩:=hk;unfold zHq at hb;rw[List.findIdx?_eq_none_iff]at hb
   have hz:(a.kids.zip p.params)[k]? =some (x,v):=by
    rw[List.getElem?_zip_eq_some];exact⟨hx,hv⟩
   have:=hb _ (zL hz);simp only[zIO,Bool.not_eq_false',zF]at this;exact zSb this.2
theorem zRL: ∀(l:List Nd) (st:Ct×List ByteArray),(∀a∈l,a.name.size<=1048576)->(st.2=st.1.thrs.map Th.name/\st.2.Nodup/\st.1.thrs.length<=4/\ ∀t∈st.1.thrs,t.okT st.1.procs)->
 ((l.foldl zGx st).1.thrs.map Th.name).Nodup/\(l.foldl zGx st).1.thrs.length<=4/\ ∀t∈(l.foldl zGx st).1.thrs,t.okT st.1.procs
 | [],st,_,h=>⟨h.1▸h.2.1,h.2.2⟩
 | a::l,st,hl,h=>by
   obtain⟨h1,h2,h3,h4,h5⟩:=zRX (hl a (by simp)) h;have:=zRL l (zGx st a) (fun b hb=>hl b (by simp[hb])) ⟨h2,h3,h4,by rw[h1];exact h5⟩;rw[h1]at this;exact this
theorem zRG (mn:List ByteArray) (pk:List Key) (m:Int): ∀(l:List Nd) (s:List Int),s.Nodup->(l.foldl (zGy mn pk m) s).Nodup
 | [],s,h=>h
 | a::l,s,h=>by
   refine zRG mn pk m l _ ?_;unfold zGy;split
   ·rename_i hc;exact zQZ h (fun hx=>by have:=zIf.2 hx;rw[hc.2.2]at this;cases this)
   ·exact h
theorem zR2 (mn:List ByteArray) (pk:List Key) (p:Pr) (k:Nat) (c d:Int) (hc:(zGG mn pk p)[k]? =some c) (hd:(zGG mn pk p)[k+1]? =some d):c<d:=by
 have hs:(zGG mn pk p).Pairwise (fun a b=>a<=b):=by
  have:=List.pairwise_mergeSort (le:=fun x y:Int=>decide (x<=y)) (fun a b c h1 h2=>by simp only[decide_eq_true_eq]at *;omega) (fun a b=>by simp only[Bool.or_eq_true,decide_eq_true_eq];omega) (p.body.flat.foldl (zGy mn pk p.module) []);exact this.imp (fun h=>by simpa using h)
 have hn:(zGG mn pk p).Nodup:=(List.mergeSort_perm _ _).nodup_iff.2 (zRG mn pk p.module p.body.flat [] (by simp));obtain⟨hk,rfl⟩:=zH.1 hc;obtain⟨AT,rfl⟩:=zH.1 hd;have h1:=(List.pairwise_iff_getElem.1 hs) k (k+1) hk AT (by omega);have h2:=(List.pairwise_iff_getElem.1 hn) k (k+1) hk AT (by omega);omega
structure Ct.dcl (C:Ct):Prop where
 m6:C.mods.length<=6
 kn:C.keys.Nodup
 lm: ∀l∈C.locks,(0<=l.module/\l.module<C.mods.length)/\l.name.size<=1048576
 l4:C.locks.length<=4
 t4:C.thrs.length<=4
 v: ∀v∈C.vars,v.okW
 pv: ∀p∈C.procs,∀v∈p.params++p.locals,v.okW/\v.module=p.module/\v.len=0/\v.init=0/\v.name.size<=1048576
 cr: ∀p∈C.procs,∀c∈p.calls,∃j:Nat,c=j/\j<C.procs.length
 ca: ∀p∈C.procs,∀(k:Nat) c d,p.calls[k]? =some c->p.calls[k+1]? =some d->c<d
 tn:(C.thrs.map Th.name).Nodup
 to: ∀t∈C.thrs,t.okT C.procs
theorem zR1 {t:Nd} (hz:t.size<900) (hs:t.sane):(collectM t).dcl:=by
 by_cases hk:t.kind=62
 rotate_left
 ·have:collectM t= .nil:=by unfold collectM;rw[if_neg hk]
  rw[this];refine⟨?_,?_,?_,?_,?_,?_,?_,?_,?_,?_,?_⟩<;>simp[Ct.nil,Ct.keys]
 have nd:=zSg hz hs;obtain⟨M,hM,hd,_,h6,_,BG,_,_,_⟩:=zML hz hs;obtain⟨a1,a2,a3,a4⟩:=zQw hk;have TB:collectM t=(((Ct.nil.modules t).decls.threads t).callsM).cyclesM:=by unfold collectM;rw[if_pos hk]
 rw[<- hM]at nd a1 a2 a3 a4 TB;obtain⟨dT,thT,hT⟩:=zHs (zGo t 61) (M.decls,[]);have SV:M.decls.threads t= { M.decls with diags:=dT,thrs:=thT }:=hT;have VM:M.decls.thrs=[]:=hd.th.trans BG;obtain⟨t1,t2,t3⟩:=zRL (zGo t 61) (M.decls,[]) (fun a ha=>(hs.kid (List.mem_filter.1 ha).1).self.name) ⟨by simp[VM],by simp,by simp[VM],by simp[VM]⟩;have MW:(collectM t).thrs=((zGo t 61).foldl zGx (M.decls,[])).1.thrs:=by rw[TB];rfl
 have VN:(collectM t).keys=M.decls.keys:=by
  unfold Ct.keys;rw[a3,a4,List.map_map];rfl
 have D8: ∀p∈(collectM t).procs,∃q∈M.decls.procs,∃c,p= { q with calls:=c }:=fun p hp=>by
  rw[a4]at hp;obtain⟨q,hq,rfl⟩:=List.mem_map.1 hp;exact⟨q,hq,_,rfl⟩
 have Tj:(M.decls.threads t).callsM.cok:=zI9 fun p hp=>(hd.pr p (by rw[SV]at hp;exact hp)).s.1
 have CC:(collectM t).procs=(M.decls.threads t).callsM.procs:=by rw[TB];rfl
 refine⟨by rw[a1];exact h6,by rw[VN];exact nd.k,by rw[a3,a1];exact nd.lm,by rw[a3];exact nd.ll,by rw[MW];exact t2,by rw[a2];exact nd.v,fun p hp=> ?_,fun p hp c hc=> ?_,fun p hp k c d hc hd=> ?_,by rw[MW];exact t1,fun x hx=> ?_⟩
 ·obtain⟨q,hq,c,rfl⟩:=D8 p hp;exact nd.pv q hq
 ·rw[CC]at hp⊢;exact(Tj p hp).2 c hc
 ·rw[a4]at hp;obtain⟨q,hq,rfl⟩:=List.mem_map.1 hp;exact zR2 _ _ q k c d hc hd
 ·rw[MW]at hx;obtain⟨⟨i,p,h1,h2,h3,h4⟩,h5⟩:=t3 x hx;refine⟨⟨i,{ p with calls:=zGG (M.mods.map Mo.name) (M.decls.procs.map fun p=>(p.module,p.name)) p },h1,?_,h3,h4⟩,h5⟩;rw[a4,zJ,h2];rfl
def zxL (l:List UInt8):Nat:=l.foldl (fun a x=>a*10+(x.toNat-48)) 0
theorem zlO (u:Nat):zxL (Go.Lib.decDigits u)=u/\ ∀x∈Go.Lib.decDigits u,48<=x.toNat/\x.toNat<=57:=by
 induction u using Nat.strongRecOn with
 | _ u ih=>
   have hd: ∀d,d<10->(UInt8.ofNat (48+d)).toNat=48+d:=fun d hd=>by
    rw[UInt8.toNat_ofNat'];omega
   rw[Go.Lib.decDigits];split
   ·rename_i h;refine⟨?_,fun x hx=> ?_⟩
    ·simp only[zxL,List.foldl_cons,List.foldl_nil];rw[hd u h];omega
    ·rw[List.mem_singleton]at hx;subst hx;rw[hd u h];omega
   ·rename_i h;obtain⟨h1,h2⟩:=ih (u/ 10) (by omega);refine⟨?_,fun x hx=> ?_⟩
    ·have:zxL (Go.Lib.decDigits (u/ 10)++[UInt8.ofNat (48+u % 10)])=zxL (Go.Lib.decDigits (u/ 10))*10+((UInt8.ofNat (48+u % 10)).toNat-48):=by
      simp[zxL]
     rw[this,h1,hd _ (by omega)];omega
    ·rcases List.mem_append.1 hx with hx | hx
     ·exact h2 x hx
     ·rw[List.mem_singleton]at hx;subst hx;rw[hd _ (by omega)];omega
theorem zRY (n:Nat):num (n:Int)=Go.Lib.decDigits n:=by
 unfold num Go.Lib.itoa;rw[if_neg (by omega)];simp
theorem zwM {a b:Nat} (h:num (a:Int)=num (b:Int)):a=b:=by
 rw[zRY,zRY]at h;rw[<- (zlO a).1,<- (zlO b).1,h]
theorem zR5 (n:Nat): ∀x∈num (n:Int),x≠32:=fun x hx h=>by
 rw[zRY]at hx;have:=(zlO n).2 x hx;rw[h]at this;exact absurd this.1 (by decide)
theorem zRQ: ∀{a c b d:List UInt8},(∀x∈a,x≠32)->(∀x∈c,x≠32)->a++32::b=c++32::d->a=c/\b=d
 | [],[],b,d,_,_,h=>by simpa using h
 | [],y::c,b,d,_,hc,h=>by
   simp only[List.nil_append,List.cons_append,List.cons.injEq]at h
   exact absurd h.1.symm (hc y (by simp))
 | x::a,[],b,d,ha,_,h=>by
   simp only[List.nil_append,List.cons_append,List.cons.injEq]at h
   exact absurd h.1 (ha x (by simp))
 | x::a,y::c,b,d,ha,hc,h=>by
   simp only[List.cons_append,List.cons.injEq]at h;obtain⟨h1,h2⟩:=zRQ (fun z hz=>ha z (by simp[hz])) (fun z hz=>hc z (by simp[hz])) h.2;exact⟨by rw[h.1,h1],h2⟩
def zRO (q:List UInt8×ByteArray):ByteArray:=bs (((q.1++[32])++num q.2.size)++[32])++q.2
def zR3 (l:List UInt8):Prop:= ∀x∈l,x≠32
theorem zSf {p q:List UInt8×ByteArray} (h1:zR3 p.1) (h2:zR3 q.1) (h:zRO p=zRO q):p=q:=by
 have he: ∀p:List UInt8×ByteArray,(zRO p).data.toList=p.1++32::(num p.2.size++32::p.2.data.toList):=fun p=>by
  simp[zRO,bs]
 have h3:=congrArg (fun b:ByteArray=>b.data.toList) h;simp only[he]at h3;obtain⟨e1,e2⟩:=zRQ h1 h2 h3;obtain⟨_,e4⟩:=zRQ (zR5 _) (zR5 _) e2;have e5:p.2=q.2:=by rw[<- zSn p.2,<- zSn q.2,e4]
 exact Prod.ext e1 e5
def zRU:List UInt8:=[109,111,100,117,108,101]
def zRT:List UInt8:=[116,104,114,101,97,100]
def sIn (m:Nat):List UInt8:=105::110::num (m:Int)
def zRN (i:Nat):List UInt8:=112::114::111::99::num (i:Int)
theorem zSj:zR3 zRU:=by unfold zR3 zRU;decide
theorem zSh:zR3 zRT:=by unfold zR3 zRT;decide
theorem zSk (m:Nat):zR3 (sIn m):=fun x hx=>by
 simp only[sIn,List.mem_cons]at hx;rcases hx with rfl | rfl | hx
 ·decide
 ·decide
 ·exact zR5 m x hx
theorem zSi (m:Nat):zR3 (zRN m):=fun x hx=>by
 simp only[zRN,List.mem_cons]at hx;rcases hx with rfl | rfl | rfl | rfl | hx
 ·decide
 ·decide
 ·decide
 ·decide
 ·exact zR5 m x hx
theorem zR6 {L:List (List UInt8×ByteArray)} {q:List UInt8×ByteArray} (hL: ∀p∈L,zR3 p.1) (hq:zR3 q.1) (h:q∉ L):zG5 (L.map zRO) (zRO q)=false:=by
 rw[Bool.eq_false_iff];intro hh;obtain⟨p,hp,he⟩:=List.mem_map.1 (zIf.1 hh);exact h (zSf (hL p hp) hq he▸hp)
theorem zRV {h:Nat->Option O} {x ka km:Nat} {L:List (List UInt8×ByteArray)} {sp:List UInt8} {nm:ByteArray} (Ew:h ka=some (.rows 1 [[.mm km]] false)) (K0:h km=some (.map (zHu T.str (L.map zRO)))) (hf:zG5 (L.map zRO) (zRO (sp,nm))=false) (hs:sp.length<=1000) (hn:nm.size<=2^24):
 ∃r h' x',DenR Γ G 596 [.t (.str (bs sp)),.t (.str nm),.mp ka 0 0] h x=some (r,h',x')/\(r=vb true/\h' km=some (.map (zHu T.str ((L++[(sp,nm)]).map zRO)))/\(∀j,j≠km->h' j=h j)/\x<=x'):=by
 have D2:=zIQ zGZ (zRO (sp,nm)) (L.map zRO);rw[hf]at D2;have Gy:=zLr zGZ (zRO (sp,nm)) (L.map zRO) hf;have Az:ka≠km:=by rintro rfl;rw[K0]at Ew;cases Ew
 have hi:=zuI (nm.size:Int) (by omega);have hl:=zwL (nm.size:Int) (by omega);simp only[zRO]at D2 Gy
 (refine zay Γ596 rfl ?_;dsimp only[zSq])
 have c1:(((sp.length+1:Nat):Int)<=1099511627776)=True:=eq_true (by omega);have c2:((((sp++[32]).length+(num (nm.size:Int)).length:Nat):Int)<=1099511627776)=True:=eq_true (by simp only[zM,List.length_cons,List.length_nil];omega);have c3:((((sp++[32]++num (nm.size:Int)).length+1:Nat):Int)<=1099511627776)=True:=eq_true (by simp only[zM,List.length_cons,List.length_nil];omega);have c4:((((sp++[32]++num (nm.size:Int)++[32]).length+nm.size:Nat):Int)<=1099511627776)=True:=eq_true (by simp only[zM,List.length_cons,List.length_nil];omega);simp -dsimp -implicitDefEqProofs only[go_sem,seval,Ew,K0,hi,c1,c2,c3,c4,D2,Gy,zG,if_false,Option.getD_none];refine⟨rfl,?_,fun j hj=> ?_,by(try simp -dsimp -implicitDefEqProofs only[go_sem,seval]);(try omega)⟩
 ·simp only[zaC,zaA];rw[zaa,if_pos rfl,List.map_append];rfl
 ·simp only[zaC,zaA];rw[zaa,if_neg hj]
theorem zR8 {h:Nat->Option O} {x ka km ks kf m:Nat} {C:Ct} {L:List (List UInt8×ByteArray)} {nm:ByteArray} {r1 r2 r3 r4:V} (Ew:h ka=some (.rows 1 [[.mm km]] false)) (K0:h km=some (.map (zHu T.str (L.map zRO)))) (Dn:h ks=some (.rows 5 [[.t (.sl (C.mods.map Mo.enc)),r1,r2,r3,r4]] false)) (Q0:h kf=some (.rows 1 [[.fn 596 [] [.mp ka 0 0]]] false))
 (hf:zG5 (L.map zRO) (zRO (sIn m,nm))=false) (hm:m<C.mods.length) (VJ:C.mods.length<2^40) (hn:nm.size<=2^24):
 ∃r h' x',DenR Γ G 597 [.t (.str (bs [105,110])),vi m,.t (.str nm),.mp ks 0 0,.mp kf 0 0] h x=some (r,h',x')/\(r=vb true/\h' km=some (.map (zHu T.str ((L++[(sIn m,nm)]).map zRO)))/\(∀j,j≠km->h' j=h j)/\x<=x'):=by
 have hi:=zuI (m:Int) (by omega);have hl:=zwL (m:Int) (by omega);have e1:((m:Int)>=0)=True:=eq_true (by omega);have e2:((m:Int)<C.mods.length)=True:=eq_true (by omega)
 (refine zay Γ597 rfl ?_;dsimp only[zSp])
 have c1:(((2+(num (m:Int)).length:Nat):Int)<=1099511627776)=True:=eq_true (by omega);simp -dsimp -implicitDefEqProofs only[go_sem,seval,e1,e2,Dn,Q0,hi,c1];refine zas (zRV (sp:=sIn m) Ew K0 hf (by simp only[sIn,List.length_cons];omega) hn) ?_;rintro r h' x' ⟨rfl,h1,h2,hx⟩;simp -dsimp -implicitDefEqProofs only[go_sem,seval];refine⟨rfl,h1,h2,by(try simp -dsimp -implicitDefEqProofs only[go_sem,seval]);(try omega)⟩
theorem zR4 {i w:Int} (hw:1<=w/\w<=8) (hi:0<=i/\i<2^w.toNat):i.fdiv (2^min w.toNat 64)=0:=by
 rw[Nat.min_eq_left (by omega),Int.fdiv_eq_ediv_of_nonneg _ (Int.le_of_lt (Int.pow_pos (by decide)))];exact Int.ediv_eq_zero_of_lt hi.1 hi.2
theorem zR9 {v:Va} (hv:v.okW):Den Γ G 598 [.agg [.t (.str v.name),vi v.w,vi v.len,vi v.init,vb v.ghost,vi v.module,vi v.pos]]=some (vb true):=by
 have e1:=eq_true hv.w.1;have e2:=eq_true hv.w.2;have e3:=eq_true hv.l.1;have e4:=eq_true hv.l.2;have e5:=eq_true hv.i.1;have e6:=zR4 hv.w hv.i;have e7:(v.w<0)=False:=eq_false (by have:=hv.w.1;omega)
 (refine zag Γ598 rfl ?_;dsimp only[zSo])
 simp -dsimp -implicitDefEqProofs only[go_sem,seval,e1,e2,e3,e4,e5,e6,e7,ge_iff_le]
 try rfl
theorem zRP {v:Va} (hv:v.okW) (h:Nat->Option O) (x:Nat): ∃r h' x',DenR Γ G 598 [.agg [.t (.str v.name),vi v.w,vi v.len,vi v.init,vb v.ghost,vi v.module,vi v.pos]] h x=some (r,h',x')/\(r=vb true/\h'=h/\x<=x'):=by
 refine⟨_,_,_,zSc (zR9 hv) (by simp[toT1,toT];exact⟨rfl,rfl,rfl,rfl,rfl,rfl,rfl⟩),rfl,rfl,Nat.le_refl _⟩
end Rg
end
section
namespace Rg
open Go
def Kn (C:Ct) (a b c d e f:Nat) (q:List UInt8×ByteArray):Prop:=
 (∃(j:Nat) (m:Mo),C.mods[j]? =some m/\j<a/\q=(zRU,m.name))\/(∃(j:Nat) (l:Lk),C.locks[j]? =some l/\j<b/\q=(sIn l.module.toNat,l.name))\/(∃(j:Nat) (p:Pr),C.procs[j]? =some p/\j<c/\q=(sIn p.module.toNat,p.name))\/
 (∃(j:Nat) (p:Pr) (k:Nat) (v:Va),C.procs[j]? =some p/\(p.params++p.locals)[k]? =some v/\(j<d\/j=d/\k<e)/\q=(zRN j,v.name))\/ ∃(j:Nat) (t:Th),C.thrs[j]? =some t/\j<f/\q=(zRT,t.name)
theorem Kn.le {C:Ct} {a b c d e f a' b' c' d' e' f':Nat} {q:List UInt8×ByteArray} (h:Kn C a b c d e f q) (ha:a<=a') (hb:b<=b') (hc:c<=c') (hd:d<=d') (he:d<d'\/e<=e') (hf:f<=f'):Kn C a' b' c' d' e' f' q:=by
 rcases h with⟨j,m,h1,h2,h3⟩ | ⟨j,m,h1,h2,h3⟩ | ⟨j,m,h1,h2,h3⟩ | ⟨j,p,k,v,h1,h2,h3,h4⟩ | ⟨j,m,h1,h2,h3⟩
 ·exact .inl ⟨j,m,h1,by omega,h3⟩
 ·exact .inr (.inl ⟨j,m,h1,by omega,h3⟩)
 ·exact .inr (.inr (.inl ⟨j,m,h1,by omega,h3⟩))
 ·exact .inr (.inr (.inr (.inl ⟨j,p,k,v,h1,h2,by omega,h4⟩)))
 ·exact .inr (.inr (.inr (.inr ⟨j,m,h1,by omega,h3⟩)))
theorem Kn.next {C:Ct} {a b c d e f:Nat} {q:List UInt8×ByteArray} {p:Pr} (hp:C.procs[d]? =some p) (h:Kn C a b c d e f q):Kn C a b c (d+1) 0 f q:=h.le (Nat.le_refl _) (Nat.le_refl _) (Nat.le_refl _) (by omega) (by omega) (Nat.le_refl _)
theorem zRF {α:Type} {l:List α} (h:l.Nodup) {i j:Nat} {a:α} (hi:l[i]? =some a) (hj:l[j]? =some a):i=j:=
 (List.getElem?_inj (by have:=(zH.1 hi).1;omega) h).1 (hi.trans hj.symm)
theorem zRI {α β:Type} {f:α->β} {l:List α} {i:Nat} {a:α} (h:l[i]? =some a):(l.map f)[i]? =some (f a):=by rw[zJ,h];rfl
theorem zRR {a b:Nat} (h:sIn a=sIn b):a=b:=zwM (by simpa[sIn]using h)
theorem zSd {a b:Nat} (h:zRN a=zRN b):a=b:=zwM (by simpa[zRN]using h)
section
variable {C:Ct} {a b c d e f:Nat}
theorem zSu (nm:C.nms) {m:Mo} (hm:C.mods[a]? =some m): ¬Kn C a b c d e f (zRU,m.name):=by
 rintro(⟨j,m2,h1,h2,h3⟩ | ⟨_,_,_,_,h⟩ | ⟨_,_,_,_,h⟩ | ⟨_,_,_,_,_,_,_,h⟩ | ⟨_,_,_,_,h⟩)
 ·have:=zRF nm.mn (zRI hm) (by rw[(Prod.mk.inj h3).2];exact zRI h1);omega
 all_goals exact absurd (Prod.mk.inj h).1 (by simp[zRU,sIn,zRN,zRT])
theorem zRK {l:Lk} (hl:C.locks[b]? =some l):C.keys[b]? =some (l.module,l.name):=by
 unfold Ct.keys;rw[List.getElem?_append_left (by simpa using(zH.1 hl).1)];exact zRI hl
theorem zRJ {p:Pr} (hp:C.procs[c]? =some p):C.keys[C.locks.length+c]? =some (p.module,p.name):=by
 unfold Ct.keys;rw[List.getElem?_append_right (by simp),List.length_map,show C.locks.length+c-C.locks.length=c by omega];exact zRI hp
theorem zSm (nm:C.nms) (dc:C.dcl) {l:Lk} (hl:C.locks[b]? =some l): ¬Kn C a b c d e f (sIn l.module.toNat,l.name):=by
 have hm:=(dc.lm l (zL hl)).1;have D4:=(zH.1 hl).1;rintro(⟨_,_,_,_,h⟩ | ⟨j,l2,h1,h2,h3⟩ | ⟨j,p,h1,h2,h3⟩ | ⟨_,_,_,_,_,_,_,h⟩ | ⟨_,_,_,_,h⟩)
 ·exact absurd (Prod.mk.inj h).1 (by simp[zRU,sIn,zRN,zRT])
 ·have Mu:=(dc.lm l2 (zL h1)).1;obtain⟨e1,e2⟩:=Prod.mk.inj h3;have e3:=zRR e1;have:=zRF dc.kn (zRK hl) (by rw[e2,show l.module=l2.module by omega];exact zRK h1);omega
 ·have Mu:=nm.pm p (zL h1);obtain⟨e1,e2⟩:=Prod.mk.inj h3;have e3:=zRR e1;have:=zRF dc.kn (zRK hl) (by rw[e2,show l.module=p.module by omega];exact zRJ h1);omega
 all_goals exact absurd (Prod.mk.inj h).1 (by simp[zRU,sIn,zRN,zRT])
theorem zSl (nm:C.nms) (dc:C.dcl) {p:Pr} (hp:C.procs[c]? =some p): ¬Kn C a b c d e f (sIn p.module.toNat,p.name):=by
 have hm:=nm.pm p (zL hp);rintro(⟨_,_,_,_,h⟩ | ⟨j,l,h1,h2,h3⟩ | ⟨j,p2,h1,h2,h3⟩ | ⟨_,_,_,_,_,_,_,h⟩ | ⟨_,_,_,_,h⟩)
 ·exact absurd (Prod.mk.inj h).1 (by simp[zRU,sIn,zRN,zRT])
 ·have Mu:=(dc.lm l (zL h1)).1;have AN:=(zH.1 h1).1;obtain⟨e1,e2⟩:=Prod.mk.inj h3;have e3:=zRR e1;have:=zRF dc.kn (zRJ hp) (by rw[e2,show p.module=l.module by omega];exact zRK h1);omega
 ·have Mu:=nm.pm p2 (zL h1);obtain⟨e1,e2⟩:=Prod.mk.inj h3;have e3:=zRR e1;have:=zRF dc.kn (zRJ hp) (by rw[e2,show p.module=p2.module by omega];exact zRJ h1);omega
 all_goals exact absurd (Prod.mk.inj h).1 (by simp[zRU,sIn,zRN,zRT])
theorem zSs (nm:C.nms) {p:Pr} {v:Va} (hp:C.procs[d]? =some p) (hv:(p.params++p.locals)[e]? =some v): ¬Kn C a b c d e f (zRN d,v.name):=by
 rintro(⟨_,_,_,_,h⟩ | ⟨_,_,_,_,h⟩ | ⟨_,_,_,_,h⟩ | ⟨j,p2,k,w,h1,h2,h3,h⟩ | ⟨_,_,_,_,h⟩)
 ·exact absurd (Prod.mk.inj h).1 (by simp[zRU,sIn,zRN,zRT])
 ·exact absurd (Prod.mk.inj h).1 (by simp[zRU,sIn,zRN,zRT])
 ·exact absurd (Prod.mk.inj h).1 (by simp[zRU,sIn,zRN,zRT])
 ·obtain⟨e1,e2⟩:=Prod.mk.inj h;have e3:=zSd e1;subst e3;rw[hp]at h1;cases h1;have:=zRF (nm.pl p (zL hp)) (zRI hv) (by rw[e2];exact zRI h2);omega
 ·exact absurd (Prod.mk.inj h).1 (by simp[zRU,sIn,zRN,zRT])
theorem zSt (dc:C.dcl) {t:Th} (ht:C.thrs[f]? =some t): ¬Kn C a b c d e f (zRT,t.name):=by
 rintro(⟨_,_,_,_,h⟩ | ⟨_,_,_,_,h⟩ | ⟨_,_,_,_,h⟩ | ⟨_,_,_,_,_,_,_,h⟩ | ⟨j,t2,h1,h2,h3⟩)
 ·exact absurd (Prod.mk.inj h).1 (by simp[zRU,sIn,zRN,zRT])
 ·exact absurd (Prod.mk.inj h).1 (by simp[zRU,sIn,zRN,zRT])
 ·exact absurd (Prod.mk.inj h).1 (by simp[zRU,sIn,zRN,zRT])
 ·exact absurd (Prod.mk.inj h).1 (by simp[zRU,sIn,zRN,zRT])
 ·have:=zRF dc.tn (zRI ht) (by rw[(Prod.mk.inj h3).2];exact zRI h1);omega
end
structure HD (C:Ct) (h:Nat->Option O) (K:List UInt8×ByteArray->Prop):Prop where
 s:h 12=some (.rows 5 [[.t (.sl (C.mods.map Mo.enc)),.t (.sl (C.vars.map Va.enc)),.t (.sl (C.locks.map Lk.enc)),.t (.sl (C.procs.map Pr.enc)),.t (.sl (C.thrs.map Th.enc))]] false)
 a:h 37=some (.rows 1 [[.mm 36]] false)
 f:h 40=some (.rows 1 [[.fn 596 [] [.mp 37 0 0]]] false)
 m: ∃L:List (List UInt8×ByteArray),h 36=some (.map (zHu T.str (L.map zRO)))/\ ∀q∈L,zR3 q.1/\K q
theorem HD.keep {C:Ct} {h h':Nat->Option O} {K:List UInt8×ByteArray->Prop} (H:HD C h K) (hh: ∀j,j<41->h' j=h j):HD C h' K:=
 ⟨(hh 12 (by omega)).trans H.s,(hh 37 (by omega)).trans H.a,(hh 40 (by omega)).trans H.f,by rw[hh 36 (by omega)];exact H.m⟩
theorem HD.keep4 {C:Ct} {h h':Nat->Option O} {K:List UInt8×ByteArray->Prop} (H:HD C h K) (h1:h' 12=h 12) (h2:h' 37=h 37) (h3:h' 40=h 40) (h4:h' 36=h 36):HD C h' K:=
 ⟨h1.trans H.s,h2.trans H.a,h3.trans H.f,by rw[h4];exact H.m⟩
theorem zRS {h:Nat->Option O} {x:Nat} {v:V} {sz:Nat} {rows:List (List V)} {sz' q:Nat} {rs:List (List V)} {fz:Bool} (o:zaF h x v sz rows) (hq:h q=some (.rows sz' rs fz)) (hs:sz≠sz'):zbg v q:=by
 rcases o with⟨rfl,_⟩ | ⟨k,rfl,_,hk⟩
 ·intro i n e;cases e
 ·intro i n e;cases e;rw[hk]at hq;cases hq;exact hs rfl
theorem HD.imp {C:Ct} {h:Nat->Option O} {K K':List UInt8×ByteArray->Prop} (H:HD C h K) (hh: ∀q,K q->K' q):HD C h K':=by
 obtain⟨L,h1,h2⟩:=H.m;exact⟨H.s,H.a,H.f,L,h1,fun q hq=>⟨(h2 q hq).1,hh q (h2 q hq).2⟩⟩
theorem HD.step {C:Ct} {h h':Nat->Option O} {K K':List UInt8×ByteArray->Prop} (H:HD C h K) {L:List (List UInt8×ByteArray)} {q:List UInt8×ByteArray} (hL: ∀q∈L,zR3 q.1/\K q) (hq:zR3 q.1) (hK: ∀q,K q->K' q) (HN:K' q)
 (h1:h' 36=some (.map (zHu T.str ((L++[q]).map zRO)))) (h2: ∀j,j≠36->h' j=h j):HD C h' K':=by
 refine⟨(h2 12 (by omega)).trans H.s,(h2 37 (by omega)).trans H.a,(h2 40 (by omega)).trans H.f,L++[q],h1,fun x hx=> ?_⟩;rcases List.mem_append.1 hx with hx | hx
 ·exact⟨(hL x hx).1,hK x (hL x hx).2⟩
 ·rw[List.mem_singleton]at hx;subst hx;exact⟨hq,HN⟩
theorem HD.fresh {C:Ct} {h:Nat->Option O} {x:Nat} {K K':List UInt8×ByteArray->Prop} (H:HD C h K) {sp:List UInt8} {nm:ByteArray} (hq:zR3 sp) (hn: ¬K (sp,nm)) (hK: ∀q,K q->K' q) (HN:K' (sp,nm)) (hs:sp.length<=1000) (hz:nm.size<=2^24):
 ∃r h' x',DenR Γ G 596 [.t (.str (bs sp)),.t (.str nm),.mp 37 0 0] h x=some (r,h',x')/\(r=vb true/\HD C h' K'/\(∀j,j≠36->h' j=h j)/\x<=x'):=by
 obtain⟨L,h1,h2⟩:=H.m;obtain⟨r,h',x',e,hr,a1,a2,a3⟩:=zRV (x:=x) H.a h1 (zR6 (fun p hp=>(h2 p hp).1) hq fun hm=>hn (h2 _ hm).2) hs hz;exact⟨r,h',x',e,hr,H.step h2 hq hK HN a1 a2,a2,a3⟩
theorem HD.inside {C:Ct} {h:Nat->Option O} {x m:Nat} {K K':List UInt8×ByteArray->Prop} (H:HD C h K) {nm:ByteArray} (hn: ¬K (sIn m,nm)) (hK: ∀q,K q->K' q) (HN:K' (sIn m,nm)) (hm:m<C.mods.length) (VJ:C.mods.length<2^40) (hz:nm.size<=2^24):
 ∃r h' x',DenR Γ G 597 [.t (.str (bs [105,110])),vi m,.t (.str nm),.mp 12 0 0,.mp 40 0 0] h x=some (r,h',x')/\(r=vb true/\HD C h' K'/\(∀j,j≠36->h' j=h j)/\x<=x'):=by
 obtain⟨L,h1,h2⟩:=H.m;obtain⟨r,h',x',e,hr,a1,a2,a3⟩:=zR8 (x:=x) H.a h1 H.s H.f (zR6 (fun p hp=>(h2 p hp).1) (zSk m) fun hm=>hn (h2 _ hm).2) hm VJ hz;exact⟨r,h',x',e,hr,H.step h2 (zSk m) hK HN a1 a2,a2,a3⟩
theorem zRZ (s:Nd) (hs:s.sane):Den Γ G 591 [(.agg [.t (ti (s).kind),.t (.str (s).name),.t (.str (s).other),.t (ti (s).n),.t (ti (s).len),.t (ti (s).init),.t (tb (s).ghost),.t (.sl ((s).kids.map Nd.enc)),.t (ti (s).pos)])]=some (vb true):=by
 have hh:=zLg;have hf:=zNL s hs
 (refine zag Γ591 rfl ?_;dsimp only[zSr])
 by_cases hc:zGD 60 s 400<=400
 rotate_left
 ·have Bz:=eq_false hc;simp -dsimp -implicitDefEqProofs only[go_sem,seval,hh,hf,Bz]
  try rfl
 have Bz:=eq_true hc;have AS:=zMK hc;have h1:=zHi s (by omega) hs;have ok1:=zIC (by omega) hs;have nm:=zRe (by omega) hs;have dc:=zR1 (by omega) hs;have d20:=zLn s
 generalize collectM s=C at *
 unfold zKE at h1;have m6:=dc.m6;have l4:=dc.l4;have t4:=dc.t4;have lv:=ok1.v;have lp:=ok1.p.1;have c1:((C.mods.length:Int)>6)=False:=eq_false (by omega);have c2:((C.locks.length:Int)>4)=False:=eq_false (by omega);have c3:((C.thrs.length:Int)>4)=False:=eq_false (by omega);have c4:((C.diags.length:Int)>20)=False:=eq_false (by omega);simp -dsimp -implicitDefEqProofs only[go_sem,seval,hh,hf,Bz,h1,c1,c2,c3,c4];have c0:(0:Nat)<=0:=Nat.le_refl _;refine zaq 4717754796851217826308 C.mods.length (fun i f h x=>(f 62).v=vi i/\HD C h (Kn C i 0 0 0 0 0)/\41<=x) rfl ⟨by simp -dsimp -implicitDefEqProofs only[go_sem,seval],⟨by simp -dsimp -implicitDefEqProofs only[go_sem,seval],by simp -dsimp -implicitDefEqProofs only[go_sem,seval],by simp -dsimp -implicitDefEqProofs only[go_sem,seval],[],by simp -dsimp -implicitDefEqProofs only[go_sem,seval],by simp⟩,by(try simp -dsimp -implicitDefEqProofs only[go_sem,seval]);(try omega)⟩ ?_;rintro i f u h x bb hi ⟨g,H,hx⟩
 by_cases AV:i<C.mods.length
 ·have e1:=eq_true AV;obtain⟨mo,Li,V8⟩:=zai AV;have Mt:(C.mods.map Mo.enc)[i]? =some mo.enc:=by rw[zJ,Li];rfl
  rw[show mo.enc=[.str mo.name,.str mo.owner,ti mo.rely.kind,.str mo.rely.name,.str mo.rely.other,ti mo.rely.n,ti mo.rely.len,ti mo.rely.init,tb mo.rely.ghost,.sl (mo.rely.kids.map Nd.enc),ti mo.rely.pos,ti mo.guar.kind,.str mo.guar.name,.str mo.guar.other,ti mo.guar.n,ti mo.guar.len,ti mo.guar.init,tb mo.guar.ghost,.sl (mo.guar.kids.map Nd.enc),ti mo.guar.pos,.sl (mo.frame.map Nd.enc),ti mo.pos]from by simp[Mo.enc,Nd.enc_eq]]at Mt;have msz:=nm.ms mo V8;have BF:=zan i (by omega);have VO:=H.f;simp -dsimp -implicitDefEqProofs only[go_sem,seval,g,e1,Mt,VO];refine zas (H.fresh (K':=Kn C (i+1) 0 0 0 0 0) zSj (zSu nm Li) (fun q hq=>hq.le (by omega) (by omega) (by omega) (by omega) (by omega) (by omega)) (.inl ⟨i,mo,Li,by omega,rfl⟩) (by decide) (by omega)) ?_;rintro r h' x' ⟨rfl,H',hh,Dc⟩;simp -dsimp -implicitDefEqProofs only[go_sem,seval,g,BF];exact⟨AV,by simp -dsimp -implicitDefEqProofs only[go_sem,seval],H'.keep (fun j hj=>by simp -dsimp -implicitDefEqProofs only[go_sem,seval]),by(try simp -dsimp -implicitDefEqProofs only[go_sem,seval]at Dc⊢);(try omega)⟩
 have e1:=eq_false AV;have VK:=H.s;simp -dsimp -implicitDefEqProofs only[go_sem,seval,g,e1,VK];refine zaq 158456287249596812229926195204 C.vars.length (fun i f h x=>(f 75).v=vi i/\HD C h (Kn C C.mods.length 0 0 0 0 0)/\41<=x) rfl ⟨by simp -dsimp -implicitDefEqProofs only[go_sem,seval],H.imp fun q hq=>hq.le (by omega) (by omega) (by omega) (by omega) (by omega) (by omega),by(try simp -dsimp -implicitDefEqProofs only[go_sem,seval]);(try omega)⟩ ?_;clear g H hx VK e1 hi AV;rintro i f u h x bb hi ⟨g,H,hx⟩
 by_cases AV:i<C.vars.length
 ·have e1:=eq_true AV;obtain⟨v,hv,Kg⟩:=zai AV;have vr:=(nm.vm v Kg).1;have Bj:(C.vars.map Va.enc)[i]? =some [.str v.name,ti v.w,ti v.len,ti v.init,tb v.ghost,ti v.module,ti v.pos]:=by rw[zJ,hv];rfl
  have BF:=zan i (by omega);have VK:=H.s;have e2:(v.module<0)=False:=eq_false (by omega);have e3:(v.module>=C.mods.length)=False:=eq_false (by omega);simp -dsimp -implicitDefEqProofs only[go_sem,seval,g,e1,Bj];refine zas (zRP (dc.v v Kg) _ _) ?_;rintro r h' x' ⟨rfl,rfl,Dc⟩;simp -dsimp -implicitDefEqProofs only[go_sem,seval,VK,e2,e3,g,BF];exact⟨AV,by simp -dsimp -implicitDefEqProofs only[go_sem,seval],H.keep (fun j hj=>by simp -dsimp -implicitDefEqProofs only[go_sem,seval]),by(try simp -dsimp -implicitDefEqProofs only[go_sem,seval]at Dc⊢);(try omega)⟩
 have e1:=eq_false AV;have VK:=H.s;simp -dsimp -implicitDefEqProofs only[go_sem,seval,g,e1,VK];refine zaq 5191029207934599399128999626031108 C.locks.length (fun i f h x=>(f 100).v=vi i/\HD C h (Kn C C.mods.length i 0 0 0 0)/\41<=x) rfl ⟨by simp -dsimp -implicitDefEqProofs only[go_sem,seval],H.keep (fun j hj=>by simp -dsimp -implicitDefEqProofs only[go_sem,seval]),by(try simp -dsimp -implicitDefEqProofs only[go_sem,seval]);(try omega)⟩ ?_;clear g H hx VK e1 hi AV;rintro i f u h x bb hi ⟨g,H,hx⟩
 by_cases AV:i<C.locks.length
 ·have e1:=eq_true AV;obtain⟨l,hl,Hy⟩:=zai AV;obtain⟨lr,lsz⟩:=dc.lm l Hy;obtain⟨m,D8⟩: ∃m:Nat,l.module=m:=⟨l.module.toNat,by omega⟩
  have Bj:(C.locks.map Lk.enc)[i]? =some l.enc:=by rw[zJ,hl];rfl
  rw[show l.enc=[.str l.name,ti l.module,ti l.inv.kind,.str l.inv.name,.str l.inv.other,ti l.inv.n,ti l.inv.len,ti l.inv.init,tb l.inv.ghost,.sl (l.inv.kids.map Nd.enc),ti l.inv.pos,ti l.pos]from by simp[Lk.enc,Nd.enc_eq],D8]at Bj;have BF:=zan i (by omega);have Hx:=zSm (a:=C.mods.length) (c:=0) (d:=0) (e:=0) (f:=0) nm dc hl;have Mw:Kn C C.mods.length (i+1) 0 0 0 0 (sIn l.module.toNat,l.name):=.inr (.inl ⟨i,l,hl,by omega,rfl⟩);rw[D8,Int.toNat_natCast]at Hx Mw;simp -dsimp -implicitDefEqProofs only[go_sem,seval,g,e1,Bj];refine zas (H.inside (K':=Kn C C.mods.length (i+1) 0 0 0 0) Hx (fun q hq=>hq.le (by omega) (by omega) (by omega) (by omega) (by omega) (by omega)) Mw (by omega) (by omega) (by omega)) ?_;rintro r h' x' ⟨rfl,H',hh,Dc⟩;simp -dsimp -implicitDefEqProofs only[go_sem,seval,g,BF];exact⟨AV,by simp -dsimp -implicitDefEqProofs only[go_sem,seval],H'.keep (fun j hj=>by simp -dsimp -implicitDefEqProofs only[go_sem,seval]),by(try simp -dsimp -implicitDefEqProofs only[go_sem,seval]at Dc⊢);(try omega)⟩
 have e1:=eq_false AV;have VK:=H.s;simp -dsimp -implicitDefEqProofs only[go_sem,seval,g,e1,VK];refine zaq 25711008708143844408671393435920226772076626872280714732994564 C.procs.length (fun i f h x=>(f 115).v=vi i/\HD C h (Kn C C.mods.length C.locks.length i i 0 0)/\41<=x) rfl ⟨by simp -dsimp -implicitDefEqProofs only[go_sem,seval],(H.keep (fun j hj=>by simp -dsimp -implicitDefEqProofs only[go_sem,seval])).imp fun q hq=>hq.le (by omega) (by omega) (by omega) (by omega) (by omega) (by omega),by(try simp -dsimp -implicitDefEqProofs only[go_sem,seval]);(try omega)⟩ ?_;clear g H hx VK e1 hi AV;rintro i f u h x bb hi ⟨g,H,hx⟩
 by_cases AV:i<C.procs.length
 ·have e1:=eq_true AV;obtain⟨p,hp,IV⟩:=zai AV;have pr:=nm.pm p IV;have psz:=nm.ps p IV;have pok:=ok1.p.2 p IV;have lpp:=pok.p;have lpl:=pok.l;have lpc:=pok.c;have pv:=dc.pv p IV;obtain⟨m,D8⟩: ∃m:Nat,p.module=m:=⟨p.module.toNat,by omega⟩
  have Bj:(C.procs.map Pr.enc)[i]? =some [.str p.name,ti m,.sl (p.params.map Va.enc),.sl (p.locals.map Va.enc),.str p.locked,ti p.body.kind,.str p.body.name,.str p.body.other,ti p.body.n,ti p.body.len,ti p.body.init,tb p.body.ghost,.sl (p.body.kids.map Nd.enc),ti p.body.pos,.sl (p.calls.map fun n=>[ti n]),ti p.pos]:=by
   rw[zJ,hp,<- D8];simp[Pr.enc,Nd.enc_eq]
  have BF:=zan i (by omega);have Hx:=zSl (a:=C.mods.length) (b:=C.locks.length) (d:=i) (e:=0) (f:=0) nm dc hp;have Mw:Kn C C.mods.length C.locks.length (i+1) i 0 0 (sIn p.module.toNat,p.name):=.inr (.inr (.inl ⟨i,p,hp,by omega,rfl⟩));rw[D8,Int.toNat_natCast]at Hx Mw;simp -dsimp -implicitDefEqProofs only[go_sem,seval,g,e1,Bj];refine zas (H.inside (K':=Kn C C.mods.length C.locks.length (i+1) i 0 0) Hx (fun q hq=>hq.le (by omega) (by omega) (by omega) (by omega) (by omega) (by omega)) Mw (by omega) (by omega) (by omega)) ?_;rintro r h' x' ⟨rfl,H',hh,Dc⟩;simp -dsimp -implicitDefEqProofs only[go_sem,seval,g];refine zpb (x:=x'+1) (a:=[]) (.inr ⟨x'+0,rfl,by omega,by simp -dsimp -implicitDefEqProofs only[go_sem,seval]⟩) (by omega) (by simp;omega) (by decide) (zHl _) rfl ?_;intro w1 DN o1 b1 b2;have v1:=o1.valOf;have v2:=o1.rowsS
  have H1:HD C _ (Kn C C.mods.length C.locks.length (i+1) i 0 0):=H'.keep (h':=VI (updC h' (x'+0) (some (.rows 7 [] false))) DN) fun j hj=>by
   rw[b1 j (by omega) (fun i n e=>by cases e;omega),zaa,if_neg (by omega)]
  simp -dsimp -implicitDefEqProofs only[go_sem,seval,v1,v2];refine zpb (x:=x'+3+1) o1 (by omega) (by simp;omega) (by decide) (zHl _) (zHl _) ?_;intro w2 D0 o2 b3 b4;obtain⟨L1,Pv,VS⟩:=H1.m;have H2:HD C _ (Kn C C.mods.length C.locks.length (i+1) i 0 0):=H1.keep4 (h':=VI (VI (updC h' (x'+0) (some (.rows 7 [] false))) DN) D0) (b3 12 (by omega) (zRS o1 H1.s (by decide))) (b3 37 (by omega) (zRS o1 H1.a (by decide))) (b3 40 (by omega) (zRS o1 H1.f (by decide))) (b3 36 (by omega) (zHH o1 Pv));clear H1 VS Pv L1 b1 b2 b3 b4;have PW:List.map (fun x=>List.map V.t x) (List.map Va.enc p.params)++List.map (fun x=>List.map V.t x) (List.map Va.enc p.locals)=zGk ((p.params++p.locals).map Va.enc):=by simp
  have o3:=o2;rw[PW]at o3;have u1:=o3.valOf;have u2:=o3.lenS;rw[show(zGk ((p.params++p.locals).map Va.enc)).length=(p.params++p.locals).length by simp]at u2;simp -dsimp -implicitDefEqProofs only[go_sem,seval,u1,u2];refine zaq 2993155353210133033515266414079635674504083517210628 (p.params++p.locals).length (fun i2 f h x=>(f 135).v=vi i2/\HD C h (Kn C C.mods.length C.locks.length (i+1) i i2 0)/\41<=x/\zaF h x w2 7 (zGk ((p.params++p.locals).map Va.enc))) rfl ⟨by simp -dsimp -implicitDefEqProofs only[go_sem,seval],by simp only[zaC,zaA]at H2⊢;exact H2,by(try simp -dsimp -implicitDefEqProofs only[go_sem,seval]);(try omega),by simp only[zaC,zaA]at o3⊢;exact o3.le (by(try simp -dsimp -implicitDefEqProofs only[go_sem,seval]);(try omega))⟩ ?_;clear H2 o3 u1 u2 o2 o1 v1 v2;rintro i2 f2 u2 h2 x2 bb2 Cq ⟨g2,H2,ML,o2⟩
  by_cases Hi:i2<(p.params++p.locals).length
  ·have e2:=eq_true Hi;obtain⟨v,hv,Kg⟩:=zai Hi;obtain⟨vok,vm,vl,vi0,vsz⟩:=pv v Kg;have VP:=zan i2 (by simp only[zM]at Hi;omega);have Ap:(zGk ((p.params++p.locals).map Va.enc))[i2]? =some (v.enc.map V.t):=by simp only[zGk,zJ,hv,Option.map_some]
   have sr:=zHh o2 (fun r hr=>by
    obtain⟨q,hq,rfl⟩:=List.mem_map.1 hr;obtain⟨z,_,rfl⟩:=List.mem_map.1 hq
    rfl)
   obtain⟨pp,k1,k2,k3⟩:=sr.at_ i2 _ Ap;simp only[Va.enc,List.map_cons,List.map_nil]at k3;have y1:=sr.vl;simp -dsimp -implicitDefEqProofs only[go_sem,seval,g2,e2,y1,↓k1,k2,↓k3];refine zas (zRP vok _ _) ?_;rintro r h3 x3 ⟨rfl,rfl,S1⟩;have e3:(v.module=(m:Int))=True:=eq_true (by omega);have e4:=eq_true vl;have e5:=eq_true vi0;have B8:=zuI (i:Int) (by omega);have DB:=zwL (i:Int) (by omega);have e6:(((4+(num (i:Int)).length:Nat):Int)<=1099511627776)=True:=eq_true (by omega);have VO:=H2.f;simp -dsimp -implicitDefEqProofs only[go_sem,seval,e3,e4,e5,B8,e6,VO,ne_eq,not_true_eq_false];obtain⟨L2,O7,VW⟩:=H2.m;have HP:zbg w2 36:=zHH o2 O7;refine zas (H2.fresh (K':=Kn C C.mods.length C.locks.length (i+1) i (i2+1) 0) (sp:=zRN i) (zSi i) (zSs nm hp hv) (fun q hq=>hq.le (by omega) (by omega) (by omega) (by omega) (by omega) (by omega)) (.inr (.inr (.inr (.inl ⟨i,p,i2,v,hp,hv,by omega,rfl⟩)))) (by simp only[zRN,List.length_cons];omega) (by omega)) ?_;rintro r h4 x4 ⟨rfl,H4,VV,Vx⟩;simp -dsimp -implicitDefEqProofs only[go_sem,seval,g2,VP];exact⟨Hi,by simp -dsimp -implicitDefEqProofs only[go_sem,seval],H4.keep (fun j hj=>by simp -dsimp -implicitDefEqProofs only[go_sem,seval]),by(try simp -dsimp -implicitDefEqProofs only[go_sem,seval]at Vx⊢);(try omega),(o2.keep (h':=h4) (Nat.le_refl _) fun k hk Az=>VV k (by rintro rfl;exact Az HP)).le (by(try simp -dsimp -implicitDefEqProofs only[go_sem,seval]at Vx⊢);(try omega))⟩
  have e2:=eq_false Hi;simp -dsimp -implicitDefEqProofs only[go_sem,seval,g2,e2];have H3:HD C h2 (Kn C C.mods.length C.locks.length (i+1) (i+1) 0 0):=H2.imp fun q hq=>hq.next hp
  clear H2 o2;refine zaq 12855504330126679378306183326880128520954042956219543899865092 p.calls.length (fun k f h x=>(f 174).v=vi k/\HD C h (Kn C C.mods.length C.locks.length (i+1) (i+1) 0 0)/\41<=x) rfl ⟨by simp -dsimp -implicitDefEqProofs only[go_sem,seval],H3,by(try simp -dsimp -implicitDefEqProofs only[go_sem,seval]);(try omega)⟩ ?_;rintro k f5 u5 h5 x5 bb5 Ko ⟨g5,H5,Ux⟩
  by_cases Mw:k<p.calls.length
  ·have e3:=eq_true Mw;obtain⟨c,hc,TB⟩:=zai Mw;have Ez:(p.calls.map fun n=>[ti n])[k]? =some [ti c]:=by rw[zJ,hc];rfl
   obtain⟨j,VX,AN⟩:=dc.cr p IV c TB;have V6:=zan k (by omega);have f1:(c<0)=False:=eq_false (by omega);have f2:(c>=C.procs.length)=False:=eq_false (by omega);have VK:=H5.s
   cases k with
   | zero=>
     have g5':(f5 174).v=vi 0:=g5;have e3z:((0:Int)<p.calls.length)=True:=eq_true (by omega);have Cj:IntKind.i64.wrap 1=1:=by decide
     simp -dsimp -implicitDefEqProofs only[go_sem,seval,g5',e3z,Ez,f1,f2,VK,Cj];refine⟨Mw,?_,H5.keep (fun j hj=>by simp -dsimp -implicitDefEqProofs only[go_sem,seval]),by(try simp -dsimp -implicitDefEqProofs only[go_sem,seval]);(try omega)⟩;simp -dsimp -implicitDefEqProofs only[go_sem,seval]
     try rfl
   | succ k=>
     obtain⟨c0,CM,_⟩:=zai (l:=p.calls) (i:=k) (by omega);have VR:(p.calls.map fun n=>[ti n])[k]? =some [ti c0]:=by rw[zJ,CM];rfl
     have Ad:=dc.ca p IV k c0 c CM hc;have f3:(((k+1:Nat):Int)>0)=True:=eq_true (by omega);have f4:IntKind.i64.wrap (((k+1:Nat):Int)-1)=(k:Int):=by rw[zaH (by omega)];omega
     have f5':(c<=c0)=False:=eq_false (by omega);simp -dsimp -implicitDefEqProofs only[go_sem,seval,g5,e3,Ez,f1,f2,f3,f4,VR,f5',VK,V6];exact⟨Mw,by simp -dsimp -implicitDefEqProofs only[go_sem,seval],H5.keep (fun j hj=>by simp -dsimp -implicitDefEqProofs only[go_sem,seval]),by(try simp -dsimp -implicitDefEqProofs only[go_sem,seval]);(try omega)⟩
  have e3:=eq_false Mw;simp -dsimp -implicitDefEqProofs only[go_sem,seval,g5,e3,g,BF];exact⟨AV,by simp -dsimp -implicitDefEqProofs only[go_sem,seval],H5.keep (fun j hj=>by simp -dsimp -implicitDefEqProofs only[go_sem,seval]),by(try simp -dsimp -implicitDefEqProofs only[go_sem,seval]);(try omega)⟩
 have e1:=eq_false AV;have VK:=H.s;simp -dsimp -implicitDefEqProofs only[go_sem,seval,g,e1,VK];refine zaq 3794275180128377091433885967099534609266579709704041189322104129567099949152206852 C.thrs.length (fun i f h x=>(f 207).v=vi i/\HD C h (Kn C C.mods.length C.locks.length C.procs.length C.procs.length 0 i)/\41<=x) rfl ⟨by simp -dsimp -implicitDefEqProofs only[go_sem,seval],(H.keep (fun j hj=>by simp -dsimp -implicitDefEqProofs only[go_sem,seval])).imp fun q hq=>hq.le (by omega) (by omega) (by omega) (by omega) (by omega) (by omega),by(try simp -dsimp -implicitDefEqProofs only[go_sem,seval]);(try omega)⟩ ?_;clear g H hx VK e1 AV hi;rintro i f u h x bb hi ⟨g,H,hx⟩
 by_cases AV:i<C.thrs.length
 ·have e1:=eq_true AV;obtain⟨t,ht,IW⟩:=zai AV;obtain⟨⟨j,p,hj,VQ,QO,B0⟩,FR⟩:=dc.to t IW;have AN:=(zH.1 VQ).1;have targ:=ok1.t.2 t IW;have Bj:(C.thrs.map Th.enc)[i]? =some [.str t.name,ti (j:Int),.sl (t.args.map fun n=>[ti n]),tb t.asleep,ti t.pos]:=by rw[zJ,ht,<- hj];rfl
  have Fg:(C.procs.map Pr.enc)[j]? =some [.str p.name,ti p.module,.sl (p.params.map Va.enc),.sl (p.locals.map Va.enc),.str p.locked,ti p.body.kind,.str p.body.name,.str p.body.other,ti p.body.n,ti p.body.len,ti p.body.init,tb p.body.ghost,.sl (p.body.kids.map Nd.enc),ti p.body.pos,.sl (p.calls.map fun n=>[ti n]),ti p.pos]:=by
   rw[zJ,VQ];simp[Pr.enc,Nd.enc_eq]
  have BF:=zan i (by omega);have VO:=H.f;simp -dsimp -implicitDefEqProofs only[go_sem,seval,g,e1,Bj,VO];refine zas (H.fresh (K':=Kn C C.mods.length C.locks.length C.procs.length C.procs.length 0 (i+1)) zSh (zSt dc ht) (fun q hq=>hq.le (by omega) (by omega) (by omega) (by omega) (by omega) (by omega)) (.inr (.inr (.inr (.inr ⟨i,t,ht,by omega,rfl⟩)))) (by decide) (by omega)) ?_;rintro r h' x' ⟨rfl,H',Kt,Dc⟩;have VK:=H'.s;have f1:((j:Int)<0)=False:=eq_false (by omega);have f2:((j:Int)>=C.procs.length)=False:=eq_false (by omega);have f3:((p.params.length:Int)=p.params.length)=True:=eq_true rfl;simp -dsimp -implicitDefEqProofs only[go_sem,seval,VK,f1,f2,Fg,QO,f3,ne_eq,not_true_eq_false];refine zaq 1897137476985976400003189925051302634721190415802885601182859736602851833318211588 t.args.length (fun k f h x=>(f 246).v=vi k/\HD C h (Kn C C.mods.length C.locks.length C.procs.length C.procs.length 0 (i+1))/\41<=x) rfl ⟨by simp -dsimp -implicitDefEqProofs only[go_sem,seval],H'.keep (fun j hj=>by simp -dsimp -implicitDefEqProofs only[go_sem,seval]),by(try simp -dsimp -implicitDefEqProofs only[go_sem,seval]at Dc⊢);(try omega)⟩ ?_;rintro k f5 u5 h5 x5 bb5 Ko ⟨g5,H5,Ux⟩
  by_cases Mw:k<t.args.length
  ·have e3:=eq_true Mw;have e3':(k<p.params.length)=True:=eq_true (by omega);obtain⟨n,hn,GE⟩:=zai Mw;obtain⟨v,hv,Kg⟩:=zai (l:=p.params) (i:=k) (by omega);obtain⟨Fj,Fh⟩:=B0 k n v hn hv;have vok:=(dc.pv p (zL VQ) v (List.mem_append_left _ Kg)).1;have G3:(t.args.map fun n=>[ti n])[k]? =some [ti n]:=by rw[zJ,hn];rfl
   have Ke:(p.params.map Va.enc)[k]? =some [.str v.name,ti v.w,ti v.len,ti v.init,tb v.ghost,ti v.module,ti v.pos]:=by rw[zJ,hv];rfl
   have V6:=zan k (by omega);have f4:(n<0)=False:=eq_false (by omega);have f5':=zR4 vok.w ⟨Fj,Fh⟩;have f6:(v.w<0)=False:=eq_false (by have:=vok.w.1;omega);have VT:=H5.s;simp -dsimp -implicitDefEqProofs only[go_sem,seval,g5,e3,e3',G3,VT,Fg,Ke,f4,f5',f6,V6,ne_eq,not_true_eq_false];exact⟨by omega,by simp -dsimp -implicitDefEqProofs only[go_sem,seval],H5.keep (fun j hj=>by simp -dsimp -implicitDefEqProofs only[go_sem,seval]),by(try simp -dsimp -implicitDefEqProofs only[go_sem,seval]);(try omega)⟩
  have e3:=eq_false Mw;have e3':(k<p.params.length)=False:=eq_false (by omega);simp -dsimp -implicitDefEqProofs only[go_sem,seval,g5,e3,e3',g,BF];exact⟨AV,by simp -dsimp -implicitDefEqProofs only[go_sem,seval],H5.keep (fun j hj=>by simp -dsimp -implicitDefEqProofs only[go_sem,seval]),by(try simp -dsimp -implicitDefEqProofs only[go_sem,seval]);(try omega)⟩
 have e1:=eq_false AV;simp -dsimp -implicitDefEqProofs only[go_sem,seval,g,e1]
 try rfl
end Rg
end

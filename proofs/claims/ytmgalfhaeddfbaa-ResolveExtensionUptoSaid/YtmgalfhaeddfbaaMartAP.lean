/- Part of the proof of laws of relyguardlaw04. No condition. -/
import Derived.Test.YtmgalfhaeddfbaaMartAO
set_option linter.unusedSimpArgs false
set_option linter.unusedVariables false
section
namespace Rg
open Go
theorem zHU:Nd.noneN.sane:=fun x hx=>by
 have:x= .noneN:=by simpa[Nd.noneN,Nd.flat_eq,Nd.kids]using hx
 subst this;refine⟨?_,?_,?_,?_,?_,Nat.zero_le _,Nat.zero_le _,Nat.zero_le _⟩<;>simp[Nd.noneN,Nd.kind,Nd.n,Nd.len,Nd.init,Nd.pos]
theorem zHD {t:Nd} (h:t.sane):(zGC t).sane:=by
 unfold zGC
 cases hk:t.kids with
 | nil=>exact zHU
 | cons a l=>exact h.kid (by rw[hk];simp)
structure Mo.okM (m:Mo) (i:Nat):Prop where
 r:m.rely.sane
 g:m.guar.sane
 f: ∀k∈m.frame,k.sane
 l:m.frame.length<=900*i
theorem zI1: ∀(l:List Nd) (st:MoS) (i:Nat),(∀a∈l,a.sane/\a.size<900)->st.m.okM i->(l.foldl zGw st).m.okM (i+l.length)
 | [],st,i,_,h=>h
 | a::l,st,i,hs,h=>by
   have hk:=zGM a;have hl:(zGo a 2).length<=a.kids.length:=List.length_filter_le _ _;obtain⟨h1,h2⟩:=hs a (by simp)
   have AE:(zGw st a).m.okM (i+1):=by
    have h0:st.m.okM (i+1):=⟨h.r,h.g,h.f,by have:=h.l;omega⟩
    unfold zGw;split
    ·split
     ·exact h0
     ·split
      ·exact⟨zHD h1,h0.g,h0.f,h0.l⟩
      ·split
       ·exact⟨h0.r,zHD h1,h0.f,h0.l⟩
       ·refine⟨h0.r,h0.g,fun k hk=> ?_,by have:=h.l;simp only[zM];omega⟩;rcases List.mem_append.1 hk with hk | hk
        ·exact h.f k hk
        ·exact h1.kid (List.mem_filter.1 hk).1
    ·exact h0
   have:=zI1 l (zGw st a) (i+1) (fun b hb=>hs b (by simp[hb])) AE;rw[List.foldl_cons,List.length_cons,show i+(l.length+1)=i+1+l.length by omega];exact this
theorem zLP (ct:Ct) (n:Nd) (hs:n.sane) (hz:n.size<900):(ct.module n).m.ok:=by
 have h:=zI1 n.kids ⟨ct,[],⟨n.name,n.other,.noneN,.noneN,[],n.pos⟩⟩ 0 (fun a ha=>⟨hs.kid ha,by have:=Nd.size_kid ha;omega⟩) ⟨zHU,zHU,by simp,by simp⟩;have hk:=zGM n;exact⟨h.r,h.g,by have:=h.l;show(ct.module n).m.frame.length<2^30;unfold Ct.module;omega,h.f⟩
theorem zIr: ∀(l:List Nd) (st:Ct×List ByteArray),(∀a∈l,a.sane/\a.size<900)->(∀m∈st.1.mods,m.ok)-> ∀m∈(l.foldl zGu st).1.mods,m.ok
 | [],st,_,h=>h
 | a::l,st,hs,h=>by
   refine zIr l _ (fun b hb=>hs b (by simp[hb])) ?_;have rp: ∀(c:Ct) (e p:Int),(c.report e p).mods=c.mods:=fun c e p=>by unfold Ct.report;split<;>rfl
   unfold zGu;split
   ·rw[rp];exact h
   ·split
    ·rw[rp];exact h
    ·obtain⟨d,hd⟩:=zHI { st.1 with bodies:=st.1.bodies++[a] } a;intro m hm;simp only[hd,List.mem_append,List.mem_singleton]at hm;rcases hm with hm | rfl
     ·exact h m hm
     ·exact zLP _ a (hs a (by simp)).1 (hs a (by simp)).2
theorem zIS (m:Int) (ct:Ct) (a:Nd):(zGl m ct a).locks=ct.locks\/(zGl m ct a).locks=ct.locks++[⟨a.name,m,zGC a,a.pos⟩]:=by
 have rp: ∀(c:Ct) (e p:Int),(c.report e p).locks=c.locks:=fun c e p=>by unfold Ct.report;split<;>rfl
 unfold zGl;split
 rotate_left
 ·exact .inl rfl
 split
 ·exact .inl (rp _ _ _)
 split
 ·obtain⟨d,hd⟩:=zG0 (zGo a 52) (ct,[]);have hf:(ct.fields a).1= { ct with diags:=d }:=hd;exact .inl (by simp[Ct.addName,hf])
 split
 ·have h1:(ct.shared m a).1.locks=ct.locks:=by
   have fin: ∀vs:List Va,(ct.sharedFin a vs).1.locks=ct.locks:=fun vs=>by
    unfold Ct.sharedFin;split
    ·rfl
    ·exact rp _ _ _
   unfold Ct.shared;split
   ·exact rp _ _ _
   ·split
    ·split
     ·exact fin _
     ·exact rp _ _ _
    ·split
     ·exact rp _ _ _
     ·exact fin _
  left;split
  ·exact h1
  ·exact h1
 split
 ·have h1:(ct.lock m a).1.locks=ct.locks\/(ct.lock m a).1.locks=ct.locks++[⟨a.name,m,zGC a,a.pos⟩]:=by
   unfold Ct.lock;split
   ·exact .inl (rp _ _ _)
   ·exact .inr rfl
  split
  ·exact h1
  ·exact h1
 ·obtain⟨d,hd⟩:=zJj ct m a;exact .inl (by simp[Ct.addName,hd])
structure DcS (ct:Ct):Prop where
 l: ∀l∈ct.locks,l.inv.sane
 p: ∀p∈ct.procs,p.locals.length<900
theorem DcS.step {ct:Ct} (h:DcS ct) (m:Int) (a:Nd) (hs:a.sane) (hz:a.size<900):DcS (zGl m ct a):=by
 refine⟨?_,?_⟩
 ·rcases zIS m ct a with e | e
  ·rw[e];exact h.l
  ·rw[e];intro l hl;rcases List.mem_append.1 hl with hl | hl
   ·exact h.l l hl
   ·rw[List.mem_singleton]at hl;subst hl;exact zHD hs
 ·rcases zHy m ct a with e | e
  ·rw[e];exact h.p
  ·rw[e];intro p hp;rcases List.mem_append.1 hp with hp | hp
   ·exact h.p p hp
   ·rw[List.mem_singleton]at hp;subst hp;obtain⟨_,h2⟩:=zIK m ((zGj a 34).flat.filter fun a=>decide (a.kind=35)) { zGp ct m a with vs:=[] } (by simp);obtain⟨h5,_,_⟩:=zI6 (k:=34) hs hz;have h3:=List.length_filter_le (fun a:Nd=>decide (a.kind=35)) (zGj a 34).flat;rw[Nd.flat_len]at h3;simp only[List.length_nil,Nat.zero_add]at h2;exact Nat.lt_of_le_of_lt (show(zGr ct m a).vs.length<=_ from h2) (by omega)
theorem DcS.fold (m:Int): ∀(l:List Nd) {ct:Ct},DcS ct->(∀a∈l,a.sane/\a.size<900)->DcS (l.foldl (zGl m) ct)
 | [],ct,h,_=>h
 | a::l,ct,h,hs=>DcS.fold m l (h.step m a (hs a (by simp)).1 (hs a (by simp)).2) fun b hb=>hs b (by simp[hb])
theorem zKW {st:Ct×List ByteArray} {a:Nd} (ha:a.kids.length<2^30) (h:st.1.thrs.length<=4/\ ∀t∈st.1.thrs,t.args.length<2^30):(zGx st a).1.thrs.length<=4/\ ∀t∈(zGx st a).1.thrs,t.args.length<2^30:=by
 have rp: ∀(c:Ct) (e p:Int),(c.report e p).thrs=c.thrs:=fun c e p=>by unfold Ct.report;split<;>rfl
 unfold zGx;split
 ·rw[rp];exact h
 split
 ·rw[rp];exact h
 rename_i h4;split
 ·rw[rp];exact h
 split
 ·exact h
 split
 ·rw[rp];exact h
 split
 ·rw[rp];exact h
 ·refine⟨by simp only[zM,List.length_singleton];omega,fun t ht=> ?_⟩;rcases List.mem_append.1 ht with ht | ht
  ·exact h.2 t ht
  ·rw[List.mem_singleton]at ht;subst ht;simpa using ha
theorem zIV: ∀(l:List Nd) (st:Ct×List ByteArray),(∀a∈l,a.kids.length<2^30)->(st.1.thrs.length<=4/\ ∀t∈st.1.thrs,t.args.length<2^30)->(l.foldl zGx st).1.thrs.length<=4/\ ∀t∈(l.foldl zGx st).1.thrs,t.args.length<2^30
 | [],st,_,h=>h
 | a::l,st,hs,h=>zIV l _ (fun b hb=>hs b (by simp[hb])) (zKW (hs a (by simp)) h)
theorem zML {t:Nd} (hz:t.size<900) (hs:t.sane): ∃M,M=Ct.nil.modules t/\DcI M M.decls 900/\DcS M.decls/\M.mods.length<=6/\(∀m∈M.mods,m.ok)/\M.thrs=[]/\M.procs=[]/\M.locks=[]/\M.vars=[]:=by
 obtain⟨dM,bM,mM,hM,D5,L2,Ue⟩:=zI0 t;have Fu: ∀b∈bM,b∈t.kids:=fun b hb=>D5.subset hb
 have IY:(bM.map fun b=>b.kids.length).sum<900:=by
  have h1:=zJ6 (fun b:Nd=>b.kids.length) D5;have h2:=zKG t.kids;have h3:=Nd.size_eq t;omega
 refine⟨_,rfl,?_⟩;have Jv: ∀m∈(Ct.nil.modules t).mods,m.ok:=zIr (zGo t 60) (Ct.nil,[]) (fun a ha=>⟨hs.kid (List.mem_filter.1 ha).1,by have:=Nd.size_kid (List.mem_filter.1 ha).1;omega⟩) (by simp[Ct.nil]);rw[hM]at Jv⊢;obtain⟨M,Su⟩: ∃M,M=({ Ct.nil with diags:=dM,bodies:=bM,mods:=mM }:Ct):=⟨_,rfl⟩
 rw[<- Su]at Jv⊢;have Tm:M.bodies=bM:=by rw[Su]
 have Ti:DcI M M 0:=by
  refine⟨⟨⟨?_,?_⟩,?_,?_,?_,?_⟩,rfl,rfl,rfl,?_⟩<;>simp[Su,Ct.nil]
 have Sv:DcS M:=⟨by simp[Su,Ct.nil],by simp[Su,Ct.nil]⟩
 have key: ∀(l:List (Nd×Nat)) (c:Ct) (D:Nat),(∀q∈l,q.1∈t.kids)->DcI M c D->DcS c-> ∃c',c'=l.foldl (fun c q=>q.1.kids.foldl (zGl (q.2:Nat)) c) c/\DcI M c' (D+(l.map fun q=>q.1.kids.length).sum)/\DcS c':=fun l=>by
  induction l with
  | nil=>intro c D _ h1 h2;exact⟨c,rfl,h1,h2⟩
  | cons q l ih=>
    intro c D hq h1 h2;have Nn:=hq q (by simp);have Tn:=hs.kid Nn;have Vy:=Nd.size_kid Nn;have hh: ∀a∈q.1.kids,a.sane/\a.size<900:=fun a ha=>⟨Tn.kid ha,by have:=Nd.size_kid ha;omega⟩
    obtain⟨c',e,h3,h4⟩:=ih _ _ (fun b hb=>hq b (by simp[hb])) (h1.fold (q.2:Nat) q.1.kids hh) (h2.fold (q.2:Nat) q.1.kids hh);refine⟨c',e,?_,h4⟩;rw[List.map_cons,List.sum_cons,<- Nat.add_assoc];exact h3
 have UI: ∀q∈M.bodies.zipIdx,q.1∈t.kids:=fun q hq=>Fu _ (by rw[<- Tm];exact List.fst_mem_of_mem_zipIdx hq)
 obtain⟨c',e,h1,h2⟩:=key M.bodies.zipIdx M 0 UI Ti Sv;have IB:M.decls=c':=e.symm
 have AS:(M.bodies.zipIdx.map fun q=>q.1.kids.length).sum=(bM.map fun b=>b.kids.length).sum:=by
  rw[Tm,show(fun q:Nd×Nat=>q.1.kids.length)=(fun b:Nd=>b.kids.length)∘Prod.fst from rfl,<- List.map_map,List.zipIdx_map_fst]
 rw[AS]at h1;rw[IB];refine⟨⟨⟨h1.ok.ok,h1.ok.rn,?_,?_,?_⟩,h1.mo,h1.th,h1.bo,h1.pr⟩,h2,by rw[Su];exact Ue,Jv,by rw[Su];rfl,by rw[Su];rfl,by rw[Su];rfl,by rw[Su];rfl⟩
 ·exact Nat.le_trans h1.ok.vl (Nat.mul_le_mul_right _ (by omega))
 ·have:=h1.ok.ll;omega
 ·have:=h1.ok.pl;omega
theorem zIC {t:Nd} (hz:t.size<900) (hs:t.sane):(collectM t).okS:=by
 unfold collectM;split
 rotate_left
 ·refine⟨?_,?_,?_,?_,?_⟩<;>simp[Ct.nil]
 obtain⟨M,hM,hd,Sr,h6,Li,BG,_,_,_⟩:=zML hz hs;rw[<- hM];obtain⟨dT,thT,hT⟩:=zHs (zGo t 61) (M.decls,[]);have SV:M.decls.threads t= { M.decls with diags:=dT,thrs:=thT }:=hT
 have Dv:=zIV (zGo t 61) (M.decls,[]) (fun a ha=>by
  have h1:=Nd.size_kid (List.mem_filter.1 ha).1;have h2:=zGM a
  omega) (by rw[show(M.decls,([]:List ByteArray)).1.thrs=[]from hd.th.trans BG];simp)
 have MW:(M.decls.threads t).thrs.length<=4/\ ∀x∈(M.decls.threads t).thrs,x.args.length<2^30:=Dv;have Up:(M.decls.threads t).mods=M.mods:=by rw[SV];exact hd.mo
 have SG:(M.decls.threads t).procs=M.decls.procs:=by rw[SV]
 have Uq:(M.decls.threads t).locks=M.decls.locks:=by rw[SV]
 have Vq:(M.decls.threads t).vars=M.decls.vars:=by rw[SV]
 refine⟨?_,?_,?_,?_,?_⟩
 ·show(M.decls.threads t).mods.length<2^30/\ ∀m∈(M.decls.threads t).mods,m.ok;rw[Up];exact⟨by omega,Li⟩
 ·show(M.decls.threads t).vars.length<2^31;rw[Vq];exact Nat.lt_of_le_of_lt hd.ok.vl (by decide)
 ·show(M.decls.threads t).locks.length<2^30/\ ∀l∈(M.decls.threads t).locks,l.inv.sane;rw[Uq];exact⟨by have:=hd.ok.ll;omega,Sr.l⟩
 ·show(M.decls.threads t).callsM.procs.length<2^30/\ ∀p∈(M.decls.threads t).callsM.procs,p.ok;have BL:(M.decls.threads t).callsM.procs.length=M.decls.procs.length:=by simp[Ct.callsM,SG]
  refine⟨by rw[BL];have:=hd.ok.pl;omega,fun p hp=> ?_⟩;have Tj:(M.decls.threads t).callsM.cok:=zI9 fun p hp=>(hd.pr p (by rw[<- SG];exact hp)).s.1
  have hc:=(Tj p hp).1;obtain⟨q,hq,rfl⟩:=List.mem_map.1 hp;rw[SG]at hq;have h1:=hd.pr q hq;have h2:=Sr.p q hq;exact⟨by have:=h1.l;show q.params.length<2^31;omega,by show q.locals.length<2^31;omega,hc,h1.s.2⟩
 ·show(M.decls.threads t).thrs.length<2^30/\ ∀x∈(M.decls.threads t).thrs,x.args.length<2^30;exact⟨by have:=MW.1;omega,MW.2⟩
theorem zGV {σ α:Type} {f:σ->α->σ} {P:σ->Prop} (h: ∀s a,P s->P (f s a)): ∀(l:List α) (s:σ),P s->P (l.foldl f s)
 | [],s,hs=>hs
 | a::l,s,hs=>zGV h l _ (h s a hs)
end Rg
end
section
namespace Rg
open Go
structure Ct.like (a b:Ct):Prop where
 v:a.vars=b.vars
 l:a.locks=b.locks
 p:a.procs=b.procs
 n:a.names=b.names
 r:a.recs=b.recs
theorem zQi {a b:Ct} (h:a.like b) (e p e' p':Int):(a.report e p).like (b.report e' p'):=by
 obtain⟨d,hd⟩:=zGX a e p;obtain⟨d',JS⟩:=zGX b e' p';rw[hd,JS];exact⟨h.v,h.l,h.p,h.n,h.r⟩
theorem zQl {σ τ α:Type} {f:σ->α->σ} {g:τ->α->τ} {R:σ->τ->Prop} (h: ∀s t a,R s t->R (f s a) (g t a)): ∀(l:List α) (s:σ) (t:τ),R s t->R (l.foldl f s) (l.foldl g t)
 | [],s,t,hs=>hs
 | a::l,s,t,hs=>zQl h l _ _ (h s t a hs)
theorem zQK {a b:Ct} (h:a.like b) (n:Nd):(a.fields n).1.like (b.fields n).1/\(a.fields n).2=(b.fields n).2:=by
 unfold Ct.fields;refine zQl (R:=fun(s t:Ct×List Nd)=>s.1.like t.1/\s.2=t.2) (fun s t x hs=> ?_) _ _ _ ⟨h,rfl⟩;obtain⟨s1,s2⟩:=s;obtain⟨t1,t2⟩:=t;obtain⟨h1,h2⟩:=hs;simp only at h1 h2;subst h2;unfold zGm;simp only;split
 ·exact⟨zQi h1 _ _ _ _,rfl⟩
 ·split
  ·exact⟨h1,rfl⟩
  ·exact⟨zQi h1 _ _ _ _,rfl⟩
theorem zQm {a b:Ct} (h:a.like b) (n:Nd) (vs:List Va):(a.sharedFin n vs).1.like (b.sharedFin n vs).1/\(a.sharedFin n vs).2=(b.sharedFin n vs).2:=by
 unfold Ct.sharedFin;split
 ·exact⟨⟨by simp[h.v],h.l,h.p,h.n,h.r⟩,rfl⟩
 ·exact⟨zQi h _ _ _ _,rfl⟩
theorem zQn {a b:Ct} (h:a.like b) (m:Int) (n:Nd):(a.shared m n).1.like (b.shared m n).1/\(a.shared m n).2=(b.shared m n).2:=by
 unfold Ct.shared;rw[h.r];split
 ·exact⟨zQi h _ _ _ _,rfl⟩
 ·split
  ·split
   ·exact zQm h _ _
   ·exact⟨zQi h _ _ _ _,rfl⟩
  ·split
   ·exact⟨zQi h _ _ _ _,rfl⟩
   ·exact zQm h _ _
theorem zQs {a b:Ct} (h:a.like b) (m:Int) (n:Nd):(a.lock m n).1.like (b.lock m n).1/\(a.lock m n).2=(b.lock m n).2:=by
 unfold Ct.lock;rw[h.l];split
 ·exact⟨zQi h _ _ _ _,rfl⟩
 ·exact⟨⟨h.v,rfl,h.p,h.n,h.r⟩,rfl⟩
theorem zQq (m:Int) (l:List Nd) (s t:AddS) (h:s.ct.like t.ct/\s.known=t.known/\s.vs=t.vs):(l.foldl (zGn m) s).ct.like (l.foldl (zGn m) t).ct/\(l.foldl (zGn m) s).known=(l.foldl (zGn m) t).known/\(l.foldl (zGn m) s).vs=(l.foldl (zGn m) t).vs:=by
 refine zQl (R:=fun(s t:AddS)=>s.ct.like t.ct/\s.known=t.known/\s.vs=t.vs) (fun s t x hs=> ?_) _ _ _ h;obtain⟨s1,s2,s3⟩:=s;obtain⟨t1,t2,t3⟩:=t;obtain⟨h1,h2,h3⟩:=hs;simp only at h1 h2 h3;subst h2;subst h3;unfold zGn;simp only;split
 ·exact⟨zQi h1 _ _ _ _,rfl,rfl⟩
 ·split
  ·exact⟨h1,rfl,rfl⟩
  ·exact⟨zQi h1 _ _ _ _,rfl,rfl⟩
theorem zQr {a b:Ct} (h:a.like b) (m:Int) (n:Nd):(zGp a m n).ct.like (zGp b m n).ct/\(zGp a m n).known=(zGp b m n).known/\(zGp a m n).vs=(zGp b m n).vs:=
 zQq m _ _ _ ⟨h,rfl,rfl⟩
theorem zQJ {a b:Ct} (h:a.like b) (m:Int) (n:Nd):(zGr a m n).ct.like (zGr b m n).ct/\(zGr a m n).known=(zGr b m n).known/\(zGr a m n).vs=(zGr b m n).vs:=by
 obtain⟨h1,h2,h3⟩:=zQr h m n;exact zQq m _ _ _ ⟨h1,h2,rfl⟩
theorem zQM {a b:Ct} (h:a.like b) (m:Int) (n:Nd):(a.proc m n).like (b.proc m n):=by
 obtain⟨_,_,h3⟩:=zQr h m n;obtain⟨k1,_,k3⟩:=zQJ h m n;unfold Ct.proc;exact⟨k1.v,k1.l,by simp only[k1.p,h3,k3],k1.n,k1.r⟩
theorem zQk {a b:Ct} (h:a.like b) (k:Key):(a.addName k).like (b.addName k):=⟨h.v,h.l,h.p,by simp[Ct.addName,h.n],h.r⟩
theorem zQA {a b:Ct} (h:a.like b) (m:Int) (n:Nd):(zGl m a n).like (zGl m b n):=by
 unfold zGl;rw[h.n,(zQn h m n).2,(zQs h m n).2];split
 rotate_left
 ·exact h
 split
 ·exact zQi h _ _ _ _
 split
 ·obtain⟨h1,h2⟩:=zQK h n;exact⟨h1.v,h1.l,h1.p,by simp only[Ct.addName,h1.n],by simp only[Ct.addName,h1.r,h2]⟩
 split
 ·split
  ·exact zQk (zQn h m n).1 _
  ·exact(zQn h m n).1
 split
 ·split
  ·exact zQk (zQs h m n).1 _
  ·exact(zQs h m n).1
 ·exact zQk (zQM h m n) _
theorem zQB {a b:Ct} (h:a.like b) (m:Int) (l:List Nd):(l.foldl (zGl m) a).like (l.foldl (zGl m) b):=
 zQl (R:=Ct.like) (fun _ _ x hs=>zQA hs m x) l a b h
theorem zQt {a b:Ct} (h:a.like b) (l:List (Nd×Nat)):(l.foldl (fun c q=>q.1.kids.foldl (zGl (q.2:Nat)) c) a).like (l.foldl (fun c q=>q.1.kids.foldl (zGl (q.2:Nat)) c) b):=
 zQl (R:=Ct.like) (fun _ _ x hs=>zQB hs (x.2:Nat) x.1.kids) l a b h
structure Ct.more (m:Int) (a b:Ct):Prop where
 v: ∃x,b.vars=a.vars++x
 l: ∃x,b.locks=a.locks++x
 p: ∃x:List Pr,b.procs=a.procs++x/\ ∀p∈x,p.module=m
theorem Ct.more.refl (m:Int) (a:Ct):a.more m a:=⟨⟨[],by simp⟩,⟨[],by simp⟩,[],by simp,by simp⟩
theorem Ct.more.trans {m:Int} {a b c:Ct} (h:a.more m b) (k:b.more m c):a.more m c:=by
 obtain⟨⟨x,hx⟩,⟨y,hy⟩,z,hz,Mj⟩:=h;obtain⟨⟨x',Dc⟩,⟨y',Sd⟩,z',Mk,BI⟩:=k;exact⟨⟨x++x',by rw[Dc,hx,zQ]⟩,⟨y++y',by rw[Sd,hy,zQ]⟩,z++z',by rw[Mk,hz,zQ],fun p hp=>(List.mem_append.1 hp).elim (Mj p) (BI p)⟩
theorem zQy (m:Int) (ct:Ct) (a:Nd): ∃x,(zGl m ct a).vars=ct.vars++x:=by
 have rp: ∀(c:Ct) (e p:Int),(c.report e p).vars=c.vars:=fun c e p=>by unfold Ct.report;split<;>rfl
 unfold zGl;split
 rotate_left
 ·exact⟨[],by simp⟩
 split
 ·exact⟨[],by simp[rp]⟩
 split
 ·obtain⟨d,hd⟩:=zG0 (zGo a 52) (ct,[]);have hf:(ct.fields a).1= { ct with diags:=d }:=hd;exact⟨[],by simp[Ct.addName,hf]⟩
 split
 ·have h1: ∃x,(ct.shared m a).1.vars=ct.vars++x:=by
   have fin: ∀vs:List Va,∃x,(ct.sharedFin a vs).1.vars=ct.vars++x:=fun vs=>by
    unfold Ct.sharedFin;split
    ·exact⟨vs,rfl⟩
    ·exact⟨[],by simp[rp]⟩
   unfold Ct.shared;split
   ·exact⟨[],by simp[rp]⟩
   ·split
    ·split
     ·exact fin _
     ·exact⟨[],by simp[rp]⟩
    ·split
     ·exact⟨[],by simp[rp]⟩
     ·exact fin _
  split
  ·exact h1
  ·exact h1
 split
 ·have h1:(ct.lock m a).1.vars=ct.vars:=by
   unfold Ct.lock;split
   ·exact rp _ _ _
   ·rfl
  split
  ·exact⟨[],by simp[Ct.addName,h1]⟩
  ·exact⟨[],by simp[h1]⟩
 ·obtain⟨d,hd⟩:=zJj ct m a;exact⟨[],by simp[Ct.addName,hd]⟩
theorem zQz (m:Int) (ct:Ct) (a:Nd):ct.more m (zGl m ct a):=by
 refine⟨zQy m ct a,?_,?_⟩
 ·rcases zIS m ct a with h | h
  ·exact⟨[],by rw[h];simp⟩
  ·exact⟨_,h⟩
 ·rcases zHy m ct a with h | h
  ·exact⟨[],by rw[h];simp,by simp⟩
  ·exact⟨_,h,by simp⟩
theorem zQj (m:Int): ∀(l:List Nd) (ct:Ct),ct.more m (l.foldl (zGl m) ct)
 | [],ct=> .refl m ct
 | a::l,ct=>(zQz m ct a).trans (zQj m l _)
theorem zQx: ∀(l:List (Nd×Nat)) (c:Ct) (D:Int),(∀q∈l,(q.2:Int)<D)->(∀p∈c.procs,0<=p.module/\p.module<D)-> ∀p∈(l.foldl (fun c q=>q.1.kids.foldl (zGl (q.2:Nat)) c) c).procs,0<=p.module/\p.module<D
 | [],c,D,_,h=>h
 | q::l,c,D,hl,h=>by
   refine zQx l _ D (fun x hx=>hl x (by simp[hx])) fun p hp=> ?_
   obtain⟨x,hx,hm⟩:=(zQj (q.2:Nat) q.1.kids c).p;rw[hx]at hp;rcases List.mem_append.1 hp with hp | hp
   ·exact h p hp
   ·have:=hm p hp;have:=hl q (by simp);omega
theorem zQN {c:Ct} (hp:c.procs=[]): ∀p∈c.decls.procs,0<=p.module/\p.module<c.bodies.length:=by
 refine zQx _ _ _ (fun q hq=> ?_) (by simp[hp]);have:=List.snd_lt_of_mem_zipIdx hq;omega
theorem zQI {mn x:List ByteArray} {pk y:List Key} {m:Int} (hm:0<=m/\m<mn.length) (Ev: ∀k∈pk,0<=k.1/\k.1<mn.length) (hy: ∀k∈y,k.1=mn.length) (path:ByteArray):
 ((zG1 mn pk m path).2=0->zG1 (mn++x) (pk++y) m path=zG1 mn pk m path/\0<=(zG1 mn pk m path).1/\(zG1 mn pk m path).1<pk.length)/\
 ((zG1 mn pk m path).2≠0->(zG1 (mn++x) (pk++y) m path).2=0->(pk.length:Int)<=(zG1 (mn++x) (pk++y) m path).1):=by
 have fk: ∀(i:Int) (s:ByteArray),i<mn.length->zGN (fun k:Key=>decide (k=(i,s))) (pk++y)=zGN (fun k:Key=>decide (k=(i,s))) pk:=fun i s hi=>by
  unfold zGN;rw[List.findIdx?_append]
  have:y.findIdx? (fun k:Key=>decide (k=(i,s)))=none:=by
   rw[List.findIdx?_eq_none_iff];intro k hk;have:=hy k hk;simp only[decide_eq_false_iff_not];rintro rfl;simp only at this;omega
  rw[this];cases pk.findIdx? (fun k:Key=>decide (k=(i,s)))<;>simp
 have fb: ∀(p:Key->Bool),(zGN p pk).2=true->0<=(zGN p pk).1/\(zGN p pk).1<pk.length:=fun p h=>by
  unfold zGN at h⊢;split at h
  ·rename_i i hi;obtain⟨Ad,_⟩:=List.findIdx?_eq_some_iff_getElem.1 hi;simp only[hi];omega
  ·simp at h
 unfold zG1;have c1: ¬(m< -1\/(mn.length:Int)<=m):=by omega
 have c2: ¬(m< -1\/((mn++x).length:Int)<=m):=by simp only[zM];omega
 rw[if_neg c1,if_neg c2,fk m path hm.2]
 by_cases d1:0<=m/\(zGN (fun k:Key=>decide (k=(m,path))) pk).2=true
 ·rw[if_pos d1,if_pos d1];exact⟨fun _=>⟨rfl,fb _ d1.2⟩,fun h=>absurd rfl h⟩
 rw[if_neg d1,if_neg d1]
 by_cases e0:(zGN (fun n=>decide (n=(zIB path).1)) mn).2=true
 ·have e1:zGN (fun n=>decide (n=(zIB path).1)) (mn++x)=zGN (fun n=>decide (n=(zIB path).1)) mn:=by
   unfold zGN at e0⊢;rw[List.findIdx?_append];split at e0
   ·rename_i i hi;rw[hi];simp
   ·simp at e0
  have e2:(zGN (fun n=>decide (n=(zIB path).1)) mn).1<mn.length:=by
   unfold zGN at e0⊢;split at e0
   ·rename_i i hi;obtain⟨Ad,_⟩:=List.findIdx?_eq_some_iff_getElem.1 hi;simp only[hi];omega
   ·simp at e0
  rw[e1,fk _ _ e2];split
  ·rename_i d2;exact⟨fun _=>⟨rfl,fb _ d2.2.2⟩,fun h=>absurd rfl h⟩
  ·exact⟨fun h=>absurd h (by decide),fun _ h=>absurd h (by decide)⟩
 ·rw[if_neg (fun h=>e0 h.2.1)];refine⟨fun h=>absurd h (by decide),fun _ h=> ?_⟩;split at h
  ·rename_i d2;rw[if_pos d2];obtain⟨_,d3,d4⟩:=d2
   have e2:(mn.length:Int)<=(zGN (fun n=>decide (n=(zIB path).1)) (mn++x)).1:=by
    unfold zGN at e0 d3⊢;rw[List.findIdx?_append]at d3⊢
    cases hf:mn.findIdx? (fun n=>decide (n=(zIB path).1))with
    | some i=>rw[hf]at e0;simp at e0
    | none=>
      rw[hf]at d3
      cases hg:x.findIdx? (fun n=>decide (n=(zIB path).1))with
      | none=>rw[hg]at d3;simp at d3
      | some j=>simp;omega
   generalize(zGN (fun n=>decide (n=(zIB path).1)) (mn++x)).1=i at *
   unfold zGN at d4⊢;rw[List.findIdx?_append]at d4⊢
   have hn:pk.findIdx? (fun k:Key=>decide (k=(i,(zIB path).2.1)))=none:=by
    rw[List.findIdx?_eq_none_iff];intro k hk;have:=Ev k hk;simp only[decide_eq_false_iff_not];rintro rfl;simp only at this;omega
   rw[hn]at d4⊢
   cases hg:y.findIdx? (fun k:Key=>decide (k=(i,(zIB path).2.1)))with
   | none=>rw[hg]at d4;simp at d4
   | some j=>simp;omega
  ·exact absurd h (by decide)
theorem zQu {mn x:List ByteArray} {pk y:List Key} {m:Int} (hm:0<=m/\m<mn.length) (Ev: ∀k∈pk,0<=k.1/\k.1<mn.length) (hy: ∀k∈y,k.1=mn.length) (fl:List Nd):
 fl.foldl (zGy mn pk m) []=(fl.foldl (zGy (mn++x) (pk++y) m) []).filter (fun j:Int=>decide (j<(pk.length:Int))):=by
 refine zQl (R:=fun(s t:List Int)=>s=t.filter (fun j:Int=>decide (j<(pk.length:Int)))) (fun s t a hs=> ?_) fl [] [] rfl;subst hs;obtain⟨h1,h2⟩:=zQI (x:=x) hm Ev hy a.name;unfold zGy
 by_cases hk:a.kind=33
 rotate_left
 ·rw[if_neg (fun h=>hk h.1),if_neg (fun h=>hk h.1)]
 by_cases hA:(zG1 mn pk m a.name).2=0
 ·obtain⟨h3,h4,h5⟩:=h1 hA;rw[h3]
  have hh:zG5 (t.filter (fun j:Int=>decide (j<(pk.length:Int)))) (zG1 mn pk m a.name).1=zG5 t (zG1 mn pk m a.name).1:=by
   rw[Bool.eq_iff_iff];simp only[zG5,List.any_eq_true,List.mem_filter,decide_eq_true_eq];constructor
   ·rintro⟨z,⟨hz,_⟩,rfl⟩;exact⟨_,hz,rfl⟩
   ·rintro⟨z,hz,rfl⟩;exact⟨_,⟨hz,h5⟩,rfl⟩
  rw[hh];split
  ·rw[List.filter_append,List.filter_cons_of_pos (by simpa using h5),List.filter_nil]
  ·rfl
 ·rw[if_neg (fun h=>hA h.2.1)];split
  ·rename_i hB;have:=h2 hA hB.2.1;rw[List.filter_append,List.filter_cons_of_neg (by simp only[decide_eq_true_eq];omega),List.filter_nil,List.append_nil]
  ·rfl
theorem zQH (l:List Int) (p:Int->Bool):sortI (l.filter p)=(sortI l).filter p:=by
 have s1: ∀l:List Int,(sortI l).Pairwise (fun a b=>a<=b):=fun l=>by
  have:=List.pairwise_mergeSort (le:=fun x y:Int=>decide (x<=y)) (fun a b c h1 h2=>by simp only[decide_eq_true_eq]at *;omega) (fun a b=>by simp only[Bool.or_eq_true,decide_eq_true_eq];omega) l;exact this.imp (fun h=>by simpa using h)
 refine List.Perm.eq_of_pairwise (le:=fun a b:Int=>a<=b) (fun a b _ _ h1 h2=>Int.le_antisymm h1 h2) (s1 _) ((s1 l).filter p) ?_;exact(List.mergeSort_perm _ _).trans ((List.mergeSort_perm l _).symm.filter p)
theorem zQG {mn x:List ByteArray} {pk y:List Key} {p:Pr} (hm:0<=p.module/\p.module<mn.length) (Ev: ∀k∈pk,0<=k.1/\k.1<mn.length) (hy: ∀k∈y,k.1=mn.length):
 zGG mn pk p=(zGG (mn++x) (pk++y) p).filter (fun j:Int=>decide (j<(pk.length:Int))):=by
 unfold zGG;rw[zQu (x:=x) hm Ev hy,zQH]
def Nd.withKid (s a:Nd):Nd:=.mk s.kind s.name s.other s.n s.len s.init s.ghost (s.kids++[a]) s.pos
def Nd.setKind (s:Nd) (k:Int):Nd:=.mk k s.name s.other s.n s.len s.init s.ghost s.kids s.pos
theorem zQv (c:Ct):c.decls.mods=c.mods:=by
 unfold Ct.decls;refine zGV (P:=fun s:Ct=>s.mods=c.mods) (fun s q hs=> ?_) _ _ rfl;refine zGV (P:=fun s:Ct=>s.mods=c.mods) (fun s a hs=> ?_) _ _ hs;exact(zJr _ s a).1.trans hs
theorem zQE (s a:Nd) (ha:a.kind=60):(Ct.nil.modules (s.withKid a)).like (Ct.nil.modules s)/\
 (((Ct.nil.modules (s.withKid a)).mods=(Ct.nil.modules s).mods/\(Ct.nil.modules (s.withKid a)).bodies=(Ct.nil.modules s).bodies)\/ ∃m,(Ct.nil.modules (s.withKid a)).mods=(Ct.nil.modules s).mods++[m]/\(Ct.nil.modules (s.withKid a)).bodies=(Ct.nil.modules s).bodies++[a]):=by
 have hk:zGo (s.withKid a) 60=zGo s 60++[a]:=by
  unfold zGo Nd.withKid;simp only[Nd.kids,List.filter_append];rw[List.filter_cons_of_pos (by simp[ha]),List.filter_nil]
 unfold Ct.modules;rw[hk,List.foldl_append,List.foldl_cons,List.foldl_nil]
 generalize(zGo s 60).foldl zGu (Ct.nil,[])=X
 unfold zGu;split
 ·obtain⟨d,hd⟩:=zGX X.1 41 a.pos;rw[hd];exact⟨⟨rfl,rfl,rfl,rfl,rfl⟩,.inl ⟨rfl,rfl⟩⟩
 split
 ·obtain⟨d,hd⟩:=zGX X.1 2 a.pos;rw[hd];exact⟨⟨rfl,rfl,rfl,rfl,rfl⟩,.inl ⟨rfl,rfl⟩⟩
 ·obtain⟨d,hd⟩:=zHI { X.1 with bodies:=X.1.bodies++[a] } a;simp only[hd];exact⟨⟨rfl,rfl,rfl,rfl,rfl⟩,.inr ⟨_,rfl,trivial⟩⟩
structure Ct.ext (A B:Ct):Prop where
 m: ∃x,B.mods=A.mods++x/\x.length<=1
 v: ∃x,B.vars=A.vars++x
 l: ∃x,B.locks=A.locks++x
 n:A.procs.length<=B.procs.length
 p: ∀(i:Nat) p,A.procs[i]? =some p-> ∃c:List Int,B.procs[i]? =some { p with calls:=c }/\p.calls=c.filter (fun j:Int=>decide (j<(A.procs.length:Int)))
theorem zQw {t:Nd} (hk:t.kind=62):(collectM t).mods=(Ct.nil.modules t).mods/\(collectM t).vars=(Ct.nil.modules t).decls.vars/\(collectM t).locks=(Ct.nil.modules t).decls.locks/\
 (collectM t).procs=(Ct.nil.modules t).decls.procs.map fun p=>{ p with calls:=zGG ((Ct.nil.modules t).mods.map Mo.name) ((Ct.nil.modules t).decls.procs.map fun p=>(p.module,p.name)) p }:=by
 unfold collectM;rw[if_pos hk];obtain⟨dT,thT,hT⟩:=zHs (zGo t 61) ((Ct.nil.modules t).decls,[]);have SV:(Ct.nil.modules t).decls.threads t= { (Ct.nil.modules t).decls with diags:=dT,thrs:=thT }:=hT;rw[SV];simp only[Ct.cyclesM,Ct.callsM,Ct.mn,Ct.pk];exact⟨zQv _,trivial,trivial,by rw[zQv]⟩
theorem zQF (s a:Nd) (hk:s.kind=62) (ha:a.kind=60):(collectM s).ext (collectM (s.withKid a)):=by
 obtain⟨a1,a2,a3,a4⟩:=zQw hk;obtain⟨b1,b2,b3,b4⟩:=zQw (t:=s.withKid a) hk;obtain⟨hl,Ll⟩:=zQE s a ha;obtain⟨dX,bX,mX,hX,_,D4,_⟩:=zI0 s;have V5:(Ct.nil.modules s).bodies.length=(Ct.nil.modules s).mods.length:=by rw[hX];exact D4.symm
 have V7:(Ct.nil.modules s).procs=[]:=by rw[hX];rfl
 generalize Ct.nil.modules s=X at *
 generalize Ct.nil.modules (s.withKid a)=Y at *
 have hZ: ∃Z:Ct,Z.like X.decls/\Z.more (X.bodies.length:Nat) Y.decls:=by
  rcases Ll with⟨_,hb⟩ | ⟨mo,_,hb⟩
  ·refine⟨Y.decls,?_,.refl _ _⟩;unfold Ct.decls;rw[hb];exact zQt hl _
  ·refine⟨X.bodies.zipIdx.foldl (fun c q=>q.1.kids.foldl (zGl (q.2:Nat)) c) Y,zQt hl _,?_⟩;unfold Ct.decls;rw[hb,List.zipIdx_append,List.foldl_append];simp only[Nat.zero_add,List.zipIdx_cons,List.zipIdx_nil,List.foldl_cons,List.foldl_nil];exact zQj _ _ _
 obtain⟨Z,zl,⟨xv,hv⟩,⟨xl,U7⟩,xp,hp,IV⟩:=hZ
 have hm: ∃x,Y.mods=X.mods++x/\x.length<=1:=by
  rcases Ll with⟨h,_⟩ | ⟨mo,h,_⟩
  ·exact⟨[],by simp[h],by simp⟩
  ·exact⟨[mo],h,by simp⟩
 have CD:=zQN V7;rw[zl.p]at hp;obtain⟨xm,C1,KA⟩:=hm;refine⟨⟨xm,by rw[a1,b1,C1],KA⟩,⟨xv,by rw[a2,b2,hv,zl.v]⟩,⟨xl,by rw[a3,b3,U7,zl.l]⟩,?_,?_⟩
 ·rw[a4,b4,hp];simp
 ·intro i p hi;rw[a4,zJ,zE]at hi;obtain⟨q,hq,rfl⟩:=hi;have PZ:=CD q (zL hq);refine⟨zGG (Y.mods.map Mo.name) (Y.decls.procs.map fun p=>(p.module,p.name)) q,?_,?_⟩
  ·rw[b4,zJ,hp,List.getElem?_append_left (zH.1 hq).1,hq];rfl
  ·rw[C1,hp,List.map_append,List.map_append,a4,List.length_map];rw[show X.decls.procs.length=(X.decls.procs.map fun p=>(p.module,p.name)).length by simp];refine zQG (by rw[List.length_map,<- V5];exact PZ) (fun k hk=> ?_) (fun k hk=> ?_)
   ·obtain⟨r,hr,rfl⟩:=List.mem_map.1 hk;rw[List.length_map,<- V5];exact CD r hr
   ·obtain⟨r,hr,rfl⟩:=List.mem_map.1 hk;rw[List.length_map,<- V5];exact IV r hr
theorem zQo (s a:Nd):(s.withKid a).size=s.size+a.size:=by
 rw[Nd.size_eq,Nd.size_eq s];simp only[Nd.withKid,Nd.kids,List.map_append,List.sum_append,List.map_cons,List.map_nil,List.sum_cons,List.sum_nil];omega
theorem zQp (a:Nd) (k:Int):(a.setKind k).size=a.size:=by
 rw[Nd.size_eq,Nd.size_eq a];rfl
theorem zQD {a:Nd} (h:a.sane):(a.setKind 60).sane:=by
 intro x hx;rw[Nd.flat_eq]at hx;rcases List.mem_cons.1 hx with rfl | hx
 ·have:=h.self;exact⟨by simp[Nd.setKind,Nd.kind],this.n,this.len,this.init,this.pos,this.name,this.other,this.kids⟩
 ·refine h x ?_;rw[Nd.flat_eq];exact List.mem_cons_of_mem _ hx
theorem zQC {s a:Nd} (h:s.sane) (ha:a.sane) (hl:s.kids.length<1048576):(s.withKid a).sane:=by
 intro x hx;rw[Nd.flat_eq]at hx;rcases List.mem_cons.1 hx with rfl | hx
 ·have:=h.self;exact⟨this.kind,this.n,this.len,this.init,this.pos,this.name,this.other,by show(s.kids++[a]).length<=1048576;simp;omega⟩
 ·obtain⟨k,hk,ML⟩:=List.mem_flatMap.1 hx;rcases List.mem_append.1 (show k∈s.kids++[a]from hk)with hk | hk
  ·exact h.kid hk x ML
  ·rw[List.mem_singleton]at hk;rw[hk]at ML;exact ha x ML
theorem zQP {r:V} {h:Nat->Option O} {t0 t1 t2 t3 t4 t5 t6 t8:T} {u:V} {es:List (List T)} {K:V->(Nat->Option O)->Prop} {w:WK K} {x:Nat} (ho:zaF h x u 9 (zGk es)) (hK: ∀h',K r h'):
 zlN (some r) false h [.agg [.t t0,.t t1,.t t2,.t t3,.t t4,.t t5,.t t6,u,.t t8]] K w:=by
 rcases ho with⟨rfl,_⟩ | ⟨k,rfl,_,hh⟩
 ·rw[zs4 r false h _ K w rfl];exact hK h
 ·refine zs5 hh ?_ (fun h' _ _=>hK h')
  have e1:zca h 1000 (.ms k 0 (zGk es).length)=[k]:=by
   simp only[zca,hh];rw[zku h 999];intro r hr v hv;simp only[zGk,List.mem_map]at hr;obtain⟨e,_,rfl⟩:=hr;obtain⟨t,_,rfl⟩:=List.mem_map.1 hv;rfl
  have e2: ∀t:T,zca h 1000 (.t t)=[]:=fun _=>rfl
  simp only[List.flatMap_cons,List.flatMap_nil,zba,e1,e2,List.append_nil,List.nil_append]
theorem zQL (s a:Nd) (hs:s.sane) (ha:a.sane):Den Γ G 643 [(.agg [.t (ti (s).kind),.t (.str (s).name),.t (.str (s).other),.t (ti (s).n),.t (ti (s).len),.t (ti (s).init),.t (tb (s).ghost),.t (.sl ((s).kids.map Nd.enc)),.t (ti (s).pos)]),(.agg [.t (ti (a).kind),.t (.str (a).name),.t (.str (a).other),.t (ti (a).n),.t (ti (a).len),.t (ti (a).init),.t (tb (a).ghost),.t (.sl ((a).kids.map Nd.enc)),.t (ti (a).pos)])]=some (vb true):=by
 have hh:=zLg;have hf:=zNL s hs;have hg:=zNL a ha
 (refine zag Γ643 rfl ?_;dsimp only[zQQ])
 by_cases hc:zGD 60 s 400<=400
 rotate_left
 ·have Bz:=eq_false hc;simp -dsimp -implicitDefEqProofs only[go_sem,seval,hh,hf,Bz]
  try rfl
 have Bz:=eq_true hc
 by_cases hd:zGD 60 a 400<=400
 rotate_left
 ·have JS:=eq_false hd;simp -dsimp -implicitDefEqProofs only[go_sem,seval,hh,hf,hg,Bz,JS]
  try rfl
 have JS:=eq_true hd
 by_cases hk:s.kind=62
 rotate_left
 ·have Ah:=eq_false hk;simp -dsimp -implicitDefEqProofs only[go_sem,seval,hh,hf,hg,Bz,JS,Ah,ne_eq,not_false_eq_true,not_true_eq_false]
  try rfl
 have Ah:=eq_true hk;have AS:=zMK hc;have V0:=zMK hd;have Mw:=zGM s;have h1:=zHi s (by omega) hs;have hx:(s.withKid (a.setKind 60)).sane:=zQC hs (zQD ha) (by omega);have h2:=zHi (s.withKid (a.setKind 60)) (by rw[zQo,zQp];omega) hx;have E:=zQF s (a.setKind 60) hk rfl;have ok1:=zIC (by omega) hs;have ok2:=zIC (by rw[zQo,zQp];omega) hx
 generalize collectM s=C at *
 generalize collectM (s.withKid (a.setKind 60))=D at *
 unfold zKE at h1 h2;simp -dsimp -implicitDefEqProofs only[go_sem,seval,hh,hf,hg,Bz,JS,Ah];refine zpb (x:=26) (a:=[]) (.inr ⟨23,rfl,by omega,by simp -dsimp -implicitDefEqProofs only[go_sem,seval]⟩) (by omega) (by simp;omega) (by decide) (zHb _) rfl ?_;intro v hp o1 b1 b2;have v1:=o1.valOf;have v2:=o1.lenS;have v6: ∀b,rowsS (updC (H4 (updC (fun x=>Option.none) 23 (some (O.rows 9 [] false))) hp) 28 b) v=some _:=fun b=>(o1.upd (by omega) b).rowsS
 simp -dsimp -implicitDefEqProofs only[go_sem,seval,v1,v2,v6];refine zpb (x:=29) (o1.upd (by omega) _) (by omega) (by simp;omega) (by decide) rfl (zHb _) ?_;intro u D0 o2 b3 b4
 have Ap:(s.kids.map Nd.enc).map (fun x=>x.map V.t)++[[V.t (T.int IntKind.i64 60),V.t (T.str a.name),V.t (T.str a.other),V.t (ti a.n),V.t (ti a.len),V.t (ti a.init),V.t (tb a.ghost),V.t (T.sl (List.map Nd.enc a.kids)),V.t (ti a.pos)]]=(((s.withKid (a.setKind 60)).kids.map Nd.enc).map (fun x=>x.map V.t)):=by
  simp[Nd.withKid,Nd.setKind,Nd.kids,Nd.enc_eq,Nd.kind,Nd.name,Nd.other,Nd.n,Nd.len,Nd.init,Nd.ghost,Nd.pos,ti]
 have o3:=o2;rw[Ap]at o3;have u1:=o3.valOf;have u2:toT _ 1000 u=some (.sl ((s.withKid (a.setKind 60)).kids.map Nd.enc)):=zG7 (d:=999) o3 (zGJ (zIz _)) (fun _ _ _=>rfl)
 rw[show(s.withKid (a.setKind 60)).kind=s.kind from rfl,show(s.withKid (a.setKind 60)).name=s.name from rfl,show(s.withKid (a.setKind 60)).other=s.other from rfl,show(s.withKid (a.setKind 60)).n=s.n from rfl,
  show(s.withKid (a.setKind 60)).len=s.len from rfl,show(s.withKid (a.setKind 60)).init=s.init from rfl,show(s.withKid (a.setKind 60)).ghost=s.ghost from rfl,show(s.withKid (a.setKind 60)).pos=s.pos from rfl]at h2
 have u3:=zGv o3;unfold V.cells at u3;simp -dsimp -implicitDefEqProofs only[go_sem,seval,u1,u2,u3,h1,h2];refine zQP o3 fun h'=> ?_
 clear u2 u3 u1 o3 o2 b3 b4 v1 v2 v6 o1 b1 b2;obtain⟨⟨xm,em,em1⟩,⟨xv,ev⟩,⟨xl,el⟩,en,ep⟩:=E;have lm:=ok1.m.1;have lm2:=ok2.m.1;have lv:=ok1.v;have lv2:=ok2.v;have ll:=ok1.l.1;have ll2:=ok2.l.1;have lp:=ok1.p.1;have lp2:=ok2.p.1;have q1:D.mods.length=C.mods.length+xm.length:=by rw[em];simp
 have q2:D.vars.length=C.vars.length+xv.length:=by rw[ev];simp
 have q3:D.locks.length=C.locks.length+xl.length:=by rw[el];simp
 have c1:(((C.mods.length:Nat):Int)>(D.mods.length:Nat))=False:=eq_false (by omega);have c2:(((D.mods.length:Nat):Int)>(C.mods.length:Nat)+1)=False:=eq_false (by omega);have c3:(((C.vars.length:Nat):Int)>(D.vars.length:Nat))=False:=eq_false (by omega);have c4:(((C.locks.length:Nat):Int)>(D.locks.length:Nat))=False:=eq_false (by omega);have c5:(((C.procs.length:Nat):Int)>(D.procs.length:Nat))=False:=eq_false (by omega);have wC:=zan C.mods.length (by omega);have tv:(D.vars.map Va.enc).take C.vars.length=C.vars.map Va.enc:=by rw[<- List.map_take,ev,List.take_left]
 have sv:=zHm C.vars (by omega);have i1:((C.vars.length:Int)<=D.vars.length)=True:=eq_true (by omega);have i2:((C.vars.length:Int)-0).toNat=C.vars.length:=by omega
 have va7:((D.vars.map Va.enc).all fun x=>decide (x.length=7))=true:=by
  simp only[List.all_map,List.all_eq_true];intro x _;rfl
 have c2':(((D.mods.length:Nat):Int)>((C.mods.length+1:Nat):Int))=False:=eq_false (by omega);simp -dsimp -implicitDefEqProofs only[go_sem,seval,c1,c2,c2',wC,c3,c4,c5,i1,i2,va7,tv,sv];refine zaq 170138587312039964317873038467719496720 C.mods.length (fun i f _ _=>(f 111).v=vi i) rfl (by simp -dsimp -implicitDefEqProofs only[go_sem,seval]) ?_;rintro i f u h x bb hi g
 by_cases AV:i<C.mods.length
 ·have e1:=eq_true AV;obtain⟨a,ha,Cp⟩:=zai AV;have Bj:(C.mods.map Mo.enc)[i]? =some a.enc:=by rw[zJ,ha];rfl
  have SF:(D.mods.map Mo.enc)[i]? =some a.enc:=by rw[zJ,em,List.getElem?_append_left AV,ha];rfl
  rw[show a.enc=[.str a.name,.str a.owner,ti a.rely.kind,.str a.rely.name,.str a.rely.other,ti a.rely.n,ti a.rely.len,ti a.rely.init,tb a.rely.ghost,.sl (a.rely.kids.map Nd.enc),ti a.rely.pos,ti a.guar.kind,.str a.guar.name,.str a.guar.other,ti a.guar.n,ti a.guar.len,ti a.guar.init,tb a.guar.ghost,.sl (a.guar.kids.map Nd.enc),ti a.guar.pos,.sl (a.frame.map Nd.enc),ti a.pos]from by simp[Mo.enc,Nd.enc_eq]]at Bj SF;have hw:=zan i (by omega);have hc:Den Γ G 648 [moV a,moV a]=some (vb true):=zIM a (ok1.m.2 a Cp);rw[zMT]at hc;unfold zIb at hc;simp -dsimp -implicitDefEqProofs only[go_sem,seval,g,e1,Bj,SF,hc,hw];exact⟨AV,by simp -dsimp -implicitDefEqProofs only[go_sem,seval]⟩
 have e1:=eq_false AV;simp -dsimp -implicitDefEqProofs only[go_sem,seval,g,e1];refine zaq 89201619664654808812289019592163718951077904 C.locks.length (fun i f _ _=>(f 130).v=vi i) rfl (by simp -dsimp -implicitDefEqProofs only[go_sem,seval]) ?_;rintro i2 f2 u2 EY x2 bb2 Cq g2
 by_cases Hi:i2<C.locks.length
 ·have e2:=eq_true Hi;obtain⟨a,ha,Cp⟩:=zai Hi;have Bj:(C.locks.map Lk.enc)[i2]? =some a.enc:=by rw[zJ,ha];rfl
  have SF:(D.locks.map Lk.enc)[i2]? =some a.enc:=by rw[zJ,el,List.getElem?_append_left Hi,ha];rfl
  rw[show a.enc=[.str a.name,ti a.module,ti a.inv.kind,.str a.inv.name,.str a.inv.other,ti a.inv.n,ti a.inv.len,ti a.inv.init,tb a.inv.ghost,.sl (a.inv.kids.map Nd.enc),ti a.inv.pos,ti a.pos]from by simp[Lk.enc,Nd.enc_eq]]at Bj SF;have hw:=zan i2 (by omega);have hc:Den Γ G 649 [lkV a,lkV a]=some (vb true):=zJE a (ok1.l.2 a Cp);rw[zMU]at hc;simp -dsimp -implicitDefEqProofs only[go_sem,seval,g2,e2,Bj,SF,hc,hw];exact⟨Hi,by simp -dsimp -implicitDefEqProofs only[go_sem,seval]⟩
 have e2:=eq_false Hi;simp -dsimp -implicitDefEqProofs only[go_sem,seval,g2,e2];refine zaq 3213876088517979837460077831702384675901421262818017479323664 C.procs.length (fun i f _ _=>(f 149).v=vi i) rfl (by simp -dsimp -implicitDefEqProofs only[go_sem,seval]) ?_;rintro i3 f3 u3 BV x3 bb3 C8 g3
 by_cases LX:i3<C.procs.length
 rotate_left
 ·have e3:=eq_false LX;simp -dsimp -implicitDefEqProofs only[go_sem,seval,g3,e3]
  try rfl
 have e3:=eq_true LX;obtain⟨a,ha,Cp⟩:=zai LX;obtain⟨cs,hb,AL⟩:=ep i3 a ha;have Bj:(C.procs.map Pr.enc)[i3]? =some a.enc:=by rw[zJ,ha];rfl
 have SF:(D.procs.map Pr.enc)[i3]? =some ({ a with calls:=cs }:Pr).enc:=by rw[zJ,hb];rfl
 have By:cs.length<2^30:=(ok2.p.2 _ (zL hb)).c;rw[show a.enc=[.str a.name,ti a.module,.sl (a.params.map Va.enc),.sl (a.locals.map Va.enc),.str a.locked,ti a.body.kind,.str a.body.name,.str a.body.other,ti a.body.n,ti a.body.len,ti a.body.init,tb a.body.ghost,.sl (a.body.kids.map Nd.enc),ti a.body.pos,.sl (a.calls.map fun n=>[ti n]),ti a.pos]from by simp[Pr.enc,Nd.enc_eq]]at Bj;rw[show({ a with calls:=cs }:Pr).enc=[.str a.name,ti a.module,.sl (a.params.map Va.enc),.sl (a.locals.map Va.enc),.str a.locked,ti a.body.kind,.str a.body.name,.str a.body.other,ti a.body.n,ti a.body.len,ti a.body.init,tb a.body.ghost,.sl (a.body.kids.map Nd.enc),ti a.body.pos,.sl (cs.map fun n=>[ti n]),ti a.pos]from by simp[Pr.enc,Nd.enc_eq]]at SF;have hw:=zan i3 (by omega);have hc:Den Γ G 650 [prV a,prV { a with calls:=cs },vb false]=some (vb true):=zJD a (ok1.p.2 a Cp) cs false (fun h=>by cases h);rw[zLI,zLI]at hc;simp -dsimp -implicitDefEqProofs only[go_sem,seval,g3,e3,Bj,SF,hc];have MP: ∀k:Nat,k<=cs.length->IntKind.i64.wrap ((k:Int)+1)=((k+1:Nat):Int):=fun k hk=>zan k (by omega)
 refine zaq 50216813134804607797264021265374696978081937491874814181392 cs.length (fun j f _ _=>(f 169).v=vi j/\(f 14).v=vi (((cs.take j).filter (fun j:Int=>decide (j<(C.procs.length:Int)))).length:Nat)) rfl ⟨by simp -dsimp -implicitDefEqProofs only[go_sem,seval],by simp -dsimp -implicitDefEqProofs only[go_sem,seval];rfl⟩ ?_;rintro j f4 u4 h4 x4 bb4 hj ⟨g4,g5⟩
 have QO:a.calls.length=((cs.take j).filter (fun j:Int=>decide (j<(C.procs.length:Int)))).length+((cs.drop j).filter (fun j:Int=>decide (j<(C.procs.length:Int)))).length:=by
  rw[AL,<- zM,<- List.filter_append,List.take_append_drop]
 have Mw:((cs.take j).filter (fun j:Int=>decide (j<(C.procs.length:Int)))).length<=cs.length:=Nat.le_trans (List.length_filter_le _ _) (by rw[List.length_take];omega)
 have Ag: ∀q,(cs.drop j).filter (fun j:Int=>decide (j<(C.procs.length:Int)))=q->a.calls=(cs.take j).filter (fun j:Int=>decide (j<(C.procs.length:Int)))++q:=fun q hq=>by
  rw[<- hq,<- List.filter_append,List.take_append_drop];exact AL
 by_cases AN:j<cs.length
 rotate_left
 ·have e4:=eq_false AN;have DQ:cs.drop j=[]:=List.drop_of_length_le (by omega);rw[DQ]at QO;simp only[List.filter_nil,List.length_nil,Nat.add_zero]at QO;rw[<- QO]at g5;have e5:((a.calls.length:Int)<a.calls.length)=False:=eq_false (by omega);simp -dsimp -implicitDefEqProofs only[go_sem,seval,g4,g5,e4,e5,g3,hw];exact⟨LX,by simp -dsimp -implicitDefEqProofs only[go_sem,seval]⟩
 have e4:=eq_true AN;obtain⟨q,hq,PZ⟩:=zai AN;have SX:(cs.map fun n=>[ti n])[j]? =some [ti q]:=by rw[zJ,hq];rfl
 have GW:cs.drop j=q::cs.drop (j+1):=by
  obtain⟨Ad,rfl⟩:=zH.1 hq;exact List.drop_eq_getElem_cons Ad
 have Dv:=zaf hq;have C9:=zan j (by omega);have V6:=MP _ Mw
 by_cases OX:q<(C.procs.length:Int)
 ·have hf:(cs.take (j+1)).filter (fun j:Int=>decide (j<(C.procs.length:Int)))=(cs.take j).filter (fun j:Int=>decide (j<(C.procs.length:Int)))++[q]:=by
   rw[Dv,List.filter_append,List.filter_cons_of_pos (by simpa using OX),List.filter_nil]
  have CM:=Ag _ rfl;rw[GW,List.filter_cons_of_pos (by simpa using OX)]at CM;have Ac:=congrArg List.length CM;simp only[zM,List.length_cons]at Ac
  have FG:(a.calls.map fun n=>[ti n])[((cs.take j).filter (fun j:Int=>decide (j<(C.procs.length:Int)))).length]? =some [ti q]:=by
   rw[zJ,CM,List.getElem?_append_right (Nat.le_refl _),Nat.sub_self];rfl
  have H5:(((cs.take (j+1)).filter (fun j:Int=>decide (j<(C.procs.length:Int)))).length:Nat)=((cs.take j).filter (fun j:Int=>decide (j<(C.procs.length:Int)))).length+1:=by rw[hf];simp
  rw[H5]
  generalize((cs.take j).filter (fun j:Int=>decide (j<(C.procs.length:Int)))).length=K at *
  have e5:((K:Int)<a.calls.length)=True:=eq_true (by omega);have e6:(q=q)=True:=eq_true rfl;simp -dsimp -implicitDefEqProofs only[go_sem,seval,g4,g5,e4,e5,SX,FG,e6,C9,V6];exact⟨AN,by simp -dsimp -implicitDefEqProofs only[go_sem,seval],by simp -dsimp -implicitDefEqProofs only[go_sem,seval]⟩
 ·have hf:(cs.take (j+1)).filter (fun j:Int=>decide (j<(C.procs.length:Int)))=(cs.take j).filter (fun j:Int=>decide (j<(C.procs.length:Int))):=by
   rw[Dv,List.filter_append,List.filter_cons_of_neg (by simpa using OX),List.filter_nil,List.append_nil]
  rw[hf]
  generalize((cs.take j).filter (fun j:Int=>decide (j<(C.procs.length:Int)))).length=K at *
  have e7:=eq_false OX
  by_cases hK:K<a.calls.length
  ·obtain⟨z,hz,Mj⟩:=zai hK;have FG:(a.calls.map fun n=>[ti n])[K]? =some [ti z]:=by rw[zJ,hz];rfl
   have P1:z<(C.procs.length:Int):=by
    rw[AL]at Mj;simpa using(List.mem_filter.1 Mj).2
   have e5:((K:Int)<a.calls.length)=True:=eq_true (by omega);have e6:(z=q)=False:=eq_false (by rintro rfl;exact OX P1);simp -dsimp -implicitDefEqProofs only[go_sem,seval,g4,g5,e4,e5,SX,FG,e6,e7,C9];exact⟨AN,by simp -dsimp -implicitDefEqProofs only[go_sem,seval],by simp -dsimp -implicitDefEqProofs only[go_sem,seval,g5]⟩
  ·have e5:((K:Int)<a.calls.length)=False:=eq_false (by omega);simp -dsimp -implicitDefEqProofs only[go_sem,seval,g4,g5,e4,e5,SX,e7,C9];exact⟨AN,by simp -dsimp -implicitDefEqProofs only[go_sem,seval],by simp -dsimp -implicitDefEqProofs only[go_sem,seval,g5]⟩
end Rg
end

/- Part of the proof of laws of relyguardlaw04. No condition. -/
import Derived.Test.YtmgalfhaeddfbaaLartAP
import Derived.Test.YtmgalfhaeddfbaaLartAO
set_option linter.unusedSimpArgs false
set_option linter.unusedVariables false
section
namespace Rg
open Go
theorem zHU:Nd.noneN.sane:=fun x hx=>by
 have:x= .noneN:=by simpa[Nd.noneN,Nd.flat_eq,Nd.kids]using hx
 subst this;refine⟨?_,?_,?_,?_,?_,Nat.zero_le _,Nat.zero_le _,Nat.zero_le _⟩<;>simp[Nd.noneN,Nd.kind,Nd.n,Nd.len,Nd.init,Nd.pos]
theorem zHD {t:Nd} (h:t.sane):(zGC t).sane:=by
 unfold zGC
 cases hk:t.kids with
 | nil=>exact zHU
 | cons a l=>exact h.kid (by rw[hk];simp)
structure Mo.okM (m:Mo) (i:Nat):Prop where
 r:m.rely.sane
 g:m.guar.sane
 f: ∀k∈m.frame,k.sane
 l:m.frame.length<=900*i
theorem zI1: ∀(l:List Nd) (st:MoS) (i:Nat),(∀a∈l,a.sane/\a.size<900)->st.m.okM i->(l.foldl zGw st).m.okM (i+l.length)
 | [],st,i,_,h=>h
 | a::l,st,i,hs,h=>by
   have hk:=zGM a;have hl:(zGo a 2).length<=a.kids.length:=List.length_filter_le _ _;obtain⟨h1,h2⟩:=hs a (by simp)
   have AE:(zGw st a).m.okM (i+1):=by
    have h0:st.m.okM (i+1):=⟨h.r,h.g,h.f,by have:=h.l;omega⟩
    unfold zGw;split
    ·split
     ·exact h0
     ·split
      ·exact⟨zHD h1,h0.g,h0.f,h0.l⟩
      ·split
       ·exact⟨h0.r,zHD h1,h0.f,h0.l⟩
       ·refine⟨h0.r,h0.g,fun k hk=> ?_,by have:=h.l;simp only[zM];omega⟩;rcases List.mem_append.1 hk with hk | hk
        ·exact h.f k hk
        ·exact h1.kid (List.mem_filter.1 hk).1
    ·exact h0
   have:=zI1 l (zGw st a) (i+1) (fun b hb=>hs b (by simp[hb])) AE;rw[List.foldl_cons,List.length_cons,show i+(l.length+1)=i+1+l.length by omega];exact this
theorem zLP (ct:Ct) (n:Nd) (hs:n.sane) (hz:n.size<900):(ct.module n).m.ok:=by
 have h:=zI1 n.kids ⟨ct,[],⟨n.name,n.other,.noneN,.noneN,[],n.pos⟩⟩ 0 (fun a ha=>⟨hs.kid ha,by have:=Nd.size_kid ha;omega⟩) ⟨zHU,zHU,by simp,by simp⟩;have hk:=zGM n;exact⟨h.r,h.g,by have:=h.l;show(ct.module n).m.frame.length<2^30;unfold Ct.module;omega,h.f⟩
theorem zIr: ∀(l:List Nd) (st:Ct×List ByteArray),(∀a∈l,a.sane/\a.size<900)->(∀m∈st.1.mods,m.ok)-> ∀m∈(l.foldl zGu st).1.mods,m.ok
 | [],st,_,h=>h
 | a::l,st,hs,h=>by
   refine zIr l _ (fun b hb=>hs b (by simp[hb])) ?_;have rp: ∀(c:Ct) (e p:Int),(c.report e p).mods=c.mods:=fun c e p=>by unfold Ct.report;split<;>rfl
   unfold zGu;split
   ·rw[rp];exact h
   ·split
    ·rw[rp];exact h
    ·obtain⟨d,hd⟩:=zHI { st.1 with bodies:=st.1.bodies++[a] } a;intro m hm;simp only[hd,List.mem_append,List.mem_singleton]at hm;rcases hm with hm | rfl
     ·exact h m hm
     ·exact zLP _ a (hs a (by simp)).1 (hs a (by simp)).2
theorem zIS (m:Int) (ct:Ct) (a:Nd):(zGl m ct a).locks=ct.locks\/(zGl m ct a).locks=ct.locks++[⟨a.name,m,zGC a,a.pos⟩]:=by
 have rp: ∀(c:Ct) (e p:Int),(c.report e p).locks=c.locks:=fun c e p=>by unfold Ct.report;split<;>rfl
 unfold zGl;split
 rotate_left
 ·exact .inl rfl
 split
 ·exact .inl (rp _ _ _)
 split
 ·obtain⟨d,hd⟩:=zG0 (zGo a 52) (ct,[]);have hf:(ct.fields a).1= { ct with diags:=d }:=hd;exact .inl (by simp[Ct.addName,hf])
 split
 ·have h1:(ct.shared m a).1.locks=ct.locks:=by
   have fin: ∀vs:List Va,(ct.sharedFin a vs).1.locks=ct.locks:=fun vs=>by
    unfold Ct.sharedFin;split
    ·rfl
    ·exact rp _ _ _
   unfold Ct.shared;split
   ·exact rp _ _ _
   ·split
    ·split
     ·exact fin _
     ·exact rp _ _ _
    ·split
     ·exact rp _ _ _
     ·exact fin _
  left;split
  ·exact h1
  ·exact h1
 split
 ·have h1:(ct.lock m a).1.locks=ct.locks\/(ct.lock m a).1.locks=ct.locks++[⟨a.name,m,zGC a,a.pos⟩]:=by
   unfold Ct.lock;split
   ·exact .inl (rp _ _ _)
   ·exact .inr rfl
  split
  ·exact h1
  ·exact h1
 ·obtain⟨d,hd⟩:=zJj ct m a;exact .inl (by simp[Ct.addName,hd])
structure DcS (ct:Ct):Prop where
 l: ∀l∈ct.locks,l.inv.sane
 p: ∀p∈ct.procs,p.locals.length<900
theorem DcS.step {ct:Ct} (h:DcS ct) (m:Int) (a:Nd) (hs:a.sane) (hz:a.size<900):DcS (zGl m ct a):=by
 refine⟨?_,?_⟩
 ·rcases zIS m ct a with e | e
  ·rw[e];exact h.l
  ·rw[e];intro l hl;rcases List.mem_append.1 hl with hl | hl
   ·exact h.l l hl
   ·rw[List.mem_singleton]at hl;subst hl;exact zHD hs
 ·rcases zHy m ct a with e | e
  ·rw[e];exact h.p
  ·rw[e];intro p hp;rcases List.mem_append.1 hp with hp | hp
   ·exact h.p p hp
   ·rw[List.mem_singleton]at hp;subst hp;obtain⟨_,h2⟩:=zIK m ((zGj a 34).flat.filter fun a=>decide (a.kind=35)) { zGp ct m a with vs:=[] } (by simp);obtain⟨h5,_,_⟩:=zI6 (k:=34) hs hz;have h3:=List.length_filter_le (fun a:Nd=>decide (a.kind=35)) (zGj a 34).flat;rw[Nd.flat_len]at h3;simp only[List.length_nil,Nat.zero_add]at h2;exact Nat.lt_of_le_of_lt (show(zGr ct m a).vs.length<=_ from h2) (by omega)
theorem DcS.fold (m:Int): ∀(l:List Nd) {ct:Ct},DcS ct->(∀a∈l,a.sane/\a.size<900)->DcS (l.foldl (zGl m) ct)
 | [],ct,h,_=>h
 | a::l,ct,h,hs=>DcS.fold m l (h.step m a (hs a (by simp)).1 (hs a (by simp)).2) fun b hb=>hs b (by simp[hb])
theorem zKW {st:Ct×List ByteArray} {a:Nd} (ha:a.kids.length<2^30) (h:st.1.thrs.length<=4/\ ∀t∈st.1.thrs,t.args.length<2^30):(zGx st a).1.thrs.length<=4/\ ∀t∈(zGx st a).1.thrs,t.args.length<2^30:=by
 have rp: ∀(c:Ct) (e p:Int),(c.report e p).thrs=c.thrs:=fun c e p=>by unfold Ct.report;split<;>rfl
 unfold zGx;split
 ·rw[rp];exact h
 split
 ·rw[rp];exact h
 rename_i h4;split
 ·rw[rp];exact h
 split
 ·exact h
 split
 ·rw[rp];exact h
 split
 ·rw[rp];exact h
 ·refine⟨by simp only[zM,List.length_singleton];omega,fun t ht=> ?_⟩;rcases List.mem_append.1 ht with ht | ht
  ·exact h.2 t ht
  ·rw[List.mem_singleton]at ht;subst ht;simpa using ha
theorem zIV: ∀(l:List Nd) (st:Ct×List ByteArray),(∀a∈l,a.kids.length<2^30)->(st.1.thrs.length<=4/\ ∀t∈st.1.thrs,t.args.length<2^30)->(l.foldl zGx st).1.thrs.length<=4/\ ∀t∈(l.foldl zGx st).1.thrs,t.args.length<2^30
 | [],st,_,h=>h
 | a::l,st,hs,h=>zIV l _ (fun b hb=>hs b (by simp[hb])) (zKW (hs a (by simp)) h)
theorem zML {t:Nd} (hz:t.size<900) (hs:t.sane): ∃M,M=Ct.nil.modules t/\DcI M M.decls 900/\DcS M.decls/\M.mods.length<=6/\(∀m∈M.mods,m.ok)/\M.thrs=[]/\M.procs=[]/\M.locks=[]/\M.vars=[]:=by
 obtain⟨dM,bM,mM,hM,D5,L2,Ue⟩:=zI0 t;have Fu: ∀b∈bM,b∈t.kids:=fun b hb=>D5.subset hb
 have IY:(bM.map fun b=>b.kids.length).sum<900:=by
  have h1:=zJ6 (fun b:Nd=>b.kids.length) D5;have h2:=zKG t.kids;have h3:=Nd.size_eq t;omega
 refine⟨_,rfl,?_⟩;have Jv: ∀m∈(Ct.nil.modules t).mods,m.ok:=zIr (zGo t 60) (Ct.nil,[]) (fun a ha=>⟨hs.kid (List.mem_filter.1 ha).1,by have:=Nd.size_kid (List.mem_filter.1 ha).1;omega⟩) (by simp[Ct.nil]);rw[hM]at Jv⊢;obtain⟨M,Su⟩: ∃M,M=({ Ct.nil with diags:=dM,bodies:=bM,mods:=mM }:Ct):=⟨_,rfl⟩
 rw[<- Su]at Jv⊢;have Tm:M.bodies=bM:=by rw[Su]
 have Ti:DcI M M 0:=by
  refine⟨⟨⟨?_,?_⟩,?_,?_,?_,?_⟩,rfl,rfl,rfl,?_⟩<;>simp[Su,Ct.nil]
 have Sv:DcS M:=⟨by simp[Su,Ct.nil],by simp[Su,Ct.nil]⟩
 have key: ∀(l:List (Nd×Nat)) (c:Ct) (D:Nat),(∀q∈l,q.1∈t.kids)->DcI M c D->DcS c-> ∃c',c'=l.foldl (fun c q=>q.1.kids.foldl (zGl (q.2:Nat)) c) c/\DcI M c' (D+(l.map fun q=>q.1.kids.length).sum)/\DcS c':=fun l=>by
  induction l with
  | nil=>intro c D _ h1 h2;exact⟨c,rfl,h1,h2⟩
  | cons q l ih=>
    intro c D hq h1 h2;have Nn:=hq q (by simp);have Tn:=hs.kid Nn;have Vy:=Nd.size_kid Nn;have hh: ∀a∈q.1.kids,a.sane/\a.size<900:=fun a ha=>⟨Tn.kid ha,by have:=Nd.size_kid ha;omega⟩
    obtain⟨c',e,h3,h4⟩:=ih _ _ (fun b hb=>hq b (by simp[hb])) (h1.fold (q.2:Nat) q.1.kids hh) (h2.fold (q.2:Nat) q.1.kids hh);refine⟨c',e,?_,h4⟩;rw[List.map_cons,List.sum_cons,<- Nat.add_assoc];exact h3
 have UI: ∀q∈M.bodies.zipIdx,q.1∈t.kids:=fun q hq=>Fu _ (by rw[<- Tm];exact List.fst_mem_of_mem_zipIdx hq)
 obtain⟨c',e,h1,h2⟩:=key M.bodies.zipIdx M 0 UI Ti Sv;have IB:M.decls=c':=e.symm
 have AS:(M.bodies.zipIdx.map fun q=>q.1.kids.length).sum=(bM.map fun b=>b.kids.length).sum:=by
  rw[Tm,show(fun q:Nd×Nat=>q.1.kids.length)=(fun b:Nd=>b.kids.length)∘Prod.fst from rfl,<- List.map_map,List.zipIdx_map_fst]
 rw[AS]at h1;rw[IB];refine⟨⟨⟨h1.ok.ok,h1.ok.rn,?_,?_,?_⟩,h1.mo,h1.th,h1.bo,h1.pr⟩,h2,by rw[Su];exact Ue,Jv,by rw[Su];rfl,by rw[Su];rfl,by rw[Su];rfl,by rw[Su];rfl⟩
 ·exact Nat.le_trans h1.ok.vl (Nat.mul_le_mul_right _ (by omega))
 ·have:=h1.ok.ll;omega
 ·have:=h1.ok.pl;omega
theorem zIC {t:Nd} (hz:t.size<900) (hs:t.sane):(collectM t).okS:=by
 unfold collectM;split
 rotate_left
 ·refine⟨?_,?_,?_,?_,?_⟩<;>simp[Ct.nil]
 obtain⟨M,hM,hd,Sr,h6,Li,BG,_,_,_⟩:=zML hz hs;rw[<- hM];obtain⟨dT,thT,hT⟩:=zHs (zGo t 61) (M.decls,[]);have SV:M.decls.threads t= { M.decls with diags:=dT,thrs:=thT }:=hT
 have Dv:=zIV (zGo t 61) (M.decls,[]) (fun a ha=>by
  have h1:=Nd.size_kid (List.mem_filter.1 ha).1;have h2:=zGM a
  omega) (by rw[show(M.decls,([]:List ByteArray)).1.thrs=[]from hd.th.trans BG];simp)
 have MW:(M.decls.threads t).thrs.length<=4/\ ∀x∈(M.decls.threads t).thrs,x.args.length<2^30:=Dv;have Up:(M.decls.threads t).mods=M.mods:=by rw[SV];exact hd.mo
 have SG:(M.decls.threads t).procs=M.decls.procs:=by rw[SV]
 have Uq:(M.decls.threads t).locks=M.decls.locks:=by rw[SV]
 have Vq:(M.decls.threads t).vars=M.decls.vars:=by rw[SV]
 refine⟨?_,?_,?_,?_,?_⟩
 ·show(M.decls.threads t).mods.length<2^30/\ ∀m∈(M.decls.threads t).mods,m.ok;rw[Up];exact⟨by omega,Li⟩
 ·show(M.decls.threads t).vars.length<2^31;rw[Vq];exact Nat.lt_of_le_of_lt hd.ok.vl (by decide)
 ·show(M.decls.threads t).locks.length<2^30/\ ∀l∈(M.decls.threads t).locks,l.inv.sane;rw[Uq];exact⟨by have:=hd.ok.ll;omega,Sr.l⟩
 ·show(M.decls.threads t).callsM.procs.length<2^30/\ ∀p∈(M.decls.threads t).callsM.procs,p.ok;have BL:(M.decls.threads t).callsM.procs.length=M.decls.procs.length:=by simp[Ct.callsM,SG]
  refine⟨by rw[BL];have:=hd.ok.pl;omega,fun p hp=> ?_⟩;have Tj:(M.decls.threads t).callsM.cok:=zI9 fun p hp=>(hd.pr p (by rw[<- SG];exact hp)).s.1
  have hc:=(Tj p hp).1;obtain⟨q,hq,rfl⟩:=List.mem_map.1 hp;rw[SG]at hq;have h1:=hd.pr q hq;have h2:=Sr.p q hq;exact⟨by have:=h1.l;show q.params.length<2^31;omega,by show q.locals.length<2^31;omega,hc,h1.s.2⟩
 ·show(M.decls.threads t).thrs.length<2^30/\ ∀x∈(M.decls.threads t).thrs,x.args.length<2^30;exact⟨by have:=MW.1;omega,MW.2⟩
theorem zGV {σ α:Type} {f:σ->α->σ} {P:σ->Prop} (h: ∀s a,P s->P (f s a)): ∀(l:List α) (s:σ),P s->P (l.foldl f s)
 | [],s,hs=>hs
 | a::l,s,hs=>zGV h l _ (h s a hs)
theorem zJ8 {d:List (Int×Int)} (h:d.length<=20) (e p:Int):(zJx d e p).length<=20:=by
 unfold zJx;split
 ·simp;omega
 ·exact h
theorem zGB {c:Ct} (h:c.diags.length<=20) (e p:Int):(c.report e p).diags.length<=20:=by
 rw[zHF];exact zJ8 h e p
theorem zLR {c:Ct} (h:c.diags.length<=20) (n:Nd):(c.module n).ct.diags.length<=20:=by
 unfold Ct.module;refine zGV (P:=fun s:MoS=>s.ct.diags.length<=20) (fun s a hs=> ?_) _ _ h;unfold zGw;split
 ·split
  ·exact zGB hs _ _
  ·split
   ·exact hs
   ·split<;>exact hs
 ·exact hs
theorem zK9 {c:Ct} (h:c.diags.length<=20) (t:Nd):(c.modules t).diags.length<=20:=by
 unfold Ct.modules;refine zGV (P:=fun s:Ct×List ByteArray=>s.1.diags.length<=20) (fun s a hs=> ?_) _ _ h;unfold zGu;split
 ·exact zGB hs _ _
 ·split
  ·exact zGB hs _ _
  ·exact zLR (c:={ s.1 with bodies:=s.1.bodies++[a] }) hs a
theorem zMb {c:Ct} (h:c.diags.length<=20) (n:Nd):(c.fields n).1.diags.length<=20:=by
 unfold Ct.fields;refine zGV (P:=fun s:Ct×List Nd=>s.1.diags.length<=20) (fun s a hs=> ?_) _ _ h;unfold zGm;split
 ·exact zGB hs _ _
 ·split
  ·exact hs
  ·exact zGB hs _ _
theorem zLz {c:Ct} (h:c.diags.length<=20) (m:Int) (n:Nd):(c.shared m n).1.diags.length<=20:=by
 have fin: ∀vs:List Va,(c.sharedFin n vs).1.diags.length<=20:=fun vs=>by
  unfold Ct.sharedFin;split
  ·exact h
  ·exact zGB h _ _
 unfold Ct.shared;split
 ·exact zGB h _ _
 ·split
  ·split
   ·exact fin _
   ·exact zGB h _ _
  ·split
   ·exact zGB h _ _
   ·exact fin _
theorem zNc {c:Ct} (h:c.diags.length<=20) (m:Int) (n:Nd):(c.lock m n).1.diags.length<=20:=by
 unfold Ct.lock;split
 ·exact zGB h _ _
 ·exact h
theorem zJb (m:Int) (l:List Nd) (s:AddS) (h:s.ct.diags.length<=20):(l.foldl (zGn m) s).ct.diags.length<=20:=by
 refine zGV (P:=fun s:AddS=>s.ct.diags.length<=20) (fun s a hs=> ?_) _ _ h;unfold zGn;split
 ·exact zGB hs _ _
 ·split
  ·exact hs
  ·exact zGB hs _ _
theorem zM7 {c:Ct} (h:c.diags.length<=20) (m:Int) (n:Nd):(c.proc m n).diags.length<=20:=by
 unfold Ct.proc zGr;exact zJb m _ _ (show(zGp c m n).ct.diags.length<=20 from zJb m _ _ h)
theorem zKt {c:Ct} (h:c.diags.length<=20) (m:Int) (n:Nd):(zGl m c n).diags.length<=20:=by
 unfold zGl;split
 ·split
  ·exact zGB h _ _
  ·split
   ·exact zMb h n
   ·split
    ·split<;>exact zLz h m n
    ·split
     ·split<;>exact zNc h m n
     ·exact zM7 h m n
 ·exact h
theorem zMM {c:Ct} (h:c.diags.length<=20):c.decls.diags.length<=20:=by
 unfold Ct.decls;exact zGV (P:=fun c:Ct=>c.diags.length<=20) (fun c q hc=>zGV (P:=fun c:Ct=>c.diags.length<=20) (fun c a hc=>zKt hc _ a) _ _ hc) _ _ h
theorem zKV {c:Ct} (h:c.diags.length<=20) (t:Nd):(c.threads t).diags.length<=20:=by
 unfold Ct.threads;refine zGV (P:=fun s:Ct×List ByteArray=>s.1.diags.length<=20) (fun s a hs=> ?_) _ _ h;unfold zGx;split
 ·exact zGB hs _ _
 split
 ·exact zGB hs _ _
 split
 ·exact zGB hs _ _
 split
 ·exact hs
 split
 ·exact zGB hs _ _
 split
 ·exact zGB hs _ _
 ·exact hs
theorem zLn (t:Nd):(collectM t).diags.length<=20:=by
 unfold collectM;split
 rotate_left
 ·simp[Ct.nil]
 ·have h1:=zKV (zMM (zK9 (c:=.nil) (by simp[Ct.nil]) t)) t
  have h2:((Ct.nil.modules t).decls.threads t).callsM.diags.length<=20:=zGV (P:=fun d:List (Int×Int)=>d.length<=20) (fun d p hd=>by
   unfold zHB;split
   ·exact zJ8 hd _ _
   ·exact hd) _ _ h1
  exact zGV (P:=fun d:List (Int×Int)=>d.length<=20) (fun d p hd=>by
   unfold cycD;split
   ·exact zJ8 hd _ _
   ·exact hd) _ _ h2
theorem zHo {t:Nd} (h:t.sane):t.bare.sane:=by
 intro x hx;rw[zIw]at hx;obtain⟨y,hy,rfl⟩:=List.mem_map.1 hx;have:=h y hy;exact⟨by simpa using this.kind,by simpa using this.n,by simpa using this.len,by simpa using this.init,by simp,by simpa using this.name,by simpa using this.other,by simpa using this.kids⟩
theorem zMR {c:Ct} (h:c.okS):c.bare.okS:=by
 refine⟨?_,?_,?_,?_,?_⟩
 ·refine⟨by simpa[Ct.bare]using h.m.1,fun m hm=> ?_⟩;obtain⟨q,hq,rfl⟩:=List.mem_map.1 hm;have:=h.m.2 q hq;refine⟨zHo this.r,zHo this.g,by simpa[Mo.bare]using this.f.1,fun k hk=> ?_⟩;obtain⟨y,hy,rfl⟩:=List.mem_map.1 hk;exact zHo (this.f.2 y hy)
 ·simpa[Ct.bare]using h.v
 ·refine⟨by simpa[Ct.bare]using h.l.1,fun m hm=> ?_⟩;obtain⟨q,hq,rfl⟩:=List.mem_map.1 hm;exact zHo (h.l.2 q hq)
 ·refine⟨by simpa[Ct.bare]using h.p.1,fun m hm=> ?_⟩;obtain⟨q,hq,rfl⟩:=List.mem_map.1 hm;have:=h.p.2 q hq;exact⟨by simpa[Pr.bare]using this.p,by simpa[Pr.bare]using this.l,this.c,zHo this.b⟩
 ·refine⟨by simpa[Ct.bare]using h.t.1,fun m hm=> ?_⟩;obtain⟨q,hq,rfl⟩:=List.mem_map.1 hm;exact h.t.2 q hq
end Rg
end
section
namespace Rg
open Go
theorem zLF {h:Nat->Option O} {x q sz bytes:Nat} {u:V} {a b:List (List V)} {K:V->List (Nat×O)->Prop} {w:WK K} (ho:zaF h x u sz a) (hx:x<=q) (Ac:a.length+b.length<=2^32) (S4:bytes<=2^12) (hb:(b.all fun r=>decide (r.length=sz))=true) (ha:(a.all fun r=>decide (r.length=sz))=true)
 (hK: ∀v hp,zaF (H4 h hp) (q+1) v sz (a++b)->K v hp):ziX false (zck h q sz bytes u a b) K w:=by
 by_cases Co:b=[]
 ·subst Co;refine zIo (by simpa using Ac) S4 ha (hK _ _ ?_);rw[List.append_nil];simp only[zaA];exact ho.le (by omega)
 ·exact zIn ho hx Co Ac S4 hb ha fun v hp h1 _ _=>hK v hp h1
theorem zHp (l:List Va) (hl:l.length<2^31):Den Γ G 657 [.t (.sl (l.map Va.enc))]=some (.t (.sl ((l.map Va.bare).map Va.enc))):=by
 (refine zag Γ657 rfl ?_;dsimp only[zNV])
 simp -dsimp -implicitDefEqProofs only[go_sem,seval];refine zLF (x:=2) (.inr ⟨1,rfl,by omega,by rw[zaa,if_pos rfl]⟩) (by omega) (by simp;omega) (by decide) (zHl l) rfl ?_;intro v hp hP;rw[List.nil_append]at hP;have z1:=hP.valOf;have z2:=hP.lenS;rw[show(List.map (fun x=>List.map V.t x) (List.map Va.enc l)).length=l.length by simp]at z2;simp -dsimp -implicitDefEqProofs only[go_sem,seval,z1,z2];refine zaq 261136 l.length (fun i f h' x'=>(f 10).v=vi i/\zaF h' x' v 7 (zGk (((l.take i).map Va.bare++l.drop i).map Va.enc))) rfl ⟨by simp -dsimp -implicitDefEqProofs only[go_sem,seval],?_⟩ ?_
 ·simp only[List.take_zero,List.map_nil,List.nil_append,List.drop_zero,zaC,zaA];exact zaF.le hP (by(try simp -dsimp -implicitDefEqProofs only[go_sem,seval]);(try omega))
 rintro i f u h1 x1 bb hi ⟨g,hO⟩;have BX:(zGk (((l.take i).map Va.bare++l.drop i).map Va.enc)).length=l.length:=by simp;omega
 by_cases AV:i<l.length
 ·have e1:=eq_true AV;obtain⟨a,ha,Cp⟩:=zai AV;have hw:=zan i (by omega)
  have BU:l.drop i=a::l.drop (i+1):=by
   have h1:=(zH.1 ha).2;rw[List.drop_eq_getElem_cons AV,h1]
  have Ap:(zGk (((l.take i).map Va.bare++l.drop i).map Va.enc))[i]? =some [.t (.str a.name),.t (ti a.w),.t (ti a.len),.t (ti a.init),.t (tb a.ghost),.t (ti a.module),.t (ti a.pos)]:=by
   rw[zGk,zJ,zJ,List.getElem?_append_right (by simp;omega),BU];simp[Nat.min_eq_left (Nat.le_of_lt AV)];rfl
  have E8:(zGk (((l.take i).map Va.bare++l.drop i).map Va.enc)).set i [.t (.str a.name),.t (ti a.w),.t (ti a.len),.t (ti a.init),.t (tb a.ghost),.t (ti a.module),.t (ti 0)]=zGk (((l.take (i+1)).map Va.bare++l.drop (i+1)).map Va.enc):=by
   rw[BU,zaf ha,zGk,List.map_append,List.map_append,List.set_append_right _ _ (by simp;omega)];simp[Nat.min_eq_left (Nat.le_of_lt AV),zGk,Va.bare,Va.enc]
  generalize hR:zGk (((l.take i).map Va.bare++l.drop i).map Va.enc)=R at *
  rcases hO with⟨_,he⟩ | ⟨k,rfl,hk,hh⟩
  ·rw[he]at BX;simp at BX;omega
  rw[BX]at z1⊢;simp -dsimp -implicitDefEqProofs only[go_sem,seval,g,e1,z1,hh,BX,Ap,hw];refine⟨AV,by simp -dsimp -implicitDefEqProofs only[go_sem,seval],?_⟩;simp -dsimp -implicitDefEqProofs only[go_sem,seval];rw[<- E8];exact .inr ⟨k,by rw[List.length_set,BX],by(try simp -dsimp -implicitDefEqProofs only[go_sem,seval]);(try omega),by rw[zaa,if_pos rfl]⟩
 have e1:=eq_false AV;have:i=l.length:=by omega
 subst this;rw[List.take_length,List.drop_length,List.append_nil]at hO;have z7:=zG7 (d:=999) (h2:=h1) hO (zGJ (zJc _)) fun j _ _=>rfl
 have z8:=hO.resVal;simp only[Rg.resVal]at z8;simp -dsimp -implicitDefEqProofs only[go_sem,seval,g,e1,z1,z8,↓z7];rcases hO with⟨rfl,_⟩ | ⟨k,rfl,_,_⟩
 ·simp only[z7,Option.map_some]
 ·simp only[z7,Option.map_some]
structure BI {α:Type} (R:(Nat->Option O)->Nat->(Nat->Prop)->List V->α->Prop) (sz:Nat) (v:V) (l:List α) (h:Nat->Option O) (x:Nat):Prop where
 ex: ∃rows N,zaF h x v sz rows/\Pw (R h x N) rows l/\ ∀j,N j->j<x/\zbg v j
theorem BI.snoc {α:Type} {R:(Nat->Option O)->Nat->(Nat->Prop)->List V->α->Prop} (hR: ∀{h h':Nat->Option O} {x x':Nat} {N N':Nat->Prop} {row:List V} {a:α},R h x N row a->x<=x'->(∀j,j<x->N j->h' j=h j/\N' j)->R h' x' N' row a)
 {sz:Nat} {v v':V} {l:List α} {h hF:Nat->Option O} {x xF:Nat} {rows:List (List V)} {N M:Nat->Prop} {row:List V} {a:α} (Tl:Pw (R h x N) rows l) (hN: ∀j,N j->j<x/\zbg v j) (hx:x<=xF) (hO:zaF hF xF v' sz (rows++[row])) (hf: ∀j,j<x->zbg v j->hF j=h j) (hv: ∀j,j<x->zbg v' j)
 (hM: ∀j,M j->j<xF/\zbg v' j) (hr:R hF xF (fun j=>N j\/M j) row a):BI R sz v' (l++[a]) hF xF:=by
 refine⟨rows++[row],fun j=>N j\/M j,hO,(Tl.imp fun _ _ o=>hR o hx fun j j1 j2=>⟨hf j j1 (hN j j2).2,.inl j2⟩).snoc hr,fun j hj=> ?_⟩;rcases hj with hj | hj
 ·exact⟨by have:=(hN j hj).1;omega,hv j (hN j hj).1⟩
 ·exact hM j hj
theorem zpU (ct:Ct) (hk:ct.okS):Den Γ G 653 [zKE ct]=some (zKE ct.bare):=by
 have hm:=hk.m.1;have hl:=hk.l.1;have hp:=hk.p.1;have ht:=hk.t.1;unfold zKE
 (refine zag Γ653 rfl ?_;dsimp only[zNY])
 simp -dsimp -implicitDefEqProofs only[go_sem,seval];refine zaq 576460752303161808 ct.mods.length (fun i f h' x'=>(f 18).v=vi i/\(f 4).v= .lb/\ ∃vM,(f 4).box=some [vM,.t .nils,.t .nils,.t .nils,.t .nils]/\BI MoR 22 vM ((ct.mods.take i).map Mo.bare) h' x') rfl ?_ ?_
 ·refine⟨by simp -dsimp -implicitDefEqProofs only[go_sem,seval],by simp -dsimp -implicitDefEqProofs only[go_sem,seval],.t .nils,by simp -dsimp -implicitDefEqProofs only[go_sem,seval];(try rfl),⟨[],fun _=>False,.inl ⟨rfl,rfl⟩,Pw.nil,fun j h=>h.elim⟩⟩
 rintro i f u h1 x1 bb hi ⟨g,g4,vM,gb,rows,N,hO,Tl,hN⟩
 by_cases AV:i<ct.mods.length
 ·have e1:=eq_true AV;obtain⟨a,ha,Cp⟩:=zai AV;have Bj:(ct.mods.map Mo.enc)[i]? =some a.enc:=by rw[zJ,ha];rfl
  rw[show a.enc=[.str a.name,.str a.owner,ti a.rely.kind,.str a.rely.name,.str a.rely.other,ti a.rely.n,ti a.rely.len,ti a.rely.init,tb a.rely.ghost,.sl (a.rely.kids.map Nd.enc),ti a.rely.pos,ti a.guar.kind,.str a.guar.name,.str a.guar.other,ti a.guar.n,ti a.guar.len,ti a.guar.init,tb a.guar.ghost,.sl (a.guar.kids.map Nd.enc),ti a.guar.pos,.sl (a.frame.map Nd.enc),ti a.pos]from by simp[Mo.enc,Nd.enc_eq]]at Bj;have hw:=zan i (by omega);have Bm:=hk.m.2 a Cp;have H6:=zHO a.rely Bm.r;have Cv:=zHO a.guar Bm.g;have H5:=Bm.f.1;have c0:((a.frame.length:Int)<0)=False:=eq_false (by omega);have c1:((a.frame.length:Int)<=(a.frame.length:Int)/\(a.frame.length:Int)<=4294967296)=True:=eq_true (by omega);simp -dsimp -implicitDefEqProofs only[go_sem,seval,g,e1,Bj,H6,Cv,c0,c1]
  have ndr: ∀(L:List (List T)) (m:Nat),(∀e∈L,e.length=9)-> ∀row∈zGk (L++List.replicate m ndZ),row.length=9:=fun L m hL row hr=>by
   obtain⟨e,he,rfl⟩:=List.mem_map.1 hr;rw[List.length_map];rcases List.mem_append.1 he with he | he
   ·exact hL e he
   ·rw[List.eq_of_mem_replicate he];rfl
  refine zaq 1125762467889408 a.frame.length (fun c f' h' x'=>(f' 37).v=vi c/\h' (x1+1+4+2+10+3)=some (.rows 9 (zGk (((a.frame.take c).map fun k=>k.bare.enc)++List.replicate (a.frame.length-c) ndZ)) false)/\(∀j,j<x1->h' j=h1 j)/\x1+20<x') rfl ⟨by simp -dsimp -implicitDefEqProofs only[go_sem,seval],?_,fun j hj=> ?_,by(try simp -dsimp -implicitDefEqProofs only[go_sem,seval]);(try omega)⟩ ?_
  ·simp only[zaC,zaA];rw[zaa,if_pos rfl];simp[zGk,ndZ]
  ·simp only[zaC,zaA];rw[zaa,if_neg (by omega)]
  rintro c f' u' h2 x2 b2 CG ⟨g37,h7,AF,ML⟩
  by_cases By:c<a.frame.length
  ·have e2:=eq_true By;obtain⟨b,hb,EW⟩:=zai By;have SF:(a.frame.map Nd.enc)[c]? =some b.enc:=by rw[zJ,hb];rfl
   have BO:=zan c (by omega);have hc:=zHO b (Bm.f.2 b EW);simp only[Nd.bare_kind,Nd.bare_name,Nd.bare_other,Nd.bare_n,Nd.bare_len,Nd.bare_init,Nd.bare_ghost,Nd.bare_kids,Nd.bare_pos]at hc;have Vc:(zGk (((a.frame.take c).map fun k=>k.bare.enc)++List.replicate (a.frame.length-c) ndZ)).length=a.frame.length:=by simp;omega
   have E8:=zHG (es:=(a.frame.take c).map fun k=>k.bare.enc) (es':= []) b.bare.enc ndZ By (by simp;omega);rw[show b.bare.enc.map V.t=[.t (ti b.kind),.t (.str b.name),.t (.str b.other),.t (ti b.n),.t (ti b.len),.t (ti b.init),.t (tb b.ghost),.t (.sl ((b.kids.map Nd.bare).map Nd.enc)),.t (ti 0)]from by rw[Nd.enc_eq];simp]at E8;obtain⟨row,Ap,PX⟩:=zai (l:=zGk (((a.frame.take c).map fun k=>k.bare.enc)++List.replicate (a.frame.length-c) ndZ)) (i:=c) (by omega)
   have U2:row.length=9:=ndr _ _ (fun e he=>by
    obtain⟨k,_,rfl⟩:=List.mem_map.1 he
    exact zGz _) row PX
   have S9:(9<=row.length)=True:=eq_true (by omega);have S8:List.drop 9 row=[]:=List.drop_eq_nil_of_le (by omega)
   generalize hR:zGk (((a.frame.take c).map fun k=>k.bare.enc)++List.replicate (a.frame.length-c) ndZ)=R at *
   simp -dsimp -implicitDefEqProofs only[go_sem,seval,g37,e2,SF,Nd.enc_eq,hc,h7,Vc,Ap,BO,S9,S8];refine⟨By,by simp -dsimp -implicitDefEqProofs only[go_sem,seval],?_,fun j hj=> ?_,by(try simp -dsimp -implicitDefEqProofs only[go_sem,seval]);(try omega)⟩
   ·simp -dsimp -implicitDefEqProofs only[go_sem,seval];rw[E8,zaf hb,List.map_append];rfl
   ·simp -dsimp -implicitDefEqProofs only[go_sem,seval];rw[if_neg (by omega)];exact AF j hj
  have e2:=eq_false By;have:c=a.frame.length:=by omega
  subst this;rw[List.take_length,Nat.sub_self,List.replicate_zero,List.append_nil]at h7;have v1:=hO.valOf;have Cz:=hO.keep (h':=h2) (y:=x2) (by omega) fun j j1 _=>AF j j1
  have r1:=Cz.r1;have r2:=Cz.r2;have r3:=Cz.r3;have r4:=Cz.r4;have r5:=Cz.r5;simp -dsimp -implicitDefEqProofs only[go_sem,seval,g37,e2,g4,gb,v1,r1,r2,r3,r4,r5];refine zav (Cz.upd (by omega) _) (by omega) (by rw[Tl.1];simp;omega) (by decide) rfl (List.all_eq_true.2 fun r hr=>by simp[Tl.len (fun _ _ o=>o.len) r hr]) ?_;intro v9 Ta G1 Bp Aq;have z1:=G1.valOf;have z2:=zGv G1;unfold V.cells at z2;simp -dsimp -implicitDefEqProofs only[go_sem,seval,z1,z2,g,hw,g4,gb];refine⟨AV,by simp -dsimp -implicitDefEqProofs only[go_sem,seval],by simp -dsimp -implicitDefEqProofs only[go_sem,seval,g4],v9,by simp -dsimp -implicitDefEqProofs only[go_sem,seval,gb];(try rfl),?_⟩;have hq:zbg vM (x1+1+4+2+10+3):=hO.off (by omega);rw[zaf ha,List.map_append,List.map_cons,List.map_nil];simp -dsimp -implicitDefEqProofs only[go_sem,seval];refine BI.snoc (R:=MoR) MoR.keep (M:=fun j=>j=x1+1+4+2+10+3) Tl hN ?_ (G1.le ?_) (fun j j1 j2=> ?_) (fun j j1=>Bp j (by omega)) (fun j hj=> ?_) ⟨.ms (x1+1+4+2+10+3) 0 a.frame.length,?_,.inr ⟨x1+1+4+2+10+3,false,?_,?_,.inr rfl,?_⟩⟩
  ·(try simp -dsimp -implicitDefEqProofs only[go_sem,seval]);(try omega)
  ·(try simp -dsimp -implicitDefEqProofs only[go_sem,seval]);(try omega)
  ·rw[Aq j (by omega) j2,zaa,if_neg (by omega)];exact AF j j1
  ·subst hj;exact⟨by(try simp -dsimp -implicitDefEqProofs only[go_sem,seval]);(try omega),Bp _ (by omega)⟩
  ·simp[Mo.bare,Nd.enc_eq]
  ·simp[Mo.bare]
  ·(try simp -dsimp -implicitDefEqProofs only[go_sem,seval]);(try omega)
  ·rw[Aq _ (by omega) hq,zaa,if_neg (by omega),h7];simp[Mo.bare,zGk,List.map_map,Function.comp_def]
 have e1:=eq_false AV;have:i=ct.mods.length:=by omega
 subst this;rw[List.take_length]at Tl;have Di:=zHp ct.vars hk.v;simp -dsimp -implicitDefEqProofs only[go_sem,seval,g,e1,Di,g4,gb];refine zaq 9671258982964443721237520 ct.locks.length (fun i f h' x'=>(f 67).v=vi i/\(f 4).v= .lb/\ ∃vL,(f 4).box=some [vM,.t (.sl ((ct.vars.map Va.bare).map Va.enc)),vL,.t .nils,.t .nils]/\zaF h' x' vL 12 (zGk (((ct.locks.take i).map Lk.bare).map Lk.enc))/\x1<=x'/\(∀j,j<x1->h' j=h1 j)/\ ∀j,j<x1->zbg vL j) rfl ?_ ?_
 ·refine⟨by simp -dsimp -implicitDefEqProofs only[go_sem,seval],by simp -dsimp -implicitDefEqProofs only[go_sem,seval,g4],.t .nils,by simp -dsimp -implicitDefEqProofs only[go_sem,seval,gb];(try rfl),.inl ⟨rfl,rfl⟩,by(try simp -dsimp -implicitDefEqProofs only[go_sem,seval]);(try omega),fun _ _=>rfl,fun j _ i n e=>(by cases e)⟩
 rintro i2 f2 u2 h2 x2 b2 Cq ⟨g2,g42,vL,gb2,Cz,ML,AF,Jp⟩
 by_cases Hi:i2<ct.locks.length
 ·have e2:=eq_true Hi;obtain⟨a,ha,Cp⟩:=zai Hi;have Bj:(ct.locks.map Lk.enc)[i2]? =some a.enc:=by rw[zJ,ha];rfl
  rw[show a.enc=[.str a.name,ti a.module,ti a.inv.kind,.str a.inv.name,.str a.inv.other,ti a.inv.n,ti a.inv.len,ti a.inv.init,tb a.inv.ghost,.sl (a.inv.kids.map Nd.enc),ti a.inv.pos,ti a.pos]from by simp[Lk.enc,Nd.enc_eq]]at Bj;have hw:=zan i2 (by omega);have H6:=zHO a.inv (hk.l.2 a Cp);have v1:=Cz.valOf;have r1:=Cz.r1;have r2:=Cz.r2;have r3:=Cz.r3;have r4:=Cz.r4;have r5:=Cz.r5;simp -dsimp -implicitDefEqProofs only[go_sem,seval,g2,e2,Bj,H6,g42,gb2,v1,r1,r2,r3,r4,r5]
  refine zav (Cz.upd (by omega) _) (by omega) (by simp;omega) (by decide) rfl (List.all_eq_true.2 fun r hr=>by
   obtain⟨z,hz,rfl⟩:=List.mem_map.1 hr;obtain⟨z,hz,rfl⟩:=List.mem_map.1 hz
   simp[Lk.bare,Lk.enc,zGz]) ?_
  intro v9 Ta G1 Bp Aq;have z1:=G1.valOf;have z2:=zGv G1;unfold V.cells at z2;simp -dsimp -implicitDefEqProofs only[go_sem,seval,z1,z2,g2,hw,g42,gb2];refine⟨Hi,by simp -dsimp -implicitDefEqProofs only[go_sem,seval],by simp -dsimp -implicitDefEqProofs only[go_sem,seval,g42],v9,by simp -dsimp -implicitDefEqProofs only[go_sem,seval,gb2];(try rfl),?_,by(try simp -dsimp -implicitDefEqProofs only[go_sem,seval]);(try omega),fun j hj=> ?_,fun j hj=>Bp j (by omega)⟩
  ·rw[zaf ha,List.map_append,List.map_append,zGk,List.map_append];simp -dsimp -implicitDefEqProofs only[go_sem,seval];refine zaF.le (by simpa[Lk.bare,Lk.enc,Nd.enc_eq]using G1) ?_
   (try simp -dsimp -implicitDefEqProofs only[go_sem,seval]);(try omega)
  ·simp -dsimp -implicitDefEqProofs only[go_sem,seval];rw[Aq j (by omega) (Jp j hj),zaa,if_neg (by omega)];exact AF j hj
 have e2:=eq_false Hi;have:i2=ct.locks.length:=by omega
 subst this;rw[List.take_length]at Cz;simp -dsimp -implicitDefEqProofs only[go_sem,seval,g2,e2,g42,gb2];refine zaq 5192296781163575173194229148028944 ct.procs.length (fun i f h' x'=>(f 86).v=vi i/\(f 4).v= .lb/\ ∃vQ,(f 4).box=some [vM,.t (.sl ((ct.vars.map Va.bare).map Va.enc)),vL,vQ,.t .nils]/\zaF h' x' vQ 16 (zGk (((ct.procs.take i).map Pr.bare).map Pr.enc))/\x2<=x'/\(∀j,j<x2->h' j=h2 j)/\ ∀j,j<x2->zbg vQ j) rfl ?_ ?_
 ·refine⟨by simp -dsimp -implicitDefEqProofs only[go_sem,seval],by simp -dsimp -implicitDefEqProofs only[go_sem,seval,g42],.t .nils,by simp -dsimp -implicitDefEqProofs only[go_sem,seval,gb2];(try rfl),.inl ⟨rfl,rfl⟩,by(try simp -dsimp -implicitDefEqProofs only[go_sem,seval]);(try omega),fun _ _=>rfl,fun j _ i n e=>(by cases e)⟩
 rintro i3 f3 u3 h3 x3 b3 C8 ⟨g3,g43,vQ,gb3,Hl,S1,B4,Ua⟩
 by_cases LX:i3<ct.procs.length
 ·have e2:=eq_true LX;obtain⟨a,ha,Cp⟩:=zai LX;have Bj:(ct.procs.map Pr.enc)[i3]? =some a.enc:=by rw[zJ,ha];rfl
  rw[show a.enc=[.str a.name,ti a.module,.sl (a.params.map Va.enc),.sl (a.locals.map Va.enc),.str a.locked,ti a.body.kind,.str a.body.name,.str a.body.other,ti a.body.n,ti a.body.len,ti a.body.init,tb a.body.ghost,.sl (a.body.kids.map Nd.enc),ti a.body.pos,.sl (a.calls.map fun n=>[ti n]),ti a.pos]from by simp[Pr.enc,Nd.enc_eq]]at Bj;have hw:=zan i3 (by omega);have Nt:=hk.p.2 a Cp;have H6:=zHO a.body Nt.b;have Cv:=zHp a.params Nt.p;have QD:=zHp a.locals Nt.l;have v1:=Hl.valOf;have r1:=Hl.r1;have r2:=Hl.r2;have r3:=Hl.r3;have r4:=Hl.r4;have r5:=Hl.r5;simp -dsimp -implicitDefEqProofs only[go_sem,seval,g3,e2,Bj,H6,Cv,QD,g43,gb3,v1,r1,r2,r3,r4,r5]
  refine zav (Hl.upd (by omega) _) (by omega) (by simp;omega) (by decide) rfl (List.all_eq_true.2 fun r hr=>by
   obtain⟨z,hz,rfl⟩:=List.mem_map.1 hr;obtain⟨z,hz,rfl⟩:=List.mem_map.1 hz
   simp[Pr.enc,zGz]) ?_
  intro v9 Ta G1 Bp Aq;have z1:=G1.valOf;have z2:=zGv G1;unfold V.cells at z2;simp -dsimp -implicitDefEqProofs only[go_sem,seval,z1,z2,g3,hw,g43,gb3];refine⟨LX,by simp -dsimp -implicitDefEqProofs only[go_sem,seval],by simp -dsimp -implicitDefEqProofs only[go_sem,seval,g43],v9,by simp -dsimp -implicitDefEqProofs only[go_sem,seval,gb3];(try rfl),?_,by(try simp -dsimp -implicitDefEqProofs only[go_sem,seval]);(try omega),fun j hj=> ?_,fun j hj=>Bp j (by omega)⟩
  ·rw[zaf ha,List.map_append,List.map_append,zGk,List.map_append];simp -dsimp -implicitDefEqProofs only[go_sem,seval];refine zaF.le (by simpa[Pr.bare,Pr.enc,Nd.enc_eq]using G1) ?_
   (try simp -dsimp -implicitDefEqProofs only[go_sem,seval]);(try omega)
  ·simp -dsimp -implicitDefEqProofs only[go_sem,seval];rw[Aq j (by omega) (Ua j hj),zaa,if_neg (by omega)];exact B4 j hj
 have e3:=eq_false LX;have:i3=ct.procs.length:=by omega
 subst this;rw[List.take_length]at Hl;simp -dsimp -implicitDefEqProofs only[go_sem,seval,g3,e3,g43,gb3];refine zaq 170099645085600953110659059745250361360 ct.thrs.length (fun i f h' x'=>(f 115).v=vi i/\(f 4).v= .lb/\ ∃vT,(f 4).box=some [vM,.t (.sl ((ct.vars.map Va.bare).map Va.enc)),vL,vQ,vT]/\zaF h' x' vT 5 (zGk (((ct.thrs.take i).map Th.bare).map Th.enc))/\x3<=x'/\(∀j,j<x3->h' j=h3 j)/\ ∀j,j<x3->zbg vT j) rfl ?_ ?_
 ·refine⟨by simp -dsimp -implicitDefEqProofs only[go_sem,seval],by simp -dsimp -implicitDefEqProofs only[go_sem,seval,g43],.t .nils,by simp -dsimp -implicitDefEqProofs only[go_sem,seval,gb3];(try rfl),.inl ⟨rfl,rfl⟩,by(try simp -dsimp -implicitDefEqProofs only[go_sem,seval]);(try omega),fun _ _=>rfl,fun j _ i n e=>(by cases e)⟩
 rintro i4 f4 u4 h4 x4 b4 Mz ⟨g4,g44,vT,gb4,Gf,Vx,GN,TZ⟩
 by_cases LF:i4<ct.thrs.length
 ·have e2:=eq_true LF;obtain⟨a,ha,Cp⟩:=zai LF;have Bj:(ct.thrs.map Th.enc)[i4]? =some a.enc:=by rw[zJ,ha];rfl
  rw[show a.enc=[.str a.name,ti a.proc,.sl (a.args.map fun n=>[ti n]),tb a.asleep,ti a.pos]from by rfl]at Bj;have hw:=zan i4 (by omega);have v1:=Gf.valOf;have r1:=Gf.r1;have r2:=Gf.r2;have r3:=Gf.r3;have r4:=Gf.r4;have r5:=Gf.r5;simp -dsimp -implicitDefEqProofs only[go_sem,seval,g4,e2,Bj,g44,gb4,v1,r1,r2,r3,r4,r5]
  refine zav (Gf.upd (by omega) _) (by omega) (by simp;omega) (by decide) rfl (List.all_eq_true.2 fun r hr=>by
   obtain⟨z,hz,rfl⟩:=List.mem_map.1 hr;obtain⟨z,hz,rfl⟩:=List.mem_map.1 hz
   rfl) ?_
  intro v9 Ta G1 Bp Aq;have z1:=G1.valOf;have z2:=zGv G1;unfold V.cells at z2;simp -dsimp -implicitDefEqProofs only[go_sem,seval,z1,z2,g4,hw,g44,gb4];refine⟨LF,by simp -dsimp -implicitDefEqProofs only[go_sem,seval],by simp -dsimp -implicitDefEqProofs only[go_sem,seval,g44],v9,by simp -dsimp -implicitDefEqProofs only[go_sem,seval,gb4];(try rfl),?_,by(try simp -dsimp -implicitDefEqProofs only[go_sem,seval]);(try omega),fun j hj=> ?_,fun j hj=>Bp j (by omega)⟩
  ·rw[zaf ha,List.map_append,List.map_append,zGk,List.map_append];simp -dsimp -implicitDefEqProofs only[go_sem,seval];refine zaF.le (by simpa[Th.bare,Th.enc]using G1) ?_
   (try simp -dsimp -implicitDefEqProofs only[go_sem,seval]);(try omega)
  ·simp -dsimp -implicitDefEqProofs only[go_sem,seval];rw[Aq j (by omega) (TZ j hj),zaa,if_neg (by omega)];exact GN j hj
 have e4:=eq_false LF;have:i4=ct.thrs.length:=by omega
 subst this;rw[List.take_length]at Gf;simp -dsimp -implicitDefEqProofs only[go_sem,seval,g4,e4,g44,gb4];have t4: ∀j,j<x3->h4 j=h3 j:=GN;have t3: ∀j,j<x2->h4 j=h2 j:=fun j hj=>(GN j (by omega)).trans (B4 j hj)
 have t2: ∀j,j<x1->h4 j=h1 j:=fun j hj=>(t3 j (by omega)).trans (AF j hj)
 have q1:toT h4 1000 vM=some (.sl ((ct.mods.map Mo.bare).map Mo.enc)):=zG7 (d:=999) hO (zJH (fun r a o=>zMS (d:=998) o fun j j1 _=>t2 j j1) Tl) fun j j1 _=>t2 j j1
 have q2:toT h4 1000 vL=some (.sl ((ct.locks.map Lk.bare).map Lk.enc)):=zG7 (d:=999) Cz (zGJ (zLZ _)) fun j j1 _=>t3 j j1
 have q3:toT h4 1000 vQ=some (.sl ((ct.procs.map Pr.bare).map Pr.enc)):=zG7 (d:=999) Hl (zGJ fun e he t ht=>by
  obtain⟨v,_,rfl⟩:=List.mem_map.1 he;simp only[Pr.enc,List.mem_append,List.mem_cons,List.not_mem_nil,or_false]at ht;rcases ht with((rfl | rfl | rfl | rfl | rfl) | ht) | rfl | rfl
  ·rfl
  ·rfl
  ·rfl
  ·rfl
  ·rfl
  ·exact zG9 _ t ht
  ·rfl
  ·rfl) fun j j1 _=>t4 j j1
 have q4:toT h4 1000 vT=some (.sl ((ct.thrs.map Th.bare).map Th.enc)):=zG7 (d:=999) Gf (zGJ fun e he t ht=>by
  obtain⟨v,_,rfl⟩:=List.mem_map.1 he;simp only[Th.enc,List.mem_cons,List.not_mem_nil,or_false]at ht;rcases ht with rfl | rfl | rfl | rfl | rfl
  ·rfl
  ·rfl
  ·rfl
  ·rfl
  ·rfl) fun j _ _=>rfl
 rw[q1,q2,q3,q4];rfl
theorem zIP (t:Nd) (hs:t.sane) (z:Int) (hz: -128<=z/\z<=127):Den Γ G 644 [(.agg [.t (ti (t).kind),.t (.str (t).name),.t (.str (t).other),.t (ti (t).n),.t (ti (t).len),.t (ti (t).init),.t (tb (t).ghost),.t (.sl ((t).kids.map Nd.enc)),.t (ti (t).pos)]),.t (.int .i8 z)]=some (vb true):=by
 have hh:=zLg;have hf:=zNL t hs
 (refine zag Γ644 rfl ?_;dsimp only[zN4])
 by_cases hc:zGD 60 t 400<=400
 rotate_left
 ·have Bz:=eq_false hc;simp -dsimp -implicitDefEqProofs only[go_sem,seval,hh,hf,Bz]
  try rfl
 have Bz:=eq_true hc;have AS:=zMK hc;have h1:=zHi t (by omega) hs;have h2:=zLO t hs z;have FY:=Nd.moved_sane t hs z;have h3:=zHi (t.moved z) (by rw[Nd.moved_size];omega) FY;have hb:(collectM t).bare=(collectM (t.moved z)).bare:=by rw[<- zHQ,<- zHQ,Nd.moved_bare]
 have ok1:=zIC (by omega) hs;have ok2:=zIC (by rw[Nd.moved_size];omega) FY;have h4:=zpU (collectM t) ok1;have h5:=zpU (collectM (t.moved z)) ok2;have hw:IntKind.i64.wrap z=z:=by simp[IntKind.wrap,IntKind.signed,IntKind.bits];omega
 have okb:(collectM t).bare.okS:=zMR ok1;have h6:=zFV (collectM t).bare okb;rw[<- hb]at h5;have hd:=congrArg Ct.diags hb;have Ad:=zLn t;have JS:(collectM t).diags.map (fun d=>(d.1,(0:Int)))=(collectM (t.moved z)).diags.map fun d=>(d.1,0):=hd
 generalize collectM t=C at *
 generalize collectM (t.moved z)=D at *
 have Ac:C.diags.length=D.diags.length:=by have:=congrArg List.length JS;simpa using this
 unfold zKE at h1 h3 h4 h5 h6;simp -dsimp -implicitDefEqProofs only[go_sem,seval,hh,hf,Bz,h1,hw,h2,h3,Ac,h4,h5,h6];refine zaT 288221580058690064 D.diags.length (fun i f=>(f 43).v=vi i) rfl rfl (by simp -dsimp -implicitDefEqProofs only[go_sem,seval]) ?_;rintro i f u x bb hi g
 by_cases AV:i<D.diags.length
 ·have e1:=eq_true AV;obtain⟨a,ha,Cp⟩:=zai (l:=C.diags) (i:=i) (by omega);obtain⟨b,BM,EW⟩:=zai AV;have BO:=zan i (by omega);have Bj:(dgT C.diags)[i]? =some [ti a.1,ti a.2]:=by rw[dgT,zJ,ha];rfl
  have SF:(dgT D.diags)[i]? =some [ti b.1,ti b.2]:=by rw[dgT,zJ,BM];rfl
  have Ca:a.1=b.1:=by
   have:=congrArg (fun l:List (Int×Int)=>l[i]?) JS;simp only[zJ,ha,BM,Option.map_some,zA,Prod.mk.injEq,and_true]at this;exact this
  have e2:(b.1=b.1)=True:=eq_true rfl;simp -dsimp -implicitDefEqProofs only[go_sem,seval,g,e1,Bj,SF,Ca,e2,BO];exact⟨AV,by simp -dsimp -implicitDefEqProofs only[go_sem,seval]⟩
 have e1:=eq_false AV;simp -dsimp -implicitDefEqProofs only[go_sem,seval,g,e1]
 try rfl
end Rg
end

/- Part of the proof of laws of relyguardlaw31. No condition. -/
import Derived.Test.YtcmeofagpechdaaGreatDoorPartAW
set_option linter.unusedSimpArgs false
set_option linter.unusedVariables false
section
namespace Rg
open Go
theorem zj4 {e:Expr} (h:e.one=true) (op:Int) (hop:op≠1):e.sup op=[]:=by
 simp only[Expr.one,decide_eq_true_eq]at h;obtain⟨h1,h2,h3,h4⟩:=h;rw[List.eq_nil_iff_forall_not_mem];intro c hc;obtain⟨_,_,x,hx,hxo,_⟩:=zj5 hc;rw[Expr.lv_eq,if_pos h4]at hx;simp only[List.mem_singleton]at hx;subst hx;omega
theorem zmS {p:Prog} {e:Expr} (h:e.one=true) (sh:Bool) (t:Int):overOk p e sh t=true:=by
 rw[overOk,zj4 h 3 (by decide),zj4 h 2 (by decide)];rfl
def zcl (p:Prog) (t:Int) (s:Step):Prop:=overOk p s.guard (decide (s.kind=4)) t=true/\
 ∀(j:Nat) (a:Assign),s.set[j]? =some a->((0<j\/s.kind≠2)->overOk p a.to (decide (s.kind=4)) t=true)/\(ofThread p t a.cell=true\/ofThread p (-1) a.cell=true)
theorem kindOk_pre {p:Prog} {t:Int} {s:Step} (h:kindOk p t s=true) (hk:1<=s.kind/\s.kind<=7):zcl p t s:=by
 unfold kindOk at h;split at h
 ·rename_i k;simp only[valuesOk,zF,List.all_eq_true]at h;refine⟨by simpa[k]using h.1.1,fun j a ha=>⟨fun _=>by simpa[k]using h.1.2 a (List.mem_of_getElem? ha),.inl (h.2 a (List.mem_of_getElem? ha))⟩⟩
 ·split at h
  ·rename_i k;unfold loadOk at h;split at h
   ·simp at h
   ·rename_i a r hs;simp only[zF,List.all_eq_true]at h;obtain⟨⟨⟨⟨⟨⟨g1,g2⟩,g3⟩,g4⟩,g5⟩,g6⟩,g7⟩:=h;refine⟨by simpa[k]using g1,fun j b hb=> ?_⟩;rw[hs]at hb
    cases j with
    | zero=>simp at hb;subst hb;exact⟨fun h0=>by simp[k]at h0,.inl g2⟩
    | succ j=>
      simp only[List.getElem?_cons_succ]at hb;have:=g7 b (List.mem_of_getElem? hb);exact⟨fun _=>by simpa[k]using this.2,.inl this.1.1⟩
  ·split at h
   ·rename_i k;unfold storeOk at h;split at h
    ·simp at h
    ·rename_i a r hs;simp only[valuesOk,zF,List.all_eq_true]at h;obtain⟨⟨⟨⟨g1,g2⟩,g3⟩,g4⟩,g5⟩:=h;refine⟨by simpa[k]using g1,fun j b hb=>⟨fun _=>by simpa[k]using g2 b (List.mem_of_getElem? hb),?_⟩⟩;rw[hs]at hb
     cases j with
     | zero=>simp at hb;subst hb;exact .inr g3
     | succ j=>
       simp only[List.getElem?_cons_succ]at hb;have:=(g5 b (List.mem_of_getElem? hb)).2;simp only[sees,Bool.or_eq_true]at this;exact this.symm
   ·split at h
    ·rename_i k;simp only[valuesOk,zF,List.all_eq_true]at h;refine⟨by simpa[k]using h.1.1,fun j a ha=>⟨fun _=>by simpa[k]using h.1.2 a (List.mem_of_getElem? ha),?_⟩⟩;have:=h.2 a (List.mem_of_getElem? ha);simp only[sees,Bool.or_eq_true]at this;exact this.symm
    ·have key:s.guard.one=true/\s.set=[]:=by
      split at h
      ·simpa using h
      ·split at h
       ·simp only[joinOk,zF,decide_eq_true_eq]at h;exact h.1.1.1
       ·simp only[joinOk,zF,decide_eq_true_eq]at h;exact h.1.1
     refine⟨zmS key.1 _ _,fun j a ha=>by rw[key.2]at ha;simp at ha⟩
theorem zdP {p:Prog} {t:Int} {s:Step} (h:zcl p t s) (hk:s.kind≠2):valuesOk p s (decide (s.kind=4)) t=true:=by
 simp only[valuesOk,zF,List.all_eq_true];refine⟨h.1,fun a ha=> ?_⟩;obtain⟨j,hj,rfl⟩:=List.mem_iff_getElem.1 ha;exact(h.2 j _ (zI hj)).1 (.inr hk)
theorem ziI {p:Prog} {t:Int} {s:Step} (h:zcl p t s) {a:Assign} (ha:a∈s.set):sees p t a.cell=true:=by
 obtain⟨j,hj,rfl⟩:=List.mem_iff_getElem.1 ha;have:=(h.2 j _ (zI hj)).2;simp only[sees,Bool.or_eq_true];exact this.symm
theorem zsQ {p:Prog} {t:Int} {s:Step} (h:zcl p t s) (hk:s.kind=1):kindOk p t s=s.set.all fun a=>ofThread p t a.cell:=by
 have:=zdP h (by omega);rw[kindOk,if_pos hk];simp only[hk]at this;rw[show(decide ((1:Int)=4))=false from rfl]at this;rw[this,Bool.true_and]
theorem zsP {p:Prog} {t:Int} {s:Step} (h:zcl p t s) (hk:s.kind=2) {a:Assign} {r:List Assign} (hs:s.set=a::r):
 kindOk p t s=(ofThread p t a.cell&& !zaJ p a.cell Cell.ghost&&decide (a.to.op=2)&&ofThread p (-1) a.to.n&& !zaJ p a.to.n Cell.ghost&&r.all fun b=>ofThread p t b.cell&&zaJ p b.cell Cell.ghost):=by
 have h1:=h.1;simp only[hk]at h1;rw[show(decide ((2:Int)=4))=false from rfl]at h1;rw[kindOk,if_neg (by omega),if_pos hk,loadOk,hs];simp only[h1,Bool.true_and]
 congr 1
 refine zdG fun b hb=> ?_
 obtain⟨j,hj,rfl⟩:=List.mem_iff_getElem.1 hb;have:=(h.2 (j+1) r[j] (by rw[hs];simp[hj])).1 (.inl (by omega));simp only[hk]at this;rw[show(decide ((2:Int)=4))=false from rfl]at this;rw[this,Bool.and_true]
theorem zsO {p:Prog} {t:Int} {s:Step} (h:zcl p t s) (hk:s.kind=3) {a:Assign} {r:List Assign} (hs:s.set=a::r):
 kindOk p t s=(ofThread p (-1) a.cell&& !zaJ p a.cell Cell.ghost&&r.all fun b=>zaJ p b.cell Cell.ghost):=by
 have h1:=zdP h (by omega);simp only[hk]at h1;rw[show(decide ((3:Int)=4))=false from rfl]at h1;have h2: ∀b∈r,sees p t b.cell=true:=fun b hb=>ziI h (by rw[hs];simp[hb])
 rw[kindOk,if_neg (by omega),if_neg (by omega),if_pos hk,storeOk,hs];simp only[h1,Bool.true_and]
 congr 1
 refine zdG fun b hb=> ?_
 rw[h2 b hb,Bool.and_true]
theorem zsN {p:Prog} {t:Int} {s:Step} (h:zcl p t s) (hk:s.kind=4):kindOk p t s=true:=by
 have h1:=zdP h (by omega);simp only[hk,decide_true]at h1;rw[kindOk,if_neg (by omega),if_neg (by omega),if_neg (by omega),if_pos hk,h1,Bool.true_and,List.all_eq_true];exact fun a ha=>ziI h ha
theorem znX {p:Prog} {t:Int} {s:Step} (hk:s.kind=2\/s.kind=3) (hs:s.set=[]):kindOk p t s=false:=by
 rcases hk with hk | hk
 ·rw[kindOk,if_neg (by omega),if_pos hk,loadOk,hs]
 ·rw[kindOk,if_neg (by omega),if_neg (by omega),if_pos hk,storeOk,hs]
def zgw (p:Prog) (s:Step):Prop:=s.guard.valid p.cells false=true/\ ∀a∈s.set,inR a.cell p.cells.length=true/\a.to.valid p.cells false=true
theorem valid_cell {p:Prog} {e:Expr} (h:e.valid p.cells false=true) (ho:e.op=2):inR e.n p.cells.length=true:=by
 have hf:e.formed=true:=by unfold Expr.valid at h;simp only[zF]at h;exact h.1
 have h0:=zek (deep_node (formed_deep hf));unfold Expr.valid at h;simp only[zF]at h;have:=Expr.allE_self h.2;unfold leafOk at this;simp only[ho]at this;rcases hy:p.cells[e.n.toNat]? with _ | y
 ·simp[hy]at this
 ·have:=(zH.1 hy).1;simp only[inR,decide_eq_true_eq];omega
end Rg
end
section
namespace Rg
open Go
theorem zld (p:Prog) (hct: ∀c∈p.cells,-1<=c.thread) (t:Int) (ht:0<=t) (s:Step) (hlen:s.set.length<2^48) (hr:zgw p s) (hk:1<=s.kind/\s.kind<=7):
 Den Γ G 137 [(.agg [.t (.sl ((p).cells.map (Cell.enc))),.t (.sl ((p).modules.map (Contract.enc))),.t (.sl ((p).locks.map (Lock.enc))),.t (.sl ((p).threads.map (Thread.enc)))]),vi t,(.agg [.t (ti (s).kind),.t (ti (s).fr),.t (ti (s).to),.t (ti ((s).guard).op),.t (ti ((s).guard).w),.t (ti ((s).guard).n),.t (.sl (((s).guard).kids.map Expr.enc)),.t (.sl ((s).set.map Assign.enc)),.t (tb (s).release),.t (ti (s).target),.t (ti (s).module)])]=some (vb (kindOk p t s)):=by
 (refine den_ofY Γ137 rfl ?_;dsimp only[f137])
 have hg:=zdt hct (valid_in hr.1) (decide (s.kind=4)) t (by omega) (.inr ht)
 have hno: ¬zcl p t s->false=kindOk p t s:=fun h0=>by
  cases h:kindOk p t s
  ·rfl
  ·exact absurd (kindOk_pre h hk) h0
 simp -dsimp only[go_sem,seval,hg];refine csplit (fun h=> ?_) (fun h=> ?_)<;>(try rw[h])<;>(try simp only[zab]at h)<;>(try simp -dsimp only[go_sem,seval])
 ·exact hno (fun h0=>by rw[h0.1]at h;simp at h)
 ·have hgd:overOk p s.guard (decide (s.kind=4)) t=true:=by assumption
  refine zaz 1180591620717142869568 s.set.length (fun i f=>(f 9).v=vi i/\ ∀(j:Nat) (a:Assign),j<i->s.set[j]? =some a->((0<j\/s.kind≠2)->overOk p a.to (decide (s.kind=4)) t=true)/\(ofThread p t a.cell=true\/ofThread p (-1) a.cell=true)) rfl rfl ⟨by simp -dsimp only[go_sem,seval],fun j a hj=>by omega⟩ ?_;rintro i f u kk bb hi ⟨h9,hpre⟩;have hw:=zah i (by omega);simp -dsimp only[go_sem,seval,h9];refine csplit (fun h=> ?_) (fun h=> ?_)<;>(try rw[h])<;>(try simp only[zab]at h)<;>(try simp -dsimp only[go_sem,seval,h9])
  ·obtain⟨a,ha,ham⟩:=zaf ‹i<s.set.length›;obtain⟨hin,hva⟩:=hr.2 a ham;have ho:=zdt hct (valid_in hva) (decide (s.kind=4)) t (by omega) (.inr ht);obtain⟨d0,x,hx⟩:=zaV hin;have hown:=zeh p a.cell t x d0 hx;have hsh:=zdd p a.cell x d0 hx;have o1:=zaS (t:=t) d0 hx;have o2:=zaS (t:= -1) d0 hx
   repeat'(refine csplit (fun h=> ?_) (fun h=> ?_)<;>(try rw[h])<;>(try simp only[zab]at h)<;>(try simp -dsimp only[go_sem,seval,h9,ha,ho,hown,hsh]))
   all_goals first
    | (refine hno (fun h0=> ?_)
       have h1:=h0.2 i a ha;rw[o1,o2]at h1;have h2:=h1.1;have h3:=h1.2
       simp_all
       done)
    | (refine⟨by omega,by simp -dsimp only[go_sem,seval,hw],fun j b hj hb=> ?_⟩
       by_cases hji:j=i
       ·subst hji;rw[ha]at hb;cases hb;rw[o1,o2]
        simp_all
        done
       ·exact hpre j b (by omega) hb)
    | skip
  ·have hie:i=s.set.length:=by omega
   have hP:zcl p t s:=⟨hgd,fun j a ha=>hpre j a (by rw[hie];exact(zH.1 ha).1) ha⟩
   clear hpre hg hno hgd;have hks:s.kind=1\/s.kind=2\/s.kind=3\/s.kind=4\/s.kind=5\/s.kind=6\/s.kind=7:=by omega
   rcases hks with k | k | k | k | k | k | k
   ·have hK:=zsQ hP k;simp -dsimp only[go_sem,seval,k];refine zaz 618951130176758658868709440 s.set.length (fun j f'=>(f' 11).v=vi j/\kindOk p t s=(s.set.drop j).all fun a=>ofThread p t a.cell) rfl rfl ⟨by simp -dsimp only[go_sem,seval],hK⟩ ?_;rintro j f' u' kk' bb' hj ⟨h11,hall⟩;have hw':=zah j (by omega);simp -dsimp only[go_sem,seval,h11];refine csplit (fun h=> ?_) (fun h=> ?_)<;>(try rw[h])<;>(try simp only[zab]at h)<;>(try simp -dsimp only[go_sem,seval,h11])
    ·obtain⟨a,ha,ham⟩:=zaf ‹j<s.set.length›;obtain⟨d0,x,hx⟩:=zaV (hr.2 a ham).1;have hown:=zeh p a.cell t x d0 hx;have o1:=zaS (t:=t) d0 hx;simp -dsimp only[go_sem,seval,h11,ha,hown];refine csplit (fun h=> ?_) (fun h=> ?_)<;>(try rw[h])<;>(try simp only[zab]at h)<;>(try simp -dsimp only[go_sem,seval,h11])
     ·rw[hall,zaM ha (by rw[o1];simpa using h)]
     ·refine⟨by omega,by simp -dsimp only[go_sem,seval,hw'],?_⟩;rw[hall,zaN ha (by rw[o1];simpa using h)]
    ·have:j=s.set.length:=by omega
     subst this;rw[hall,za0]
   ·rcases hs:s.set with _ | ⟨a,r⟩
    ·rw[znX (.inl k) hs];simp -dsimp only[go_sem,seval,k,hs]
    ·have hK:=zsP hP k hs;have hsl:s.set.length=r.length+1:=by rw[hs];rfl
     have h0:s.set[0]? =some a:=by rw[hs];rfl
     have ham:a∈s.set:=by rw[hs];simp
     obtain⟨d0,x,hx⟩:=zaV (hr.2 a ham).1;have hown:=zeh p a.cell t x d0 hx;have o1:=zaS (t:=t) d0 hx;have o2:=zaH (g:=Cell.ghost) hx;have hne: ¬(((r.length+1:Nat):Int)=0):=by omega
     simp -dsimp only[go_sem,seval,k,hsl,hne,h0,hown];refine csplit (fun h=> ?_) (fun h=> ?_)<;>(try rw[h])<;>(try simp only[zab]at h)<;>(try simp -dsimp only[go_sem,seval,k,hsl,h0,d0,hx])
     ·rw[hK,o1];simp[h]
     ·have e1:x.thread=t:=by assumption
      refine csplit (fun h=> ?_) (fun h=> ?_)<;>(try rw[h])<;>(try simp only[zab]at h)<;>(try simp -dsimp only[go_sem,seval,k,hsl,h0,d0,hx])
      ·rw[hK,o2];simp[h]
      ·have e2:x.ghost=false:=by assumption
       refine csplit (fun h=> ?_) (fun h=> ?_)<;>(try rw[h])<;>(try simp only[zab]at h)<;>(try simp -dsimp only[go_sem,seval,k,hsl,h0,d0,hx])
       ·rw[hK];simp[h]
       ·have e3:a.to.op=2:=by assumption
        obtain⟨d1,y,hy⟩:=zaV (valid_cell (hr.2 a ham).2 e3);have hsh:=zdd p a.to.n y d1 hy;have q1:=zaS (t:= -1) d1 hy;have q2:=zaH (g:=Cell.ghost) hy;simp -dsimp only[go_sem,seval,hsh];refine csplit (fun h=> ?_) (fun h=> ?_)<;>(try rw[h])<;>(try simp only[zab]at h)<;>(try simp -dsimp only[go_sem,seval,d1,hy])
        ·rw[hK,q1];simp[h]
        ·have e4:y.thread= -1:=by assumption
         refine csplit (fun h=> ?_) (fun h=> ?_)<;>(try rw[h])<;>(try simp only[zab]at h)<;>(try simp -dsimp only[go_sem,seval,d1,hy])
         ·rw[hK,q2];simp[h]
         ·rw[o1,o2,q1,q2]at hK;simp only[e1,e2,e3,e4,h,decide_true,Bool.not_false,Bool.and_true,Bool.true_and]at hK;refine zaz 748288836919625719212122688004754514023314867888192 r.length (fun j f'=>(f' 13).v=vi ((j+1:Nat):Int)/\kindOk p t s=(r.drop j).all fun b=>ofThread p t b.cell&&zaJ p b.cell Cell.ghost) rfl rfl ⟨by simp -dsimp only[go_sem,seval],hK⟩ ?_;rintro j f' u' kk' bb' hj ⟨h13,hall⟩;have hw':=zah (j+1) (by omega);simp -dsimp only[go_sem,seval,h13,hsl];refine csplit (fun h=> ?_) (fun h=> ?_)<;>(try rw[h])<;>(try simp only[zab]at h)<;>(try simp -dsimp only[go_sem,seval,h13,hsl])
          ·obtain⟨b,hb,hbr⟩:=zaf (show j<r.length by omega);have hb':s.set[j+1]? =some b:=by rw[hs];exact hb
           obtain⟨d2,z,hz⟩:=zaV (hr.2 b (by rw[hs];simp[hbr])).1;have hown':=zeh p b.cell t z d2 hz;have z1:=zaS (t:=t) d2 hz;have z2:=zaH (g:=Cell.ghost) hz;simp -dsimp only[go_sem,seval,h13,hb,hown']
           repeat'(refine csplit (fun h=> ?_) (fun h=> ?_)<;>(try rw[h])<;>(try simp only[zab]at h)<;>(try simp -dsimp only[go_sem,seval,h13,hb,d2,hz]))
           all_goals first
            | (rw[hall,zaM hb (by rw[z1,z2];simp[*])];done)
            | (refine⟨by omega,by simp -dsimp only[go_sem,seval,hw'],?_⟩
               rw[hall,zaN hb (by rw[z1,z2];simp[*])])
          ·have:j=r.length:=by omega
           subst this;rw[hall,za0]
   ·rcases hs:s.set with _ | ⟨a,r⟩
    ·rw[znX (.inr k) hs];simp -dsimp only[go_sem,seval,k,hs]
    ·have hK:=zsO hP k hs;have hsl:s.set.length=r.length+1:=by rw[hs];rfl
     have h0:s.set[0]? =some a:=by rw[hs];rfl
     have ham:a∈s.set:=by rw[hs];simp
     obtain⟨d0,x,hx⟩:=zaV (hr.2 a ham).1;have hsh:=zdd p a.cell x d0 hx;have o1:=zaS (t:= -1) d0 hx;have o2:=zaH (g:=Cell.ghost) hx;have hne: ¬(((r.length+1:Nat):Int)=0):=by omega
     simp -dsimp only[go_sem,seval,k,hsl,hne,h0,hsh];refine csplit (fun h=> ?_) (fun h=> ?_)<;>(try rw[h])<;>(try simp only[zab]at h)<;>(try simp -dsimp only[go_sem,seval,k,hsl,h0,d0,hx])
     ·rw[hK,o1];simp[h]
     ·have e1:x.thread= -1:=by assumption
      refine csplit (fun h=> ?_) (fun h=> ?_)<;>(try rw[h])<;>(try simp only[zab]at h)<;>(try simp -dsimp only[go_sem,seval,k,hsl,h0,d0,hx])
      ·rw[hK,o2];simp[h]
      ·rw[o1,o2]at hK;simp only[e1,h,decide_true,Bool.not_false,Bool.and_true,Bool.true_and]at hK;refine zaz 6581968012470941075173766043914016358599614643690763741118349376 r.length (fun j f'=>(f' 14).v=vi ((j+1:Nat):Int)/\kindOk p t s=(r.drop j).all fun b=>zaJ p b.cell Cell.ghost) rfl rfl ⟨by simp -dsimp only[go_sem,seval],hK⟩ ?_;rintro j f' u' kk' bb' hj ⟨h13,hall⟩;have hw':=zah (j+1) (by omega);simp -dsimp only[go_sem,seval,h13,hsl];refine csplit (fun h=> ?_) (fun h=> ?_)<;>(try rw[h])<;>(try simp only[zab]at h)<;>(try simp -dsimp only[go_sem,seval,h13,hsl])
       ·obtain⟨b,hb,hbr⟩:=zaf (show j<r.length by omega);have hb':s.set[j+1]? =some b:=by rw[hs];exact hb
        obtain⟨d2,z,hz⟩:=zaV (hr.2 b (by rw[hs];simp[hbr])).1;have z2:=zaH (g:=Cell.ghost) hz;simp -dsimp only[go_sem,seval,h13,hb,d2,hz];refine csplit (fun h=> ?_) (fun h=> ?_)<;>(try rw[h])<;>(try simp only[zab]at h)<;>(try simp -dsimp only[go_sem,seval,h13])
        ·rw[hall,zaM hb (by rw[z2];simp[h])]
        ·refine⟨by omega,by simp -dsimp only[go_sem,seval,hw'],?_⟩;rw[hall,zaN hb (by rw[z2];simp[h])]
       ·have:j=r.length:=by omega
        subst this;rw[hall,za0]
   ·rw[zsN hP k];simp -dsimp only[go_sem,seval,k]
   all_goals(
    have ho:=zmV;have hsame:=zhG s.guard;have hin:=zcq s.target p.threads.length
    have hkd:kindOk p t s=(if s.kind=5 then s.guard.one&&decide (s.set=[])else if s.kind=6 then joinOk p t s&&zbS p s.target else joinOk p t s):=by
     rw[kindOk,if_neg (by omega),if_neg (by omega),if_neg (by omega),if_neg (by omega)]
    simp only[k]at hkd;rw[show decide (s.guard.op=1/\s.guard.w=1/\s.guard.n=1/\s.guard.kids=[])=s.guard.one from rfl]at hsame
    by_cases hn:s.set=[]
    ·have hn0:s.set.length=0:=by rw[hn];rfl
     by_cases hit:inR s.target p.threads.length=true
     ·have hit':=hit;simp only[inR,decide_eq_true_eq]at hit';obtain⟨t0,t1⟩:=hit';obtain⟨y,hy⟩: ∃y,p.threads[s.target.toNat]? =some y:=⟨_,zI (by omega)⟩
      have hasl:zbS p s.target=y.asleep:=by simp[zbS,hy]
      rw[hit]at hin;simp -dsimp only[go_sem,seval,k,hn0,ho,hsame]
      repeat'(refine csplit (fun h=> ?_) (fun h=> ?_)<;>(try rw[h])<;>(try simp only[zab]at h)<;>(try simp -dsimp only[go_sem,seval,k,hin,t0,hy]))
      all_goals(
       rw[hkd]
       simp[joinOk, *])
     ·have hit:inR s.target p.threads.length=false:=by simpa using hit
      rw[hit]at hin;simp -dsimp only[go_sem,seval,k,hn0,ho,hsame]
      repeat'(refine csplit (fun h=> ?_) (fun h=> ?_)<;>(try rw[h])<;>(try simp only[zab]at h)<;>(try simp -dsimp only[go_sem,seval,k,hin]))
      all_goals(
       rw[hkd]
       simp[joinOk, *])
    ·have hn0:(s.set.length:Int)>0:=by have:=List.length_pos_iff.2 hn;omega
     simp -dsimp only[go_sem,seval,k,hn0];rw[hkd]
     simp[joinOk,hn])
end Rg
end
section
-- FULL
namespace Rg
open Go
theorem zcw {p:Prog} {set:List Assign}: ∀{l:List Assign} {i:Nat},(feGo (setErr p set) i l).1=0-> ∀a∈l,inR a.cell p.cells.length=true/\a.to.valid p.cells false=true
 | [],_,_,a,ha=>by simp at ha
 | x::r,i,h,a,ha=>by
   rw[feGo]at h;split at h
   ·rename_i h0;rcases List.mem_cons.1 ha with rfl | ha
    ·unfold setErr at h0;split at h0
     ·simp at h0
     ·rename_i h1;split at h0
      ·simp at h0
      ·rename_i h2;simp only[Bool.or_eq_true,not_or,Bool.not_eq_true',Bool.not_eq_false]at h1 h2;exact⟨h1.1,h2.1⟩
    ·exact zcw h a ha
   ·rename_i h0;exact absurd h h0
set_option maxHeartbeats 4000000 in
theorem zj8 (p:Prog) (hct: ∀c∈p.cells,-1<=c.thread) (t:Int) (ht:0<=t) (x:Thread) (hx:p.threads[t.toNat]? =some x) (hxp: -2^48<x.points/\x.points<2^48) (s:Step) (hlen:s.set.length<2^48):
 Den Γ G 114 [(.agg [.t (.sl ((p).cells.map (Cell.enc))),.t (.sl ((p).modules.map (Contract.enc))),.t (.sl ((p).locks.map (Lock.enc))),.t (.sl ((p).threads.map (Thread.enc)))]),vi t,(.agg [.t (ti (s).kind),.t (ti (s).fr),.t (ti (s).to),.t (ti ((s).guard).op),.t (ti ((s).guard).w),.t (ti ((s).guard).n),.t (.sl (((s).guard).kids.map Expr.enc)),.t (.sl ((s).set.map Assign.enc)),.t (tb (s).release),.t (ti (s).target),.t (ti (s).module)])]=some (vi (stepErr p t x.points s)):=by
 (refine den_ofY Γ114 rfl ?_;dsimp only[f114])
 have hw1:IntKind.i64.wrap (x.points-1)=x.points-1:=zan (by omega);have hi1:=zcq s.fr (x.points-1);have hi2:=zcq s.to x.points;have hi3:=zcq s.module p.modules.length;have hv:=zcO s.guard p.cells false;simp -dsimp [go_sem,ht,hx]
 by_cases hbad:zbl p x.points s=true
 ·rw[stepErr,if_pos hbad]
  repeat'(refine csplit (fun h=> ?_) (fun h=> ?_)<;>(try rw[h])<;>(try simp only[zab]at h)<;>(try simp -dsimp [go_sem,ht,hx,hw1,hi1,hi2,hi3]))
  all_goals(exfalso;simp only[zbl,Bool.or_eq_true,zF,Bool.not_eq_true',decide_eq_true_eq]at hbad;simp_all;try omega)
 ·have hse:stepErr p t x.points s=if !s.guard.valid p.cells false||decide (s.guard.w≠1)then 60 else if ¬(feGo (setErr p s.set) 0 s.set).1=0 then(feGo (setErr p s.set) 0 s.set).1 else if kindOk p t s then 0 else 70:=by rw[stepErr,if_neg hbad]
  have hb':zbl p x.points s=false:=by simpa using hbad
  simp only[zbl,Bool.or_eq_false_iff,Bool.and_eq_false_iff,Bool.not_eq_false',decide_eq_false_iff_not]at hb';obtain⟨⟨⟨⟨⟨⟨b1,b2⟩,b3⟩,b4⟩,b5⟩,b6⟩,b7⟩:=hb';rw[b3]at hi1;rw[b4]at hi2;rw[b5]at hi3
  have hcs: ∀Q:Prop,(∀(c3 c6 c7 r tz:Bool),decide (s.kind=6)=c6->decide (s.kind=7)=c7->decide (s.kind=3)=c3->s.release=r->decide (s.target=0)=tz->
   ((c6=true/\r=false)\/(c6=false/\c7=true/\r=false)\/(c6=false/\c7=false/\tz=true/\r=false)\/(c6=false/\c7=false/\tz=true/\r=true/\c3=true))->Q)->Q:=fun Q q=>by
   refine q _ _ _ _ _ rfl rfl rfl rfl rfl ?_;simp only[decide_eq_true_eq,decide_eq_false_iff_not]
   by_cases h6:s.kind=6<;>by_cases h7:s.kind=7<;>by_cases h3:s.kind=3<;>cases hr:s.release<;>by_cases hz:s.target=0<;>simp_all
  refine hcs _ (fun c3 c6 c7 r tz e6 e7 e3 er ez hc=> ?_);have hmid:s.guard.valid p.cells false=true->s.guard.w=1->stepErr p t x.points s=if ¬(feGo (setErr p s.set) 0 s.set).1=0 then(feGo (setErr p s.set) 0 s.set).1 else if kindOk p t s then 0 else 70:=fun g1 g2=>by rw[hse,if_neg (by simp[g1,g2])]
  have hg60:(s.guard.valid p.cells false=false\/ ¬s.guard.w=1)->stepErr p t x.points s=60:=fun g=>by rw[hse,if_pos (by rcases g with g | g<;>simp[g])]
  have b1':1<=s.kind/\s.kind<=7:=by omega
  have e3':(decide ¬s.kind=3)= !c3:=by rw[<- e3];simp
  have ez':(decide ¬s.target=0)= !tz:=by rw[<- ez];simp
  rcases hc with⟨rfl,rfl⟩ | ⟨rfl,rfl,rfl⟩ | ⟨rfl,rfl,rfl,rfl⟩ | ⟨rfl,rfl,rfl,rfl,rfl⟩
  all_goals(try cases tz)
  all_goals(try cases c3)
  all_goals(try(exfalso;simp only[decide_eq_true_eq]at e3 e6 e7;omega))
  all_goals(
   (try simp only[Bool.not_true,Bool.not_false]at e3' ez')
   simp -dsimp [go_sem,ht,hx,hw1,hi1,hi2,hi3,b1,b2,e6,e7,e3',ez',er,hv]
   repeat'(refine csplit (fun h=> ?_) (fun h=> ?_)<;>(try rw[h])<;>(try simp only[zab]at h)<;>(try simp -dsimp [go_sem,hv])))
  all_goals(try(rw[hg60 (.inl ‹_›)];done))
  all_goals(try(rw[hg60 (.inr ‹_›)];done))
  all_goals(
   have hmid:=hmid ‹_› ‹_›;have hgv:s.guard.valid p.cells false=true:=by assumption
   clear hcs hg60 hse hv hi1 hi2 hi3 e3' ez' er e3;refine zaz 89202980794122492256657863269248377299144256 s.set.length (fun i f=>(f 9).v=vi i/\feGo (setErr p s.set) 0 s.set=feGo (setErr p s.set) i (s.set.drop i)) rfl rfl ⟨by simp -dsimp [go_sem],rfl⟩ ?_;rintro i f u kk bb hi ⟨h9,hm⟩;have hw:=zah i (by omega);simp -dsimp [go_sem,h9];refine csplit (fun h=> ?_) (fun h=> ?_)<;>(try rw[h])<;>(try simp only[zab]at h)<;>(try simp -dsimp [go_sem,h9])
   ·obtain⟨a,ha,ham⟩:=zaf ‹i<s.set.length›;have hi1:=zcq a.cell p.cells.length
    have hstop: ∀k:Int,k≠0->setErr p s.set i a=k->stepErr p t x.points s=k:=fun k hk h0=>by
     have h2:=hm.trans (fe_stop ha (by rw[h0];exact hk));rw[hmid,h2,h0,if_pos hk]
    simp -dsimp [go_sem,h9,ha,hi1];refine csplit (fun h=> ?_) (fun h=> ?_)<;>(try rw[h])<;>(try simp only[zab]at h)<;>(try simp -dsimp [go_sem,h9])
    ·rw[hstop 70 (by decide) (by simp[setErr,h])]
    ·have hir:inR a.cell p.cells.length=true:=by assumption
     obtain⟨d0,y,hy⟩:=zaV hir;refine zaz 1329065736508086659540415482270058560 i (fun k f'=>(f' 11).v=vi k/\(s.set.take k).any (fun b=>decide (b.cell=a.cell))=false) rfl rfl ⟨by simp -dsimp [go_sem],by simp⟩ ?_;rintro k f' u' kk' bb' hk ⟨h11,hany⟩;have hw':=zah k (by omega);simp -dsimp [go_sem,h9,h11];refine csplit (fun h=> ?_) (fun h=> ?_)<;>(try rw[h])<;>(try simp only[zab]at h)<;>(try simp -dsimp [go_sem,h9,h11])
     ·obtain⟨d,hd,hdm⟩:=zaf (show k<s.set.length by omega);simp -dsimp [go_sem,h9,h11,hd];refine csplit (fun h=> ?_) (fun h=> ?_)<;>(try rw[h])<;>(try simp only[zab]at h)<;>(try simp -dsimp [go_sem,h9,h11])
      ·rw[hstop 70 (by decide) (by rw[setErr,if_pos (by rw[any_take_stop hd ‹k<i› (by simpa using h)];simp)])]
      ·refine⟨by omega,by simp -dsimp [go_sem,hw'],?_⟩;rw[zbi hd,hany];simpa using h
     ·have:k=i:=by omega
      subst this;have hv2:=zcO a.to p.cells false;have hci:=zaH (g:=fun x=>decide (a.to.w=x.w)) hy
      have hsx:setErr p s.set k a=if !a.to.valid p.cells false || !zaJ p a.cell (fun x=>decide (a.to.w=x.w))then 60 else 0:=by
       rw[setErr,if_neg (by rw[hir,hany];simp)]
      rw[hci]at hsx;simp -dsimp [go_sem,h9,ha,hv2];refine csplit (fun h=> ?_) (fun h=> ?_)<;>(try rw[h])<;>(try simp only[zab]at h)<;>(try simp -dsimp [go_sem,h9,ha,d0,hy])
      ·rw[hstop 60 (by decide) (by rw[hsx];simp[h])]
      ·have hvt:a.to.valid p.cells false=true:=by assumption
       refine csplit (fun h=> ?_) (fun h=> ?_)<;>(try rw[h])<;>(try simp only[zab]at h)<;>(try simp -dsimp [go_sem,h9,ha,d0,hy])
       ·rw[hstop 60 (by decide) (by rw[hsx];simp[h])]
       ·refine⟨by omega,by simp -dsimp [go_sem,hw],?_⟩;rw[hm,zbh ha (by rw[hsx];simp[h,hvt])]
   ·have:i=s.set.length:=by omega
    subst this;rw[zbQ]at hm;rw[hm,if_neg (by simp)]at hmid;have hkd:=zld p hct t ht s hlen ⟨hgv,zcw (i:=0) (set:=s.set) (by rw[hm])⟩ b1';simp -dsimp [go_sem,hkd];refine csplit (fun h=> ?_) (fun h=> ?_)<;>(try rw[h])<;>(try simp only[zab]at h)<;>(try simp -dsimp [go_sem])
    ·rw[hmid];simp[h]
    ·rw[hmid];simp[h])
end Rg
end
section
-- FULL
namespace Rg
open Go
set_option maxHeartbeats 4000000 in
theorem zhB (p:Prog) (hs:p.sane) (hcl:cellsM p=0) (t:Nat) (x:Thread) (hx:p.threads[t]? =some x) (hxp:x.points<2^48):
 Den Γ G 88 [(.agg [.t (.sl ((p).cells.map (Cell.enc))),.t (.sl ((p).modules.map (Contract.enc))),.t (.sl ((p).locks.map (Lock.enc))),.t (.sl ((p).threads.map (Thread.enc)))]),vi t]=some (.tup [vi (threadErr p t x).1,vi (threadErr p t x).2]):=by
 (refine den_ofY Γ88 rfl ?_;dsimp only[f88])
 have hct:=zcK hcl;have hxm:=List.mem_of_getElem? hx;obtain⟨s1,s2,s3,s4,s5⟩:=hs.thr x hxm;have hl:=zcY x.name s1;have ht0:(0:Int)<=(t:Int):=by omega
 have htl:t<p.threads.length:=(zH.1 hx).1;have hpl:=hs.threads;have hx':p.threads[(t:Int).toNat]? =some x:=by simpa using hx
 simp -dsimp [go_sem,ht0,hx,hl];refine csplit (fun h=> ?_) (fun h=> ?_)<;>(try rw[h])<;>(try simp only[zab]at h)<;>(try simp -dsimp [go_sem])
 ·have:threadErr p t x=(1,-1):=by rw[threadErr,if_pos (by simp[h])]
  rw[this];simp
 ·have e1:isLabel x.name=true:=by assumption
  refine zaz 274861129904 t (fun k f=>(f 7).v=vi k/\(p.threads.take k).any (fun d=>d.name.toList==x.name.toList)=false) rfl rfl ⟨by simp -dsimp [go_sem],by simp⟩ ?_;rintro k f u kk bb hk ⟨h7,hany⟩;have hw:=zah k (by omega);simp -dsimp [go_sem,h7];refine csplit (fun h=> ?_) (fun h=> ?_)<;>(try rw[h])<;>(try simp only[zab]at h)<;>(try simp -dsimp [go_sem,h7])
  ·obtain⟨d,hd,hdm⟩:=zaf (show k<p.threads.length by omega);simp -dsimp [go_sem,h7,hd];refine csplit (fun h=> ?_) (fun h=> ?_)<;>(try rw[h])<;>(try simp only[zab]at h)<;>(try simp -dsimp [go_sem,h7])
   ·have:threadErr p t x=(41,-1):=by rw[threadErr,if_neg (by simp[e1]),if_pos (any_take_stop hd ‹k<t› (by simpa using h))]
    rw[this];simp
   ·refine⟨by omega,by simp -dsimp [go_sem,hw],?_⟩;rw[zbi hd,hany];simpa using h
  ·have:k=t:=by omega
   subst this
   by_cases hpt:x.points<1\/ ¬(x.asserts.length:Int)=x.points\/ ¬(x.modules.length:Int)=x.points
   ·have:threadErr p k x=(1,-1):=by rw[threadErr,if_neg (by simp[e1]),if_neg (by simp[hany]),if_pos hpt]
    rw[this]
    repeat'(refine csplit (fun h=> ?_) (fun h=> ?_)<;>(try rw[h])<;>(try simp only[zab]at h)<;>(try simp -dsimp [go_sem]))
    all_goals(exfalso;omega)
   ·have g1: ¬x.points<1:=by omega
    have g2:(x.asserts.length:Int)=x.points:=by omega
    have g3:(x.modules.length:Int)=x.points:=by omega
    have hth:threadErr p k x=if !x.modules.all (fun m=>inR m p.modules.length)then(1,-1)
     else if !x.asserts.all (fun e=>truthOk p e false k)then(60,-1)
     else if ¬(feGo (fun _ s=>stepErr p k x.points s) 0 x.steps).1=0 then feGo (fun _ s=>stepErr p k x.points s) 0 x.steps
     else((feGo (fun _ l=>zaA p k x.points l) 0 x.loops).1,-1):=by
     rw[threadErr,if_neg (by simp[e1]),if_neg (by simp[hany]),if_neg hpt]
    have g2':decide (¬(x.asserts.length:Int)=x.points)=false:=by simp[g2]
    have g3':decide (¬(x.modules.length:Int)=x.points)=false:=by simp[g3]
    simp -dsimp [go_sem,g1,g2',g3'];refine zaz 18889321816290504999216 x.modules.length (fun i f=>(f 8).v=vi i/\x.modules.all (fun m=>inR m p.modules.length)=(x.modules.drop i).all (fun m=>inR m p.modules.length)) rfl rfl ⟨by simp -dsimp [go_sem],rfl⟩ ?_;rintro i f u kk bb hi ⟨h8,hall⟩;have hw:=zah i (by omega);simp -dsimp [go_sem,h8];refine csplit (fun h=> ?_) (fun h=> ?_)<;>(try rw[h])<;>(try simp only[zab]at h)<;>(try simp -dsimp [go_sem,h8])
    ·obtain⟨m,hm,_⟩:=zaf ‹i<x.modules.length›;have hin:=zcq m p.modules.length;simp -dsimp [go_sem,h8,hm,hin];refine csplit (fun h=> ?_) (fun h=> ?_)<;>(try rw[h])<;>(try simp only[zab]at h)<;>(try simp -dsimp [go_sem,h8])
     ·have:threadErr p k x=(1,-1):=by rw[hth,hall,zaM hm h];simp
      rw[this];simp
     ·refine⟨by omega,by simp -dsimp [go_sem,hw],?_⟩;rw[hall,zaN hm h]
    ·have:i=x.modules.length:=by omega
     subst this;rw[za0]at hall;rw[hall]at hth;simp only[Bool.not_true,zG,if_false]at hth;clear hall h8 hw;refine zaz 1237921149819448796318270000 x.asserts.length (fun i f=>(f 9).v=vi i/\x.asserts.all (fun e=>truthOk p e false k)=(x.asserts.drop i).all (fun e=>truthOk p e false k)) rfl rfl ⟨by simp -dsimp [go_sem],rfl⟩ ?_;rintro i f u kk bb hi ⟨h9,hall⟩;have hw:=zah i (by omega);simp -dsimp [go_sem,h9];refine csplit (fun h=> ?_) (fun h=> ?_)<;>(try rw[h])<;>(try simp only[zab]at h)<;>(try simp -dsimp [go_sem,h9])
     ·obtain⟨e,he,_⟩:=zaf ‹i<x.asserts.length›;have htr:=zcP hct e false k (by omega);simp -dsimp [go_sem,h9,he,htr];refine csplit (fun h=> ?_) (fun h=> ?_)<;>(try rw[h])<;>(try simp only[zab]at h)<;>(try simp -dsimp [go_sem,h9])
      ·have:threadErr p k x=(60,-1):=by rw[hth,hall,zaM he h];simp
       rw[this];simp
      ·refine⟨by omega,by simp -dsimp [go_sem,hw],?_⟩;rw[hall,zaN he h]
     ·have:i=x.asserts.length:=by omega
      subst this;rw[za0]at hall;rw[hall]at hth;simp only[Bool.not_true,zG,if_false]at hth;clear hall h9 hw;refine zaz 649035869376814168186037142031408 x.steps.length (fun i f=>(f 10).v=vi i/\feGo (fun _ s=>stepErr p k x.points s) 0 x.steps=feGo (fun _ s=>stepErr p k x.points s) i (x.steps.drop i)) rfl rfl ⟨by simp -dsimp [go_sem],rfl⟩ ?_;rintro i f u kk bb hi ⟨h10,hm⟩;have hw:=zah i (by omega);simp -dsimp [go_sem,h10];refine csplit (fun h=> ?_) (fun h=> ?_)<;>(try rw[h])<;>(try simp only[zab]at h)<;>(try simp -dsimp [go_sem,h10])
      ·obtain⟨s,hsx,hsm⟩:=zaf ‹i<x.steps.length›;have hst:=zj8 p hct k ht0 x hx' ⟨by omega,hxp⟩ s (hs.sets x hxm s hsm);simp -dsimp [go_sem,h10,hsx,hst];refine csplit (fun h=> ?_) (fun h=> ?_)<;>(try rw[h])<;>(try simp only[zab]at h)<;>(try simp -dsimp [go_sem,h10])
       ·have h2:=hm.trans (fe_stop hsx (by simpa using h));have:threadErr p k x=(stepErr p k x.points s,(i:Int)):=by rw[hth,h2,if_pos (by simpa using h)]
        rw[this];simp
       ·refine⟨by omega,by simp -dsimp [go_sem,hw],?_⟩;rw[hm,zbh hsx (by simpa using h)]
      ·have:i=x.steps.length:=by omega
       subst this;rw[zbQ]at hm;rw[hm,if_neg (by simp)]at hth;clear hm h10 hw;refine zaz 11972621413014756705275549042294937043455087350935600 x.loops.length (fun i f=>(f 12).v=vi i/\feGo (fun _ l=>zaA p k x.points l) 0 x.loops=feGo (fun _ l=>zaA p k x.points l) i (x.loops.drop i)) rfl rfl ⟨by simp -dsimp [go_sem],rfl⟩ ?_;rintro i f u kk bb hi ⟨h12,hm⟩;have hw:=zah i (by omega);simp -dsimp [go_sem,h12];refine csplit (fun h=> ?_) (fun h=> ?_)<;>(try rw[h])<;>(try simp only[zab]at h)<;>(try simp -dsimp [go_sem,h12])
       ·obtain⟨l,hlx,hlm⟩:=zaf ‹i<x.loops.length›;have hbl:=hs.loops x hxm l hlm
        have hstop: ∀k':Int,k'≠0->zaA p k x.points l=k'->threadErr p k x=(k',-1):=fun k' hk' h0=>by
         have h2:=hm.trans (fe_stop (f:=fun _ l=>zaA p k x.points l) hlx (by rw[h0];exact hk'));rw[hth,h2,h0]
        have hin:=zcq l.head x.points;have hri:=zfr l.body (by omega);simp -dsimp [go_sem,h12,hlx,hin];refine csplit (fun h=> ?_) (fun h=> ?_)<;>(try rw[h])<;>(try simp only[zab]at h)<;>(try simp -dsimp [go_sem,h12,hri])
        ·rw[hstop 1 (by decide) (by simp[zaA,h])];simp
        ·have f1:inR l.head x.points=true:=by assumption
         refine csplit (fun h=> ?_) (fun h=> ?_)<;>(try rw[h])<;>(try simp only[zab]at h)<;>(try simp -dsimp [go_sem,h12])
         ·rw[hstop 1 (by decide) (by simp[zaA,h])];simp
         ·have f2:rising l.body=true:=by assumption
          refine zaz 730750807776415717631811585530154072011383521328 l.body.length (fun j f'=>(f' 14).v=vi j/\l.body.all (fun q=>inR q x.points&&decide (q≠l.head))=(l.body.drop j).all (fun q=>inR q x.points&&decide (q≠l.head))) rfl rfl ⟨by simp -dsimp [go_sem],rfl⟩ ?_;rintro j f' u' kk' bb' hj ⟨h14,hall⟩;have hw':=zah j (by omega);simp -dsimp [go_sem,h14];refine csplit (fun h=> ?_) (fun h=> ?_)<;>(try rw[h])<;>(try simp only[zab]at h)<;>(try simp -dsimp [go_sem,h14])
          ·obtain⟨q,hq,_⟩:=zaf ‹j<l.body.length›;have hinq:=zcq q x.points;simp -dsimp [go_sem,h14,hq,hinq]
           repeat'(refine csplit (fun h=> ?_) (fun h=> ?_)<;>(try rw[h])<;>(try simp only[zab]at h)<;>(try simp -dsimp [go_sem,h14,hq]))
           all_goals first
            | (rw[hstop 1 (by decide) (by rw[zaA,if_pos (by rw[hall,zaM hq (by simp_all)];simp)])];simp;done)
            | (refine⟨by omega,by simp -dsimp [go_sem,hw'],?_⟩
               rw[hall,zaN hq (by simp_all)])
          ·have:j=l.body.length:=by omega
           subst this;rw[za0]at hall
           have hle:zaA p k x.points l=if !l.variant.valid p.cells false || !overOk p l.variant true k then 60 else 0:=by
            rw[zaA,if_neg (by rw[hall,f1,f2];simp)]
           have hv:=zcO l.variant p.cells false;cases hvv:l.variant.valid p.cells false
           ·rw[hvv]at hv;simp -dsimp [go_sem,h12,hv];rw[hstop 60 (by decide) (by rw[hle];simp[hvv])];simp
           ·rw[hvv]at hv;have hov:=zdt hct (valid_in hvv) true k (by omega) (.inl rfl);simp -dsimp [go_sem,h12,hv,hov];refine csplit (fun h=> ?_) (fun h=> ?_)<;>(try rw[h])<;>(try simp only[zab]at h)<;>(try simp -dsimp [go_sem,h12])
            ·rw[hstop 60 (by decide) (by rw[hle];simp[h])];simp
            ·refine⟨by omega,by simp -dsimp [go_sem,hw],?_⟩;rw[hm,zbh hlx (by rw[hle];simp[h,hvv])]
       ·have:i=x.loops.length:=by omega
        subst this;rw[zbQ]at hm;rw[hth,hm];simp
end Rg
end
section
-- FULL
namespace Rg
open Go
theorem zdw {p:Prog} (h:(limitsM p).1=0):(p.cells.length<=32/\p.modules.length<=6/\p.locks.length<=4/\p.threads.length<=4)/\ ∀x∈p.threads,x.points<=48/\x.steps.length<=64/\x.loops.length<=8:=by
 unfold limitsM at h;split at h
 ·simp at h
 ·rename_i hb;refine⟨by omega,?_⟩
  have key: ∀(l:List Thread) (i:Nat),(feGo (fun _ x=>if zao x then 2 else 0) i l).1=0-> ∀x∈l,zao x=false:=by
   intro l
   induction l with
   | nil=>intro i _ c hc;simp at hc
   | cons x r ih=>
     intro i h c hc;rw[feGo]at h;cases hb:zao x
     ·rw[hb,if_pos (by simp)]at h;rcases List.mem_cons.1 hc with rfl | hc
      ·exact hb
      ·exact ih _ h c hc
     ·rw[hb,if_neg (by simp)]at h;simp at h
  intro x hx;have:=key _ 0 h x hx;simp only[zao,Bool.or_eq_false_iff,decide_eq_false_iff_not]at this;omega
theorem zjf (p:Prog) (hs:p.sane):Den Γ G 65 [(.agg [.t (.sl ((p).cells.map (Cell.enc))),.t (.sl ((p).modules.map (Contract.enc))),.t (.sl ((p).locks.map (Lock.enc))),.t (.sl ((p).threads.map (Thread.enc)))])]=some (.tup [vi (validM p).1,vi (validM p).2.1,vi (validM p).2.2]):=by
 (refine den_ofY Γ65 rfl ?_;dsimp only[f65])
 have h1:=zhU p hs;simp -dsimp [go_sem,h1];refine csplit (fun h=> ?_) (fun h=> ?_)<;>(try rw[h])<;>(try simp only[zab]at h)<;>(try simp -dsimp [go_sem])
 ·have h0: ¬(limitsM p).1=0:=by simpa using h
  have:validM p=((limitsM p).1,(limitsM p).2,-1):=by rw[validM,if_pos h0]
  rw[this];simp
 ·have h0:(limitsM p).1=0:=by simpa using h
  obtain⟨⟨l1,l2,l3,l4⟩,l5⟩:=zdw h0
  have hv1:validM p=if ¬cellsM p=0 then(cellsM p,-1,-1)else if ¬modulesM p=0 then(modulesM p,-1,-1)else if ¬locksM p=0 then(locksM p,-1,-1)else thrGo p 0 p.threads:=by
   rw[validM,if_neg (by simpa using h0)]
  have c1:=zjO p hs;refine zbg ?_;simp -dsimp [go_sem,c1];refine csplit (fun h=> ?_) (fun h=> ?_)<;>(try rw[h])<;>(try simp only[zab]at h)<;>(try simp -dsimp [go_sem])
  ·have:validM p=(cellsM p,-1,-1):=by rw[hv1,if_pos (by simpa using h)]
   rw[this];simp
  ·have h2:cellsM p=0:=by simpa using h
   have c2:=zgY p hs h2;have c3:=zjr p hs h2;rw[if_neg (by simpa using h2)]at hv1;refine zbg ?_;simp -dsimp [go_sem,c2];refine csplit (fun h=> ?_) (fun h=> ?_)<;>(try rw[h])<;>(try simp only[zab]at h)<;>(try simp -dsimp [go_sem])
   ·have:validM p=(modulesM p,-1,-1):=by rw[hv1,if_pos (by simpa using h)]
    rw[this];simp
   ·have h3:modulesM p=0:=by simpa using h
    rw[if_neg (by simpa using h3)]at hv1;refine zbg ?_;simp -dsimp [go_sem,c3];refine csplit (fun h=> ?_) (fun h=> ?_)<;>(try rw[h])<;>(try simp only[zab]at h)<;>(try simp -dsimp [go_sem])
    ·have:validM p=(locksM p,-1,-1):=by rw[hv1,if_pos (by simpa using h)]
     rw[this];simp
    ·have h4:locksM p=0:=by simpa using h
     rw[if_neg (by simpa using h4)]at hv1;refine zbg ?_;simp -dsimp [go_sem];refine zaz 288229276640085788 p.threads.length (fun i f=>(f 8).v=vi i/\validM p=thrGo p i (p.threads.drop i)) rfl rfl ⟨by simp -dsimp [go_sem],hv1⟩ ?_;rintro i f u kk bb hi ⟨h8,hm⟩;have hw:=zah i (by omega);simp -dsimp [go_sem,h8];refine csplit (fun h=> ?_) (fun h=> ?_)<;>(try rw[h])<;>(try simp only[zab]at h)<;>(try simp -dsimp [go_sem,h8])
     ·obtain⟨x,hx,hxm⟩:=zaf ‹i<p.threads.length›;have hth:=zhB p hs h2 i x hx (by have:=(l5 x hxm).1;omega);simp -dsimp [go_sem,h8,hth];refine csplit (fun h=> ?_) (fun h=> ?_)<;>(try rw[h])<;>(try simp only[zab]at h)<;>(try simp -dsimp [go_sem,h8])
      ·rw[hm,ziq hx (by simpa using h)];simp
      ·refine⟨by omega,by simp -dsimp [go_sem,hw],?_⟩;rw[hm,zir hx (by simpa using h)]
     ·have:i=p.threads.length:=by omega
      subst this;rw[hm,zj3];simp
end Rg
end

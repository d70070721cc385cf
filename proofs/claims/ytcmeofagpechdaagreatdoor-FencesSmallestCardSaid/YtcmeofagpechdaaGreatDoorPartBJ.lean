/- Part of the proof of laws of relyguardlaw31. No condition. -/
import Derived.Test.YtcmeofagpechdaaGreatDoorPartBI
set_option linter.unusedSimpArgs false
set_option linter.unusedVariables false
section
namespace Rg
open Go
theorem zwS {p:Prog} (h:p.r31) {m:Int} (hm:m=0\/m=1\/m=2): ∃(l:List Pl) (e:Int),Den Γ G 403 [(.agg [.t (.sl ((p).cells.map (Cell.enc))),.t (.sl ((p).modules.map (Contract.enc))),.t (.sl ((p).locks.map (Lock.enc))),.t (.sl ((p).threads.map (Thread.enc)))]),vi m]=some (.tup [.t (.sl (l.map Pl.enc)),vi e])/\(e=0\/e=310)/\(∀c,minM p m=some c->l=c/\e=0):=by
 cases hc:minM p m with
 | none=>exact⟨[],310,zgd h hm hc,.inr rfl,fun c hc=>by cases hc⟩
 | some c=>exact⟨c,0,zdv h hm hc,.inl rfl,fun c' hc'=>by cases hc';exact⟨rfl,rfl⟩⟩
set_option maxHeartbeats 4000000
theorem lawSmallest31_den (p:Prog) (hl:p.lite) (ks:List Int) (hks: ∀k∈ks,0<=k/\k<256) (k:Int) (hk:0<=k/\k<256):Den Γ G 396 [(.agg [.t (.sl ((p).cells.map (Cell.enc))),.t (.sl ((p).modules.map (Contract.enc))),.t (.sl ((p).locks.map (Lock.enc))),.t (.sl ((p).threads.map (Thread.enc)))]),.t (bytesT ks),.t (.int .u8 k)]=some (vb true):=by
 have ht:=zio p hl;have hlb:(ks.map fun n=>[T.int .u8 n]).length=ks.length:=by simp
 (refine den_ofY Γ396 rfl ?_;dsimp only[zw5])
 simp -dsimp only[go_sem,seval,zfK,ht];cases hg:tinyM p
 ·simp -dsimp only[go_sem,seval]
 ·have hr:p.r31:=by
   simp only[tinyM,zF]at hg;exact few_r31 hl hg.1.1 hg.1.2
  simp -dsimp only[go_sem,seval,hlb]
  by_cases h6:(ks.length:Int)>6
  ·have h61:=eq_true h6;simp -dsimp only[go_sem,seval,h61]
  ·have h61:=eq_false h6;obtain⟨m,hm⟩: ∃m,m=k.tmod 3:=⟨_,rfl⟩
   have hm3:=zt4 k hk.1;have hw:IntKind.i64.wrap k=k:=zan (by omega);rw[<- hm]at hm3;have hwm:IntKind.i64.wrap m=m:=zan (by omega);have hpd:=zwB p hr.ok ks hks (by omega);obtain⟨l,hl'⟩: ∃l,l=placesM p ks:=⟨_,rfl⟩
   have hll:l.length<2^20:=by rw[hl'];exact Nat.lt_of_le_of_lt (places_len p ks) (by omega)
   have hpl: ∀x∈l,znZ p x:=by rw[hl'];exact zwE
   rw[<- hl']at hpd;have hpt:=zwA p hr.ok l hll hpl;have hin:=zwt p hr.ok hr.sane hr.smE l hll hpl;obtain⟨c,e,hmd,he,hce⟩:=zwS hr hm3;have e01:(e=0\/e=310):=he;simp -dsimp only[go_sem,seval,h61,hw,<- hm,hwm,hpd,hpt,hmd];cases hL:zhW (ptB p l) p
   ·rw[show insM p l=(p.ins (ptB p l),0)by rw[insM,hL];rfl]at hin;have hrb:=hr.rob (ptB p l) m;cases hR:robM (p.ins (ptB p l)) m
    ·rw[hR]at hrb;rcases he with rfl | rfl
     ·simp -dsimp only[go_sem,seval,hin,hrb]
     ·simp -dsimp only[go_sem,seval,hin,hrb]
    ·rw[hR]at hrb
     by_cases h4:((ptsM p l:Nat):Int)>4
     ·have h41:=eq_true h4;rcases he with rfl | rfl
      ·simp -dsimp only[go_sem,seval,hin,hrb,h41]
      ·simp -dsimp only[go_sem,seval,hin,hrb,h41]
     ·have h41:=eq_false h4;obtain⟨c',hc',hlen⟩:=zws hr.ok hpl hL hR (by omega);obtain⟨rfl,rfl⟩:=hce c' hc';have hle:((c.length:Int)<=(ptsM p l:Nat))=True:=eq_true (by omega);simp -dsimp only[go_sem,seval,hin,hrb,h41,hle]
   ·rw[show insM p l=(zeroP,2)by rw[insM,hL];rfl]at hin;rcases he with rfl | rfl
    ·simp -dsimp only[go_sem,seval,hin]
    ·simp -dsimp only[go_sem,seval,hin]
end Rg
end

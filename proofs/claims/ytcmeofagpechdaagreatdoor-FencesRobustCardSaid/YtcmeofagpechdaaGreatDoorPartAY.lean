/- Part of the proof of laws of relyguardlaw31. No condition. -/
import Derived.Test.YtcmeofagpechdaaGreatDoorPartAX
set_option linter.unusedSimpArgs false
set_option linter.unusedVariables false
section
namespace Rg
open Go
theorem zt4 (m:Int) (h:0<=m):m.tmod 3=0\/m.tmod 3=1\/m.tmod 3=2:=by
 rw[Int.tmod_eq_emod_of_nonneg h];omega
theorem Prog.r31.rob {p:Prog} (h:p.r31) (B:Nat->Nat->Bool) (m:Int):Den Γ G 289 [(.agg [.t (.sl ((p.ins B).cells.map (Cell.enc))),.t (.sl ((p.ins B).modules.map (Contract.enc))),.t (.sl ((p.ins B).locks.map (Lock.enc))),.t (.sl ((p.ins B).threads.map (Thread.enc)))]),vi m]=some (.t (tb (robM (p.ins B) m))):=
 zcT (p.ins B) (ins_sane h.ok h.sane B) (ins_set h.set B) m
theorem zmW {p:Prog} (hp:p.ok) {m:Int} (h:minM p m=none):robM p m=false:=by
 have h1:=zg0 h (List.nil_sublist _) (by simp);have h0:ptB p []=fun _ _=>false:=by funext t n;rfl
 unfold goodSet at h1;rw[h0,ziO hp,ziR hp]at h1;simpa using h1
set_option maxHeartbeats 4000000
theorem lawRobust31_den (p:Prog) (hl:p.lite) (k:Int) (hk:0<=k/\k<256):Den Γ G 395 [(.agg [.t (.sl ((p).cells.map (Cell.enc))),.t (.sl ((p).modules.map (Contract.enc))),.t (.sl ((p).locks.map (Lock.enc))),.t (.sl ((p).threads.map (Thread.enc)))]),.t (.int .u8 k)]=some (vb true):=by
 have ht:=zio p hl
 (refine den_ofY Γ395 rfl ?_;dsimp only[zru])
 simp -dsimp only[go_sem,seval,zfK,ht];cases hg:tinyM p
 ·simp -dsimp only[go_sem,seval]
 ·have hr:p.r31:=by
   simp only[tinyM,zF]at hg;exact few_r31 hl hg.1.1 hg.1.2
  obtain⟨m,hm⟩: ∃m,m=k.tmod 3:=⟨_,rfl⟩
  have hm3:=zt4 k hk.1;have hw:IntKind.i64.wrap k=k:=zan (by omega);rw[<- hm]at hm3;have hwm:IntKind.i64.wrap m=m:=zan (by omega);simp -dsimp only[go_sem,seval,hw,<- hm,hwm]
  cases hmn:minM p m with
  | none=>
    have m0:=zgd hr hm3 hmn;have hrb:=zcT p hr.sane hr.set m;rw[zmW hr.ok hmn]at hrb
    simp -dsimp only[go_sem,seval,m0,hrb]
  | some l=>
    have m0:=zdv hr hm3 hmn;obtain⟨h1,h2,h3⟩:=zeG hmn;have hpl: ∀x∈l,znZ p x:=fun x hx=>zlX (h1.subset hx)
    unfold goodSet at h3;rw[zF,Bool.not_eq_true']at h3;have i0:=zdX p hr.ok hr.sane hr.smE l (by omega) hpl;rw[show insM p l=(p.ins (ptB p l),0)by rw[insM,h3.1];rfl]at i0;have r0:=hr.rob (ptB p l) m;rw[h3.2]at r0;have hl4: ¬((l.length:Int)>4):=by omega
    simp -dsimp only[go_sem,seval,m0,i0,r0,hl4];refine zaz 77371215561848119762106384 l.length (fun i f=>(f 11).v=vi i) rfl rfl (by simp -dsimp only[go_sem,seval]) ?_;rintro i f u x bs hi h11;have hwi:=zah i (by omega);simp -dsimp only[go_sem,seval,h11]
    by_cases hlt:i<l.length
    ·have hlt1:=eq_true hlt;have w0:=zhx l i (by omega);obtain⟨d1,d2⟩:=zk0 hmn hlt;have hsub:(l.eraseIdx i).Sublist l:=List.eraseIdx_sublist _ _;have i1:=zdX p hr.ok hr.sane hr.smE (l.eraseIdx i) (Nat.lt_of_le_of_lt hsub.length_le (by omega)) fun x hx=>hpl x (hsub.subset hx)
     rw[d1]at i1;have r1:=hr.rob (ptB p (l.eraseIdx i)) m;rw[d2]at r1;simp -dsimp only[go_sem,seval,h11,hlt1,w0,i1,r1];exact⟨hlt,by simp -dsimp only[go_sem,seval,hwi]⟩
    ·have hlt1:=eq_false hlt;simp -dsimp only[go_sem,seval,h11,hlt1]
end Rg
end

/- Part of the proof of the laws of the package relyguardlaw07: an abstract machine for the program's functions, what they compute, and that the machine is the program's. No condition. (H31b H32f H36a) -/
import Derived.Test.YtamaecmfhphpeaaGreatDoorPartBD
import Derived.Test.YtamaecmfhphpeaaGreatDoorPartBE
set_option linter.unusedSimpArgs false
set_option linter.unusedVariables false
section
set_option maxRecDepth 100000
namespace Rg
open Go
theorem cellL_den (c w:Int):Den Γ G 237 [vi c,vi w]=some (.agg [.t (ti (Expr.mk 2 w c []).op), .t (ti (Expr.mk 2 w c []).w), .t (ti (Expr.mk 2 w c []).n), .t (.sl ((Expr.mk 2 w c []).kids.map (Expr.enc)))]):=by
 (refine den_ofY Γ237 rfl ?_; dsimp only [f237])
 have h1:=cell_den c w
 simp -dsimp -implicitDefEqProofs only [go_sem,seval,h1]
theorem old_den (c w:Int):Den Γ G 238 [vi c,vi w]=some (.agg [.t (ti (Expr.mk 3 w c []).op), .t (ti (Expr.mk 3 w c []).w), .t (ti (Expr.mk 3 w c []).n), .t (.sl ((Expr.mk 3 w c []).kids.map (Expr.enc)))]):=by
 (refine den_ofY Γ238 rfl ?_; dsimp only [f238])
 simp -dsimp -implicitDefEqProofs only [go_sem,seval]
theorem found_den (p:Prog) (hs:p.sane) (e t s:Int):Den Γ G 235 [(.agg [.t (.sl ((p).cells.map (Cell.enc))), .t (.sl ((p).modules.map (Contract.enc))), .t (.sl ((p).locks.map (Lock.enc))), .t (.sl ((p).threads.map (Thread.enc)))]),vi e,vi t,vi s]=some (vb (decide (validM p=(e,t,s)))):=by
 (refine den_ofY Γ235 rfl ?_; dsimp only [f235])
 have h1:=validP7_den p hs
 generalize hv:validM p=v at h1
 obtain ⟨a,b,c⟩:=v
 by_cases ha:a=e
 ·by_cases hb:b=t
  ·by_cases hc:c=s
   ·simp -dsimp -implicitDefEqProofs only [go_sem,seval,h1,ha,hb,hc,decide_true]
   ·simp -dsimp -implicitDefEqProofs only [go_sem,seval,h1,ha,hb,hc,decide_true,decide_false]
    simp [hc]
  ·simp -dsimp -implicitDefEqProofs only [go_sem,seval,h1,ha,hb,decide_true,decide_false]
   simp [hb]
 ·simp -dsimp -implicitDefEqProofs only [go_sem,seval,h1,ha,decide_true,decide_false]
  simp [ha]
def exE:Expr:=.mk 1 1 1 []
def exP (nm:ByteArray) (fr:Int) (to as1:Expr):Prog :=
 ⟨[⟨nm,2,0, -1,false,0⟩,⟨bs [114],2,0,0,false,0⟩],
  [⟨bs [77],bs [65,110,110], .mk 0 0 0 [],exE,[0]⟩],[],
  [⟨bs [116],2,[exE,as1],[0,0],[⟨2,fr,1,exE,[⟨1,to⟩],false,0,0⟩],[],false⟩]⟩
def exStep:Step:=⟨2,0,1,exE,[⟨1, .mk 2 2 0 []⟩],false,0,0⟩
def rowE (e:Expr):List V:=[.t (ti e.op), .t (ti e.w), .t (ti e.n), .t (.sl (e.kids.map Expr.enc))]
structure Ex7 (z:Nat->Bool) (h:Nat->Option O) (a:Nat) (nm:ByteArray) (fr:Int) (to as1:Expr):Prop where
 k7:h (a+7)=some (.rows 5 [.t (ti 1)::rowE to] (z 0))
 k13:h (a+13)=some (.rows 6 [[.t (.str nm), .t (ti 2), .t (ti 0), .t (ti (-1)), .t (tb false), .t (ti 0)],[.t (.str (bs [114])), .t (ti 2), .t (ti 0), .t (ti 0), .t (tb false), .t (ti 0)]] (z 1))
 k15:h (a+15)=some (.rows 1 [[.t (ti 0)]] (z 2))
 k17:h (a+17)=some (.rows 11 [[.t (.str (bs [77])), .t (.str (bs [65,110,110])), .t (ti 0), .t (ti 0), .t (ti 0), .t .nils, .t (ti 1), .t (ti 1), .t (ti 1), .t (.sl []), .ms (a+15) 0 1]] (z 3))
 k20:h (a+20)=some (.rows 4 [rowE exE,rowE as1] (z 4))
 k21:h (a+21)=some (.rows 1 [[.t (ti 0)],[.t (ti 0)]] (z 5))
 k23:h (a+23)=some (.rows 11 [[.t (ti 2), .t (ti fr), .t (ti 1), .t (ti 1), .t (ti 1), .t (ti 1), .t (.sl []), .ms (a+7) 0 1, .t (tb false), .t (ti 0), .t (ti 0)]] (z 6))
 k25:h (a+25)=some (.rows 7 [[.t (.str (bs [116])), .t (ti 2), .ms (a+20) 0 2, .ms (a+21) 0 2, .ms (a+23) 0 1, .t .nils, .t (tb false)]] (z 7))
theorem example7_den (h:Nat->Option O) (n:Nat) : ∃ r h' n',DenR Γ G 236 [] h n=some (r,h',n') /\
 (r = .agg [.ms (n+13) 0 2, .ms (n+17) 0 1, .t .nils, .ms (n+25) 0 1]/\n' = n+28/\Ex7 (fun _=>false) h' n (bs [120]) 0 (.mk 2 2 0 []) exE):=by
 (refine denR_ofY Γ236 rfl ?_; dsimp only [f236])
 have h1:=oneR_den
 have h2:=cellL_den 0 2
 simp -dsimp -implicitDefEqProofs only [go_sem,seval,h1,h2]
 show _/\_
 refine ⟨rfl,by simp only [addC_eq]; simp, ?_⟩
 constructor <;> (simp only [hpC_cons,hpC_nil,updC_at]; simp [rowE,exE,Expr.op,Expr.w,Expr.n,Expr.kids])
theorem toT_ms {h:Nat->Option O} {k i len d sz:Nat} {rs r:List (List V)} {fz:Bool} {es:List (List T)} (hk:h k=some (.rows sz rs fz)) (hr:rd rs i len=some r) (he:r.mapM (fun row=>row.mapM (toT h d))=some es) :
 toT h (d+1) (.ms k i len)=some (.sl es):=by
 simp [toT,hk,hr,he]
theorem toT_t (h:Nat->Option O) (d:Nat) (x:T):toT h d (.t x)=some x.norm:=by cases d <;> rfl
section
variable {z:Nat->Bool} {h:Nat->Option O} {a:Nat} {nm:ByteArray} {fr:Int} {to as1:Expr}
theorem Ex7.stree (hx:Ex7 z h a nm fr to as1) (d:Nat):toT h (d+1) (.ms (a+7) 0 1)=some (.sl [Assign.enc ⟨1,to⟩]):=by
 refine toT_ms hx.k7 (by rfl) ?_
 simp [toT_t,rowE,Assign.enc,Expr.enc_eq,T.norm]
theorem Ex7.tree (hx:Ex7 z h a nm fr to as1) :
 toT1 h (V.agg [.ms (a+13) 0 2, .ms (a+17) 0 1, .t .nils, .ms (a+25) 0 1])=some (.agg [.t (.sl ((exP nm fr to as1).cells.map (Cell.enc))), .t (.sl ((exP nm fr to as1).modules.map (Contract.enc))), .t (.sl ((exP nm fr to as1).locks.map (Lock.enc))), .t (.sl ((exP nm fr to as1).threads.map (Thread.enc)))]):=by
 have e13:toT h 1000 (.ms (a+13) 0 2)=some (.sl ((exP nm fr to as1).cells.map Cell.enc)):=by
  refine toT_ms hx.k13 (by rfl) ?_
  simp [toT_t,exP,Cell.enc,T.norm]
 have e15:toT h 999 (.ms (a+15) 0 1)=some (ints [0]):=by
  refine toT_ms hx.k15 (by rfl) ?_
  simp [toT_t,T.norm]
 have e17:toT h 1000 (.ms (a+17) 0 1)=some (.sl ((exP nm fr to as1).modules.map Contract.enc)):=by
  refine toT_ms hx.k17 (by rfl) ?_
  simp [toT_t,e15,exP,Contract.enc,Expr.enc_eq,T.norm,exE,Expr.op,Expr.w,Expr.n,Expr.kids]
 have e20:toT h 999 (.ms (a+20) 0 2)=some (.sl ([exE,as1].map Expr.enc)):=by
  refine toT_ms hx.k20 (by rfl) ?_
  simp [toT_t,rowE,Expr.enc_eq,T.norm]
 have e21:toT h 999 (.ms (a+21) 0 2)=some (ints [0,0]):=by
  refine toT_ms hx.k21 (by rfl) ?_
  simp [toT_t,T.norm]
 have e7:=hx.stree 997
 have e23:toT h 999 (.ms (a+23) 0 1)=some (.sl ([⟨2,fr,1,exE,[⟨1,to⟩],false,0,0⟩].map Step.enc)):=by
  refine toT_ms hx.k23 (by rfl) ?_
  simp [toT_t,e7,Step.enc,exE,Expr.enc_eq,T.norm,Expr.op,Expr.w,Expr.n,Expr.kids]
 have e25:toT h 1000 (.ms (a+25) 0 1)=some (.sl ((exP nm fr to as1).threads.map Thread.enc)):=by
  refine toT_ms hx.k25 (by rfl) ?_
  simp [toT_t,e20,e21,e23,exP,Thread.enc,T.norm]
 simp [toT1,e13,e17,e25,toT_t,T.norm,exP]
theorem Ex7.step_tree (hx:Ex7 z h a nm fr to as1) :
 toT1 h (V.agg [.t (ti 2), .t (ti fr), .t (ti 1), .t (ti 1), .t (ti 1), .t (ti 1), .t (.sl []), .ms (a+7) 0 1, .t (tb false), .t (ti 0), .t (ti 0)]) =
  some (.agg [.t (ti ((⟨2,fr,1,exE,[⟨1,to⟩],false,0,0⟩:Step)).kind), .t (ti ((⟨2,fr,1,exE,[⟨1,to⟩],false,0,0⟩:Step)).fr), .t (ti ((⟨2,fr,1,exE,[⟨1,to⟩],false,0,0⟩:Step)).to), .t (ti (((⟨2,fr,1,exE,[⟨1,to⟩],false,0,0⟩:Step)).guard).op), .t (ti (((⟨2,fr,1,exE,[⟨1,to⟩],false,0,0⟩:Step)).guard).w), .t (ti (((⟨2,fr,1,exE,[⟨1,to⟩],false,0,0⟩:Step)).guard).n), .t (.sl ((((⟨2,fr,1,exE,[⟨1,to⟩],false,0,0⟩:Step)).guard).kids.map Expr.enc)), .t (.sl (((⟨2,fr,1,exE,[⟨1,to⟩],false,0,0⟩:Step)).set.map Assign.enc)), .t (tb ((⟨2,fr,1,exE,[⟨1,to⟩],false,0,0⟩:Step)).release), .t (ti ((⟨2,fr,1,exE,[⟨1,to⟩],false,0,0⟩:Step)).target), .t (ti ((⟨2,fr,1,exE,[⟨1,to⟩],false,0,0⟩:Step)).module)]):=by
 have e7:=hx.stree 999
 simp [toT1,e7,toT_t,T.norm,exE,Expr.op,Expr.w,Expr.n,Expr.kids]
theorem frz_rows {h:Nat->Option O} {k sz:Nat} {rs:List (List V)} {z:Bool} (hk:h k=some (.rows sz rs z)) (l:List Nat) : ∃ z',hpC h (freezes h l) k=some (.rows sz rs z'):=by
 suffices hs : ∀ (l:List Nat) (g:Nat->Option O) (y:Bool),g k=some (.rows sz rs y) -> ∃ z',hpC g (freezes h l) k=some (.rows sz rs z') from hs l h z hk
 intro l
 induction l with
 | nil=>intro g y hg; exact ⟨y,by simp only [freezes,List.filterMap_nil,hpC_nil]; exact hg⟩
 | cons q r ih =>
  intro g y hg
  unfold freezes at ih ⊢
  rw [List.filterMap_cons]
  split
  ·exact ih g y hg
  ·rename_i b hb
   split at hb
   ·rename_i s1 r1 y1 hq
    cases hb
    rw [hpC_cons]
    by_cases hkq:k=q
    ·subst hkq
     rw [hk] at hq
     cases hq
     exact ih _ true (by rw [updC_at,if_pos rfl])
    ·exact ih _ y (by rw [updC_at,if_neg hkq]; exact hg)
   ·cases hb
theorem Ex7.frz (hx : ∃ z,Ex7 z h a nm fr to as1) (l:List Nat) : ∃ z,Ex7 z (hpC h (freezes h l)) a nm fr to as1:=by
 obtain ⟨z,hx⟩:=hx
 obtain ⟨z0,f0⟩:=frz_rows hx.k7 l
 obtain ⟨z1,f1⟩:=frz_rows hx.k13 l
 obtain ⟨z2,f2⟩:=frz_rows hx.k15 l
 obtain ⟨z3,f3⟩:=frz_rows hx.k17 l
 obtain ⟨z4,f4⟩:=frz_rows hx.k20 l
 obtain ⟨z5,f5⟩:=frz_rows hx.k21 l
 obtain ⟨z6,f6⟩:=frz_rows hx.k23 l
 obtain ⟨z7,f7⟩:=frz_rows hx.k25 l
 exact ⟨fun i=>[z0,z1,z2,z3,z4,z5,z6,z7].getD i false,f0,f1,f2,f3,f4,f5,f6,f7⟩
theorem Ex7.upd (hx : ∃ z,Ex7 z h a nm fr to as1) {k:Nat} (hk:a+26<=k) (o:Option O) : ∃ z,Ex7 z (updC h k o) a nm fr to as1:=by
 obtain ⟨z,hx⟩:=hx
 exact ⟨z,by constructor <;> (rw [updC_at,if_neg (by omega)]) <;> first | exact hx.k7 | exact hx.k13 | exact hx.k15 | exact hx.k17 | exact hx.k20 | exact hx.k21 | exact hx.k23 | exact hx.k25⟩
end
def frzK (h:Nat->Option O) (vs:List V) (r:V) (K:V->(Nat->Option O)->Prop):Prop:=K r (hpC h (freezes h (vs.flatMap (reach1 h))))
theorem denS_frz (a:List T) (l:List (List T)) (h:Nat->Option O) (vs:List V) (K:V->(Nat->Option O)->Prop) (w:WK K):denS (some (.t (.sl (a::l)))) false h vs K w=frzK h vs (.t (.sl (a::l))) K:=by
 simp [denS,frzK,V.scalar,V.scalar2,V.scalar1,T.scalar]
theorem denS_sl0 (d:Bool) (h:Nat->Option O) (vs:List V) (K:V->(Nat->Option O)->Prop) (w:WK K):denS (some (.t (.sl []))) d h vs K w=K (.t (.sl [])) h:=by
 simp [denS,V.scalar,V.scalar2,V.scalar1,T.scalar]
theorem frzK_intro {h:Nat->Option O} {vs:List V} {r:V} {K:V->(Nat->Option O)->Prop} {a:Nat} {nm:ByteArray} {fr:Int} {to as1:Expr} (hx : ∃ z,Ex7 z h a nm fr to as1)
 (hk : ∀ H,(∃ z,Ex7 z H a nm fr to as1)->K r H):frzK h vs r K:=hk _ (Ex7.frz hx _)
theorem ex_sane (nm:ByteArray) (hn:nm.size<2^50) (fr:Int) (to as1:Expr):(exP nm fr to as1).sane:=by
 refine ⟨by simp [exP],by simp [exP],by simp [exP],by simp [exP], ?_, ?_, ?_, ?_, ?_⟩
 ·intro c hc; simp only [exP,List.mem_cons,List.not_mem_nil,or_false] at hc; rcases hc with rfl | rfl <;> first | exact hn | decide +kernel
 ·intro c hc; simp only [exP,List.mem_cons,List.not_mem_nil,or_false] at hc; subst hc; decide +kernel
 ·intro c hc; simp only [exP,List.mem_cons,List.not_mem_nil,or_false] at hc; subst hc; exact ⟨by show (bs [116]).size<_; decide +kernel,by simp,by simp,by simp,by simp⟩
 ·intro c hc s hs; simp only [exP,List.mem_cons,List.not_mem_nil,or_false] at hc; subst hc; simp only [List.mem_cons,List.not_mem_nil,or_false] at hs; subst hs; simp
 ·intro c hc s hs; simp only [exP,List.mem_cons,List.not_mem_nil,or_false] at hc; subst hc; simp at hs
theorem ex_few (nm:ByteArray) (fr:Int) (to as1:Expr):(exP nm fr to as1).few:=by
 refine ⟨?_, ?_, ?_⟩
 ·intro c hc; simp only [exP,List.mem_cons,List.not_mem_nil,or_false] at hc; subst hc; simp
 ·intro c hc s hs; simp only [exP,List.mem_cons,List.not_mem_nil,or_false] at hc; subst hc; simp only [List.mem_cons,List.not_mem_nil,or_false] at hs; subst hs; simp
 ·intro c hc s hs; simp only [exP,List.mem_cons,List.not_mem_nil,or_false] at hc; subst hc; simp at hs
def exP0:Prog:=exP (bs [120]) 0 (.mk 2 2 0 []) exE
theorem ex_v0:validM exP0=(0, -1, -1):=by decide +kernel
theorem ex_v1:validM (exP (bs [120]) 1 (.mk 2 2 0 []) exE)=(70,0,0):=by decide +kernel
theorem ex_v2:validM (exP (bs [120]) 0 (.mk 1 2 1 []) exE)=(70,0,0):=by decide +kernel
theorem ex_v3:validM (exP (bs [120]) 0 (.mk 1 1 1 []) exE)=(60,0,0):=by decide +kernel
theorem ex_v4:validM (exP (bs [120]) 0 (.mk 2 2 0 []) (.mk 11 1 0 [.mk 3 2 0 [], .mk 2 2 0 []]))=(60,0, -1):=by decide +kernel
theorem ex_v5:validM (exP (bs [114]) 0 (.mk 2 2 0 []) exE)=(41, -1, -1):=by decide +kernel
theorem ex_t0:textP exP0=[99,101,108,108,32,120,32,50,32,48,32,45,49,32,48,32,48,10,99,101,108,108,32,114,32,50,32,48,32,48,32,48,32,48,10,109,111,100,117,108,101,32,77,32,65,110,110,32,110,111,110,101,32,49,58,49,32,48,10,116,104,114,101,97,100,32,116,32,48,10,112,111,105,110,116,32,48,32,49,58,49,10,112,111,105,110,116,32,48,32,49,58,49,10,115,116,101,112,32,50,32,48,32,49,32,49,58,49,32,48,32,48,32,48,32,49,32,99,48,58,50,10]:=by decide +kernel
theorem ex_r:readsM exStep=[0]:=by decide +kernel
theorem ex_w:writesM exStep=[1]:=by decide +kernel
theorem ex_s0:stepsM exP0 0 0=[0]:=by decide +kernel
theorem ex_s1:stepsM exP0 0 1=[]:=by decide +kernel
theorem ex_l:localsM exP0 0=[1]:=by decide +kernel
theorem ex_o:ofM exP0 (-1)=[0]:=by decide +kernel
theorem ex_e:(Expr.mk 2 2 1 []).valid exP0.cells false=true:=by decide +kernel
theorem found_ex (nm:ByteArray) (hn:nm.size<2^50) (fr:Int) (to as1:Expr) (e t s:Int) (hv:validM (exP nm fr to as1)=(e,t,s)):Den Γ G 235 [(.agg [.t (.sl ((exP nm fr to as1).cells.map (Cell.enc))), .t (.sl ((exP nm fr to as1).modules.map (Contract.enc))), .t (.sl ((exP nm fr to as1).locks.map (Lock.enc))), .t (.sl ((exP nm fr to as1).threads.map (Thread.enc)))]),vi e,vi t,vi s]=some (vb true):=by
 rw [found_den _ (ex_sane nm hn fr to as1),hv]; simp
def PV:V:=(.agg [.t (.sl ((exP0).cells.map (Cell.enc))), .t (.sl ((exP0).modules.map (Contract.enc))), .t (.sl ((exP0).locks.map (Lock.enc))), .t (.sl ((exP0).threads.map (Thread.enc)))])
def SV:V:=(.agg [.t (ti (exStep).kind), .t (ti (exStep).fr), .t (ti (exStep).to), .t (ti ((exStep).guard).op), .t (ti ((exStep).guard).w), .t (ti ((exStep).guard).n), .t (.sl (((exStep).guard).kids.map Expr.enc)), .t (.sl ((exStep).set.map Assign.enc)), .t (tb (exStep).release), .t (ti (exStep).target), .t (ti (exStep).module)])
def X7 (H:Nat->Option O):Prop := ∃ z,Ex7 z H 4 (bs [120]) 0 (.mk 2 2 0 []) exE
theorem X7.upd {H:Nat->Option O} (hx:X7 H) {k:Nat} (hk:30<=k) (o:Option O):X7 (updC H k o):=Ex7.upd hx hk o
theorem x_p {H:Nat->Option O} (hx:X7 H):toT1 H (V.agg [.ms 17 0 2, .ms 21 0 1, .t .nils, .ms 29 0 1])=some PV:=by
 obtain ⟨z,hx⟩:=hx; exact hx.tree
theorem x_s {H:Nat->Option O} (hx:X7 H):toT1 H (V.agg [.t (ti 2), .t (ti 0), .t (ti 1), .t (ti 1), .t (ti 1), .t (ti 1), .t (.sl []), .ms 11 0 1, .t (tb false), .t (ti 0), .t (ti 0)])=some SV:=by
 obtain ⟨z,hx⟩:=hx; exact hx.step_tree
theorem x_c {H:Nat->Option O} (hx:X7 H):toT1 H (.ms 17 0 2)=some (.t (.sl (exP0.cells.map Cell.enc))):=by
 obtain ⟨z,hx⟩:=hx
 have h0:toT H 1000 (.ms (4+13) 0 2)=some (.sl (exP0.cells.map Cell.enc)):=by
  refine toT_ms hx.k13 (by rfl) ?_
  simp [toT_t,exP0,exP,Cell.enc,T.norm]
 simp only [toT1,h0]; rfl
theorem X7.frz {H:Nat->Option O} {vs:List V} {r:V} {K:V->(Nat->Option O)->Prop} (hx:X7 H) (hk : ∀ H,X7 H->K r H):frzK H vs r K:=frzK_intro hx hk
section
variable {z:Nat->Bool} {h:Nat->Option O} {a:Nat} {nm:ByteArray} {fr:Int} {to as1:Expr}
theorem Ex7.setFr (hx:Ex7 z h a nm fr to as1) (q:Int):Ex7 z (updC h (a+23) (some (.rows 11 [[.t (ti 2), .t (ti q), .t (ti 1), .t (ti 1), .t (ti 1), .t (ti 1), .t (.sl []), .ms (a+7) 0 1, .t (tb false), .t (ti 0), .t (ti 0)]] (z 6)))) a nm q to as1:=by
 constructor <;> (rw [updC_at]; first | rw [if_pos rfl] | rw [if_neg (by omega)]) <;> first | exact hx.k7 | exact hx.k13 | exact hx.k15 | exact hx.k17 | exact hx.k20 | exact hx.k21 | exact hx.k23 | exact hx.k25
theorem Ex7.setTo (hx:Ex7 z h a nm fr to as1) (q:Expr):Ex7 z (updC h (a+7) (some (.rows 5 [.t (ti 1)::rowE q] (z 0)))) a nm fr q as1:=by
 constructor <;> (rw [updC_at]; first | rw [if_pos rfl] | rw [if_neg (by omega)]) <;> first | exact hx.k7 | exact hx.k13 | exact hx.k15 | exact hx.k17 | exact hx.k20 | exact hx.k21 | exact hx.k23 | exact hx.k25
theorem Ex7.setAs (hx:Ex7 z h a nm fr to as1) (q:Expr):Ex7 z (updC h (a+20) (some (.rows 4 [rowE exE,rowE q] (z 4)))) a nm fr to q:=by
 constructor <;> (rw [updC_at]; first | rw [if_pos rfl] | rw [if_neg (by omega)]) <;> first | exact hx.k7 | exact hx.k13 | exact hx.k15 | exact hx.k17 | exact hx.k20 | exact hx.k21 | exact hx.k23 | exact hx.k25
theorem Ex7.setNm (hx:Ex7 z h a nm fr to as1) (q:ByteArray):Ex7 z (updC h (a+13) (some (.rows 6 [[.t (.str q), .t (ti 2), .t (ti 0), .t (ti (-1)), .t (tb false), .t (ti 0)],[.t (.str (bs [114])), .t (ti 2), .t (ti 0), .t (ti 0), .t (tb false), .t (ti 0)]] (z 1)))) a q fr to as1:=by
 constructor <;> (rw [updC_at]; first | rw [if_pos rfl] | rw [if_neg (by omega)]) <;> first | exact hx.k7 | exact hx.k13 | exact hx.k15 | exact hx.k17 | exact hx.k20 | exact hx.k21 | exact hx.k23 | exact hx.k25
end
def Q1:V:=(.agg [.t (.sl ((exP (bs [120]) 1 (.mk 2 2 0 []) exE).cells.map (Cell.enc))), .t (.sl ((exP (bs [120]) 1 (.mk 2 2 0 []) exE).modules.map (Contract.enc))), .t (.sl ((exP (bs [120]) 1 (.mk 2 2 0 []) exE).locks.map (Lock.enc))), .t (.sl ((exP (bs [120]) 1 (.mk 2 2 0 []) exE).threads.map (Thread.enc)))])
def Q2:V:=(.agg [.t (.sl ((exP (bs [120]) 0 (.mk 1 2 1 []) exE).cells.map (Cell.enc))), .t (.sl ((exP (bs [120]) 0 (.mk 1 2 1 []) exE).modules.map (Contract.enc))), .t (.sl ((exP (bs [120]) 0 (.mk 1 2 1 []) exE).locks.map (Lock.enc))), .t (.sl ((exP (bs [120]) 0 (.mk 1 2 1 []) exE).threads.map (Thread.enc)))])
def Q3:V:=(.agg [.t (.sl ((exP (bs [120]) 0 (.mk 1 1 1 []) exE).cells.map (Cell.enc))), .t (.sl ((exP (bs [120]) 0 (.mk 1 1 1 []) exE).modules.map (Contract.enc))), .t (.sl ((exP (bs [120]) 0 (.mk 1 1 1 []) exE).locks.map (Lock.enc))), .t (.sl ((exP (bs [120]) 0 (.mk 1 1 1 []) exE).threads.map (Thread.enc)))])
def Q4:V:=(.agg [.t (.sl ((exP (bs [120]) 0 (.mk 2 2 0 []) (.mk 11 1 0 [.mk 3 2 0 [], .mk 2 2 0 []])).cells.map (Cell.enc))), .t (.sl ((exP (bs [120]) 0 (.mk 2 2 0 []) (.mk 11 1 0 [.mk 3 2 0 [], .mk 2 2 0 []])).modules.map (Contract.enc))), .t (.sl ((exP (bs [120]) 0 (.mk 2 2 0 []) (.mk 11 1 0 [.mk 3 2 0 [], .mk 2 2 0 []])).locks.map (Lock.enc))), .t (.sl ((exP (bs [120]) 0 (.mk 2 2 0 []) (.mk 11 1 0 [.mk 3 2 0 [], .mk 2 2 0 []])).threads.map (Thread.enc)))])
def Q5:V:=(.agg [.t (.sl ((exP (bs [114]) 0 (.mk 2 2 0 []) exE).cells.map (Cell.enc))), .t (.sl ((exP (bs [114]) 0 (.mk 2 2 0 []) exE).modules.map (Contract.enc))), .t (.sl ((exP (bs [114]) 0 (.mk 2 2 0 []) exE).locks.map (Lock.enc))), .t (.sl ((exP (bs [114]) 0 (.mk 2 2 0 []) exE).threads.map (Thread.enc)))])
theorem head7_den:Den Γ G 216 []=some (vb true):=by
 (refine den_ofY Γ216 rfl ?_; dsimp only [f216])
 simp -dsimp -implicitDefEqProofs only [go_sem,seval]
 refine rawK_of (example7_den _ _) ?_
 rintro r h1 n1 ⟨rfl,rfl,hx0⟩
 have hx:X7 h1:=⟨_,hx0⟩
 have t1:=x_p hx
 have c1:=x_c hx
 have s1:=x_s hx
 have d1:Den Γ G 235 [PV,vi 0,vi (-1),vi (-1)]=some (vb true):=found_ex (bs [120]) (by decide +kernel) 0 (.mk 2 2 0 []) exE 0 (-1) (-1) ex_v0
 have d2:=cellL_den 1 2
 have d3:=validP_den (Expr.mk 2 2 1 []) exP0.cells false
 rw [ex_e] at d3
 have dr:Den Γ G 31 [SV]=some (.t (.sl [[ti 0]])):=by have:=reads_den exStep (by decide); rw [ex_r] at this; exact this
 have dw:Den Γ G 28 [SV]=some (.t (.sl [[ti 1]])):=by have:=writes_den exStep (by decide); rw [ex_w] at this; exact this
 have ds0:Den Γ G 224 [PV,vi 0,vi 0]=some (.t (.sl [[ti 0]])):=by have:=stepsP_den exP0 0 0 (by simp [exP0,exP]); rw [ex_s0] at this; exact this
 have ds1:Den Γ G 224 [PV,vi 0,vi 1]=some (.t (.sl [])):=by have:=stepsP_den exP0 0 1 (by simp [exP0,exP]); rw [ex_s1] at this; exact this
 have dl:Den Γ G 226 [PV,vi 0]=some (.t (.sl [[ti 1]])):=by have:=localsP_den exP0 0 (by decide); rw [ex_l] at this; exact this
 have dh:Den Γ G 228 [PV]=some (.t (.sl [[ti 0]])):=by have:=sharedLP_den exP0 (by decide); rw [ex_o] at this; exact this
 have dt:Den Γ G 219 [PV]=some (.t (.str (bs (textP exP0)))):=textProg_den exP0 (ex_sane _ (by decide +kernel) _ _ _) (ex_few _ _ _ _)
 rw [ex_t0] at dt
 dsimp only at dt
 have i0:Den Γ G 221 [.t (.sl [[ti 0]]), .t (.sl [[ti 0]])]=some (vb true):=(ints_den [0] [0] (by decide)).trans (by simp)
 have i1:Den Γ G 221 [.t (.sl [[ti 1]]), .t (.sl [[ti 1]])]=some (vb true):=(ints_den [1] [1] (by decide)).trans (by simp)
 simp only [go_sem] at d2 d3
 have e1:Den Γ G 235 [Q1,vi 70,vi 0,vi 0]=some (vb true):=found_ex _ (by decide +kernel) _ _ _ _ _ _ ex_v1
 have e2:Den Γ G 235 [Q2,vi 70,vi 0,vi 0]=some (vb true):=found_ex _ (by decide +kernel) _ _ _ _ _ _ ex_v2
 have e3:Den Γ G 235 [Q3,vi 60,vi 0,vi 0]=some (vb true):=found_ex _ (by decide +kernel) _ _ _ _ _ _ ex_v3
 have e4:Den Γ G 235 [Q4,vi 60,vi 0,vi (-1)]=some (vb true):=found_ex _ (by decide +kernel) _ _ _ _ _ _ ex_v4
 have e5:Den Γ G 235 [Q5,vi 41,vi (-1),vi (-1)]=some (vb true):=found_ex _ (by decide +kernel) _ _ _ _ _ _ ex_v5
 have et:Den Γ G 219 [Q1]=some (.t (.str (bs []))):=by
  have:=textProg_den (exP (bs [120]) 1 (.mk 2 2 0 []) exE) (ex_sane _ (by decide +kernel) _ _ _) (ex_few _ _ _ _)
  rw [textP,ex_v1] at this; exact this
 have c12:=const_den 1 2
 have c11:=const_den 1 1
 have o02:=old_den 0 2
 have l02:=cellL_den 0 2
 have tw:=two_den 11 1 (.mk 3 2 0 []) (.mk 2 2 0 [])
 simp only [go_sem,List.map_cons,List.map_nil,Expr.enc_eq] at c12 c11 o02 l02 tw
 obtain ⟨k7,k13,k15,k17,k20,k21,k23,k25⟩:=hx0
 simp only [Nat.reduceAdd,rowE,exE,go_sem] at k7 k13 k15 k17 k20 k21 k23 k25
 simp -dsimp -implicitDefEqProofs only [go_sem,seval, ↓t1, ↓c1, ↓s1,d1,d2,d3,dr,k23,k25,denS_frz]
 refine X7.frz (by first | exact hx | exact hx.upd (by decide) _) ?_
 clear t1 s1 c1 k7 k13 k15 k17 k20 k21 k23 k25 hx h1
 rintro h1 hx
 have t1:=x_p hx
 have s1:=x_s hx
 have t2:=fun k o hk=>x_p (H:=updC h1 k o) (hx.upd hk o)
 have s2:=fun k o hk=>x_s (H:=updC h1 k o) (hx.upd hk o)
 simp -dsimp -implicitDefEqProofs only [go_sem,seval, ↓t1, ↓t2, ↓s1, ↓s2,denS_frz,i0,dw]
 refine X7.frz (by first | exact hx | exact hx.upd (by decide) _) ?_
 clear t1 t2 s1 s2 hx h1
 rintro h1 hx
 have t1:=x_p hx
 have s1:=x_s hx
 have t2:=fun k o hk=>x_p (H:=updC h1 k o) (hx.upd hk o)
 have s2:=fun k o hk=>x_s (H:=updC h1 k o) (hx.upd hk o)
 simp -dsimp -implicitDefEqProofs only [go_sem,seval, ↓t1, ↓t2, ↓s1, ↓s2,denS_frz,i1,ds0]
 refine X7.frz (by first | exact hx | exact hx.upd (by decide) _) ?_
 clear t1 t2 s1 s2 hx h1
 rintro h1 hx
 have t1:=x_p hx
 have s1:=x_s hx
 have t2:=fun k o hk=>x_p (H:=updC h1 k o) (hx.upd hk o)
 have s2:=fun k o hk=>x_s (H:=updC h1 k o) (hx.upd hk o)
 simp -dsimp -implicitDefEqProofs only [go_sem,seval, ↓t1, ↓t2, ↓s1, ↓s2,denS_frz,i0,ds1,denS_sl0,dl]
 refine X7.frz (by first | exact hx | exact hx.upd (by decide) _) ?_
 clear t1 t2 s1 s2 hx h1
 rintro h1 hx
 have t1:=x_p hx
 have s1:=x_s hx
 have t2:=fun k o hk=>x_p (H:=updC h1 k o) (hx.upd hk o)
 have s2:=fun k o hk=>x_s (H:=updC h1 k o) (hx.upd hk o)
 simp -dsimp -implicitDefEqProofs only [go_sem,seval, ↓t1, ↓t2, ↓s1, ↓s2,denS_frz,i1,dh]
 refine X7.frz (by first | exact hx | exact hx.upd (by decide) _) ?_
 clear t1 t2 s1 s2 hx h1
 rintro h1 hx
 have t1:=x_p hx
 have s1:=x_s hx
 have t2:=fun k o hk=>x_p (H:=updC h1 k o) (hx.upd hk o)
 have s2:=fun k o hk=>x_s (H:=updC h1 k o) (hx.upd hk o)
 simp -dsimp -implicitDefEqProofs only [go_sem,seval, ↓t1, ↓t2, ↓s1, ↓s2,denS_frz,i0,dt,beq_self_eq_true]
 refine rawK_of (example7_den _ _) ?_
 clear hx t1 t2 s1 s2 h1
 rintro r h1 n1 ⟨rfl,rfl,hx⟩
 have tq:=(hx.setFr 1).tree
 obtain ⟨k7,k13,k15,k17,k20,k21,k23,k25⟩:=hx
 simp only [Nat.reduceAdd] at tq
 conv at tq=>rhs; change some Q1
 simp only [Nat.reduceAdd,rowE,exE,go_sem] at k7 k13 k15 k17 k20 k21 k23 k25
 simp -dsimp -implicitDefEqProofs only [go_sem,seval, ↓tq,k7,k23,k25,e1,et,beq_self_eq_true]
 refine rawK_of (example7_den _ _) ?_
 clear tq k7 k13 k15 k17 k20 k21 k23 k25 h1
 rintro r h1 n1 ⟨rfl,rfl,hx⟩
 obtain ⟨k7,k13,k15,k17,k20,k21,k23,k25⟩:=id hx
 simp only [Nat.reduceAdd,rowE,exE,go_sem] at k7 k13 k15 k17 k20 k21 k23 k25
 have tq:=(hx.setTo (.mk 1 2 1 [])).tree
 simp only [Nat.reduceAdd,rowE,exE,Expr.op_mk,Expr.w_mk,Expr.n_mk,Expr.kids_mk,List.map_nil,List.map_cons,Expr.enc_eq] at tq
 conv at tq=>rhs; change some Q2
 simp -dsimp -implicitDefEqProofs only [go_sem,seval, ↓tq,k7,k23,k25,e2,c12]
 clear tq
 have tq:=((hx.setTo (.mk 1 2 1 [])).setTo (.mk 1 1 1 [])).tree
 simp only [Nat.reduceAdd,rowE,exE,Expr.op_mk,Expr.w_mk,Expr.n_mk,Expr.kids_mk,List.map_nil,List.map_cons,Expr.enc_eq] at tq
 conv at tq=>rhs; change some Q3
 simp -dsimp -implicitDefEqProofs only [go_sem,seval, ↓tq,k7,k23,k25,e3,c11]
 refine rawK_of (example7_den _ _) ?_
 clear tq hx k7 k13 k15 k17 k20 k21 k23 k25 h1
 rintro r h1 n1 ⟨rfl,rfl,hx⟩
 obtain ⟨k7,k13,k15,k17,k20,k21,k23,k25⟩:=id hx
 simp only [Nat.reduceAdd,rowE,exE,go_sem] at k7 k13 k15 k17 k20 k21 k23 k25
 have tq:=(hx.setAs (.mk 11 1 0 [.mk 3 2 0 [], .mk 2 2 0 []])).tree
 simp only [Nat.reduceAdd,rowE,exE,Expr.op_mk,Expr.w_mk,Expr.n_mk,Expr.kids_mk,List.map_nil,List.map_cons,Expr.enc_eq] at tq
 conv at tq=>rhs; change some Q4
 simp -dsimp -implicitDefEqProofs only [go_sem,seval, ↓tq,k20,k25,e4,o02,l02,tw]
 refine rawK_of (example7_den _ _) ?_
 clear tq hx k7 k13 k15 k17 k20 k21 k23 k25 h1
 rintro r h1 n1 ⟨rfl,rfl,hx⟩
 obtain ⟨k7,k13,k15,k17,k20,k21,k23,k25⟩:=id hx
 simp only [Nat.reduceAdd,rowE,exE,go_sem] at k7 k13 k15 k17 k20 k21 k23 k25
 have tq:=(hx.setNm (bs [114])).tree
 simp only [Nat.reduceAdd,rowE,exE,Expr.op_mk,Expr.w_mk,Expr.n_mk,Expr.kids_mk,List.map_nil,List.map_cons,Expr.enc_eq] at tq
 conv at tq=>rhs; change some Q5
 simp -dsimp -implicitDefEqProofs only [go_sem,seval, ↓tq,k13,e5]
end Rg
end
section
set_option maxRecDepth 100000
namespace Rg
open Go
theorem rowsI_put (l:List Int) (i:Nat) (x:Int):(rowsI l).set i [vi x]=rowsI (l.set i x):=by simp [rowsI,List.map_set]
theorem rowsI_at {l:List Int} {i:Nat} {x:Int} (h:l[i]? = some x):(rowsI l)[i]? = some [vi x]:=by simp [rowsI,h]
theorem own_intsT {h:Nat->Option O} {k:Nat} {l:List Int} {z:Bool} (hk:h k=some (.rows 1 (rowsI l) z)):toT1 h (.ms k 0 l.length)=some (.t (ints l)):=by
 have e:toT h 1000 (.ms k 0 l.length)=some (ints l):=by
  refine toT_ms (r:=rowsI l) hk (by unfold rd; rw [if_pos (by simp [rowsI]),List.drop_zero,List.take_of_length_le (by simp [rowsI])]) ?_
  exact rows_toT h 999 (l.map fun n=>[ti n]) (ints_norm _)
 simp [toT1,e]
theorem Step.enc_eq (s:Step):s.enc=[ti s.kind,ti s.fr,ti s.to,ti s.guard.op,ti s.guard.w,ti s.guard.n, .sl (s.guard.kids.map Expr.enc), .sl (s.set.map Assign.enc),tb s.release,ti s.target,ti s.module]:=by
 simp [Step.enc,Expr.enc_eq]
end Rg
end
section
set_option maxRecDepth 100000
namespace Rg
open Go
def upI (n i:Nat):List Int:=(List.range n).map fun j=>if j<i then (j:Int) else 0
theorem upI_len (n i:Nat):(upI n i).length=n:=by simp [upI]
theorem upI_zero (n:Nat):rowsI (upI n 0)=List.replicate n [vi 0]:=by
 have:upI n 0=List.replicate n 0:=by simp [upI,List.map_const']
 rw [this]; simp [rowsI]
theorem upI_succ {n i:Nat} (h:i<n):(upI n i).set i (i:Int)=upI n (i+1):=by
 apply List.ext_getElem?
 intro k
 rw [List.getElem?_set]
 unfold upI
 simp only [List.getElem?_map,List.getElem?_range,List.length_map,List.length_range]
 by_cases hk:k<n
 ·by_cases hik:i=k
  ·subst hik; simp [hk]
  ·have h1:k<i+1<->k<i:=by omega
   simp [hik,hk,h1]
 ·by_cases hik:i=k
  ·subst hik; exact absurd h hk
  ·simp [hik,hk]
def swapL (l:List Int) (i k:Nat):List Int:=(l.set i (l.getD k 0)).set k (l.getD i 0)
theorem swap_len (l:List Int) (i k:Nat):(swapL l i k).length=l.length:=by simp [swapL]
theorem swap_perm {l:List Int} {i k:Nat} (hi:i<l.length) (hk:k<l.length):(swapL l i k).Perm l:=by
 unfold swapL
 rw [List.getD_eq_getElem?_getD,List.getD_eq_getElem?_getD,List.getElem?_eq_getElem hi,List.getElem?_eq_getElem hk]
 exact List.set_set_perm hi hk
def permN (n:Nat) (picks:List Int):Nat->List Int
 | 0=>upI n n
 | i+1=>swapL (permN n picks i) i ((picks.getD i 0).toNat % n)
def permM (n:Nat) (picks:List Int):List Int:=permN n picks (min n picks.length)
theorem permN_len (n:Nat) (picks:List Int) (i:Nat):(permN n picks i).length=n:=by
 induction i with
 | zero=>exact upI_len n n
 | succ i ih=>rw [permN,swap_len,ih]
theorem permN_perm {n:Nat} (picks:List Int) {i:Nat} (h:i<=n):PermN n (permN n picks i):=by
 induction i with
 | zero =>
  unfold PermN permN upI
  have:(List.range n).map (fun j:Nat=>if j<n then (j:Int) else 0)=(List.range n).map fun i:Nat=>(i:Int):=by
   apply List.map_congr_left
   intro j hj
   rw [if_pos (List.mem_range.1 hj)]
  rw [this]
 | succ i ih =>
  rw [permN]
  have hl:=permN_len n picks i
  refine (swap_perm (by omega) (by rw [hl]; exact Nat.mod_lt _ (by omega))).trans (ih (by omega))
theorem permM_perm (n:Nat) (picks:List Int):PermN n (permM n picks):=permN_perm picks (Nat.min_le_left _ _)
theorem perm_den (n:Nat) (hn:n<=64) (picks:List Int) (hpk : ∀ k∈picks,0<=k/\k<256):Den Γ G 233 [vi n, .t (.sl (picks.map fun n=>[.int .u8 n]))]=some (.t (ints (permM n picks))):=by
 (refine den_ofY Γ233 rfl ?_; dsimp only [f233])
 have hle:(n:Int)<=4294967296:=by omega
 have h0:(0:Int)<=n:=by omega
 simp -dsimp -implicitDefEqProofs only [go_sem,seval,hle,h0,Int.le_refl]
 refine loopYH 1046592 n (fun i f h x=>(f 6).v=vi i/\(f 5).v = .ms 2 0 n/\h 2=some (.rows 1 (rowsI (upI n i)) false)/\2<x) rfl ⟨by simp -dsimp -implicitDefEqProofs only [go_sem,seval],by simp -dsimp -implicitDefEqProofs only [go_sem,seval],by rw [upI_zero]; simp -dsimp -implicitDefEqProofs only [go_sem,seval],by simp -dsimp -implicitDefEqProofs only [go_sem,seval]⟩ ?_
 rintro i f u H q bq hi ⟨h6,h5,hk,hq⟩
 have hw:=wrapS i (by omega)
 simp -dsimp -implicitDefEqProofs only [go_sem,seval,h6]
 refine csplit (fun h => ?_) (fun h => ?_) <;> (try rw [h]) <;> (try simp only [bools] at h) <;> (try simp -dsimp -implicitDefEqProofs only [go_sem,seval,h6])
 ·have hin:i<n:=by omega
  have hl:=upI_len n i
  have hg:(rowsI (upI n i))[i]? = some [vi 0]:=rowsI_at (by unfold upI; simp [hin])
  have hs:(rowsI (upI n i)).set i [vi i]=rowsI (upI n (i+1)):=by rw [rowsI_put,upI_succ hin]
  have hi2:((i:Int)<n)=True:=eq_true (by omega)
  simp -dsimp -implicitDefEqProofs only [go_sem,seval,h6,h5,hk,hg,hs,hi2,hin]
  exact ⟨hin,by simp -dsimp -implicitDefEqProofs only [go_sem,seval,hw],by simp -dsimp -implicitDefEqProofs only [go_sem,seval],by simp -dsimp -implicitDefEqProofs only [go_sem,seval],by simp -dsimp -implicitDefEqProofs only [go_sem,seval]; omega⟩
 have:i=n:=by omega
 subst this
 clear h6 hw hi
 refine loopYH 4503599626322304 (min i picks.length) (fun j f h x=>(f 7).v=vi j/\h 2=some (.rows 1 (rowsI (permN i picks j)) false)/\2<x) rfl ⟨by simp -dsimp -implicitDefEqProofs only [go_sem,seval],by simp -dsimp -implicitDefEqProofs only [go_sem,seval,hk]; rfl,by simp -dsimp -implicitDefEqProofs only [go_sem,seval]; omega⟩ ?_
 clear hk hq
 rintro j g u2 H2 q2 bq2 hj ⟨h7,hk,hq⟩
 have hw:=wrapS j (by omega)
 have hlen:(picks.map fun n=>[T.int .u8 n]).length=picks.length:=by simp
 have hl:=permN_len i picks j
 have hre:=own_intsT hk
 rw [hl] at hre
 simp -dsimp -implicitDefEqProofs only [go_sem,seval,h7]
 refine csplit (fun h => ?_) (fun h => ?_) <;> (try rw [h]) <;> (try simp only [bools] at h) <;> (try simp -dsimp -implicitDefEqProofs only [go_sem,seval,h7,h5, ↓hre])
 ·refine csplit (fun h => ?_) (fun h => ?_) <;> (try rw [h]) <;> (try simp only [bools] at h) <;> (try simp -dsimp -implicitDefEqProofs only [go_sem,seval,h7,h5, ↓hre])
  ·obtain ⟨pk,hpi,hpm⟩:=get_of (show j<picks.length by omega)
   have hpb:=hpk pk hpm
   have hij:j<i:=by omega
   have hl:=permN_len i picks j
   obtain ⟨z,hz⟩ : ∃ z:Nat,z=pk.toNat % i:=⟨_,rfl⟩
   have hzi:z<i:=by rw [hz]; exact Nat.mod_lt _ (by omega)
   have hwp:IntKind.i64.wrap pk=(pk.toNat:Int):=by rw [wrap64 (by omega)]; omega
   have htm:((pk.toNat:Int).tmod (i:Int))=(z:Int):=by rw [hz]; rfl
   have hi0:((i:Int)=0)=False:=eq_false (by omega)
   have hzi2:((z:Int)<i)=True:=eq_true (by omega)
   have hji2:((j:Int)<i)=True:=eq_true (by omega)
   obtain ⟨A,hA⟩ : ∃ A,A=permN i picks j:=⟨_,rfl⟩
   rw [<- hA] at hl hk
   obtain ⟨a,ha,_⟩:=get_of (show j<A.length by omega)
   obtain ⟨b,hb,_⟩:=get_of (show z<A.length by omega)
   have ga:(rowsI A)[j]? = some [vi a]:=rowsI_at ha
   have gb:(rowsI A)[z]? = some [vi b]:=rowsI_at hb
   have s1:(rowsI A).set j [vi b]=rowsI (A.set j b):=rowsI_put _ _ _
   have gz : ∃ c,(rowsI (A.set j b))[z]? = some [vi c]:=by
    obtain ⟨c,hc,_⟩:=get_of (show z<(A.set j b).length by simp; omega)
    exact ⟨c,rowsI_at hc⟩
   obtain ⟨c,gz⟩:=gz
   have s2:(rowsI (A.set j b)).set z [vi a]=rowsI ((A.set j b).set z a):=rowsI_put _ _ _
   have hsucc:permN i picks (j+1)=(A.set j b).set z a:=by
    rw [permN, <- hA,swapL]
    have e:picks.getD j 0=pk:=by rw [List.getD_eq_getElem?_getD,hpi]; rfl
    rw [e, <- hz,List.getD_eq_getElem?_getD,List.getD_eq_getElem?_getD,ha,hb]; rfl
   simp -dsimp -implicitDefEqProofs only [go_sem,seval,h7,h5,hk,hpi,hwp,hi0,htm,hzi,hzi2,hji2,hij,ga,gb,s1,gz,s2]
   refine ⟨by omega,by simp -dsimp -implicitDefEqProofs only [go_sem,seval,hw], ?_,by simp -dsimp -implicitDefEqProofs only [go_sem,seval]; omega⟩
   rw [hsucc]; simp -dsimp -implicitDefEqProofs only [go_sem,seval]
  ·have hm:min i picks.length=j:=by omega
   rw [permM,hm]
 ·have hm:min i picks.length=j:=by omega
  rw [permM,hm]
end Rg
end

/- Part of the proof of the laws of the package relyguardlaw07: an abstract machine for the program's functions, what they compute, and that the machine is the program's. No condition. (H31b H30w H32b H32d H32a H32j H13p H32e H32g H32h H32c H32i H33a H33b H33c H33d H33e) -/
import Derived.Test.YtamaecmfhphpeaaGreatDoorPartBC
import Derived.Test.YtamaecmfhphpeaaGreatDoorPartAY
import Derived.Test.YtamaecmfhphpeaaGreatDoorPartAU
import Derived.Test.YtamaecmfhphpeaaGreatDoorPartAV
import Derived.Test.YtamaecmfhphpeaaGreatDoorPartBB
import Derived.Test.YtamaecmfhphpeaaGreatDoorPartAZ
set_option linter.unusedSimpArgs false
set_option linter.unusedVariables false
section
set_option maxRecDepth 100000
namespace Rg
open Go
theorem cellL_den (c w:Int):Den Γ G 237 [vi c,vi w]=some (.agg [.t (ti (Expr.mk 2 w c []).op), .t (ti (Expr.mk 2 w c []).w), .t (ti (Expr.mk 2 w c []).n), .t (.sl ((Expr.mk 2 w c []).kids.map (Expr.enc)))]):=by
 (refine den_ofY Γ237 rfl ?_; dsimp only [f237])
 have h1:=cell_den c w
 simp -dsimp -implicitDefEqProofs only [go_sem,seval,h1]
theorem old_den (c w:Int):Den Γ G 238 [vi c,vi w]=some (.agg [.t (ti (Expr.mk 3 w c []).op), .t (ti (Expr.mk 3 w c []).w), .t (ti (Expr.mk 3 w c []).n), .t (.sl ((Expr.mk 3 w c []).kids.map (Expr.enc)))]):=by
 (refine den_ofY Γ238 rfl ?_; dsimp only [f238])
 simp -dsimp -implicitDefEqProofs only [go_sem,seval]
theorem found_den (p:Prog) (hs:p.sane) (e t s:Int):Den Γ G 235 [(.agg [.t (.sl ((p).cells.map (Cell.enc))), .t (.sl ((p).modules.map (Contract.enc))), .t (.sl ((p).locks.map (Lock.enc))), .t (.sl ((p).threads.map (Thread.enc)))]),vi e,vi t,vi s]=some (vb (decide (validM p=(e,t,s)))):=by
 (refine den_ofY Γ235 rfl ?_; dsimp only [f235])
 have h1:=validP7_den p hs
 generalize hv:validM p=v at h1
 obtain ⟨a,b,c⟩:=v
 by_cases ha:a=e
 ·by_cases hb:b=t
  ·by_cases hc:c=s
   ·simp -dsimp -implicitDefEqProofs only [go_sem,seval,h1,ha,hb,hc,decide_true]
   ·simp -dsimp -implicitDefEqProofs only [go_sem,seval,h1,ha,hb,hc,decide_true,decide_false]
    simp [hc]
  ·simp -dsimp -implicitDefEqProofs only [go_sem,seval,h1,ha,hb,decide_true,decide_false]
   simp [hb]
 ·simp -dsimp -implicitDefEqProofs only [go_sem,seval,h1,ha,decide_true,decide_false]
  simp [ha]
def exE:Expr:=.mk 1 1 1 []
def exP (nm:ByteArray) (fr:Int) (to as1:Expr):Prog :=
 ⟨[⟨nm,2,0, -1,false,0⟩,⟨bs [114],2,0,0,false,0⟩],
  [⟨bs [77],bs [65,110,110], .mk 0 0 0 [],exE,[0]⟩],[],
  [⟨bs [116],2,[exE,as1],[0,0],[⟨2,fr,1,exE,[⟨1,to⟩],false,0,0⟩],[],false⟩]⟩
def exStep:Step:=⟨2,0,1,exE,[⟨1, .mk 2 2 0 []⟩],false,0,0⟩
def rowE (e:Expr):List V:=[.t (ti e.op), .t (ti e.w), .t (ti e.n), .t (.sl (e.kids.map Expr.enc))]
structure Ex7 (z:Nat->Bool) (h:Nat->Option O) (a:Nat) (nm:ByteArray) (fr:Int) (to as1:Expr):Prop where
 k7:h (a+7)=some (.rows 5 [.t (ti 1)::rowE to] (z 0))
 k13:h (a+13)=some (.rows 6 [[.t (.str nm), .t (ti 2), .t (ti 0), .t (ti (-1)), .t (tb false), .t (ti 0)],[.t (.str (bs [114])), .t (ti 2), .t (ti 0), .t (ti 0), .t (tb false), .t (ti 0)]] (z 1))
 k15:h (a+15)=some (.rows 1 [[.t (ti 0)]] (z 2))
 k17:h (a+17)=some (.rows 11 [[.t (.str (bs [77])), .t (.str (bs [65,110,110])), .t (ti 0), .t (ti 0), .t (ti 0), .t .nils, .t (ti 1), .t (ti 1), .t (ti 1), .t (.sl []), .ms (a+15) 0 1]] (z 3))
 k20:h (a+20)=some (.rows 4 [rowE exE,rowE as1] (z 4))
 k21:h (a+21)=some (.rows 1 [[.t (ti 0)],[.t (ti 0)]] (z 5))
 k23:h (a+23)=some (.rows 11 [[.t (ti 2), .t (ti fr), .t (ti 1), .t (ti 1), .t (ti 1), .t (ti 1), .t (.sl []), .ms (a+7) 0 1, .t (tb false), .t (ti 0), .t (ti 0)]] (z 6))
 k25:h (a+25)=some (.rows 7 [[.t (.str (bs [116])), .t (ti 2), .ms (a+20) 0 2, .ms (a+21) 0 2, .ms (a+23) 0 1, .t .nils, .t (tb false)]] (z 7))
theorem example7_den (h:Nat->Option O) (n:Nat) : ∃ r h' n',DenR Γ G 236 [] h n=some (r,h',n') /\
 (r = .agg [.ms (n+13) 0 2, .ms (n+17) 0 1, .t .nils, .ms (n+25) 0 1]/\n' = n+28/\Ex7 (fun _=>false) h' n (bs [120]) 0 (.mk 2 2 0 []) exE):=by
 (refine denR_ofY Γ236 rfl ?_; dsimp only [f236])
 have h1:=oneR_den
 have h2:=cellL_den 0 2
 simp -dsimp -implicitDefEqProofs only [go_sem,seval,h1,h2]
 show _/\_
 refine ⟨rfl,by simp only [addC_eq]; simp, ?_⟩
 constructor <;> (simp only [hpC_cons,hpC_nil,updC_at]; simp [rowE,exE,Expr.op,Expr.w,Expr.n,Expr.kids])
theorem toT_ms {h:Nat->Option O} {k i len d sz:Nat} {rs r:List (List V)} {fz:Bool} {es:List (List T)} (hk:h k=some (.rows sz rs fz)) (hr:rd rs i len=some r) (he:r.mapM (fun row=>row.mapM (toT h d))=some es) :
 toT h (d+1) (.ms k i len)=some (.sl es):=by
 simp [toT,hk,hr,he]
theorem toT_t (h:Nat->Option O) (d:Nat) (x:T):toT h d (.t x)=some x.norm:=by cases d <;> rfl
section
variable {z:Nat->Bool} {h:Nat->Option O} {a:Nat} {nm:ByteArray} {fr:Int} {to as1:Expr}
theorem Ex7.stree (hx:Ex7 z h a nm fr to as1) (d:Nat):toT h (d+1) (.ms (a+7) 0 1)=some (.sl [Assign.enc ⟨1,to⟩]):=by
 refine toT_ms hx.k7 (by rfl) ?_
 simp [toT_t,rowE,Assign.enc,Expr.enc_eq,T.norm]
theorem Ex7.tree (hx:Ex7 z h a nm fr to as1) :
 toT1 h (V.agg [.ms (a+13) 0 2, .ms (a+17) 0 1, .t .nils, .ms (a+25) 0 1])=some (.agg [.t (.sl ((exP nm fr to as1).cells.map (Cell.enc))), .t (.sl ((exP nm fr to as1).modules.map (Contract.enc))), .t (.sl ((exP nm fr to as1).locks.map (Lock.enc))), .t (.sl ((exP nm fr to as1).threads.map (Thread.enc)))]):=by
 have e13:toT h 1000 (.ms (a+13) 0 2)=some (.sl ((exP nm fr to as1).cells.map Cell.enc)):=by
  refine toT_ms hx.k13 (by rfl) ?_
  simp [toT_t,exP,Cell.enc,T.norm]
 have e15:toT h 999 (.ms (a+15) 0 1)=some (ints [0]):=by
  refine toT_ms hx.k15 (by rfl) ?_
  simp [toT_t,T.norm]
 have e17:toT h 1000 (.ms (a+17) 0 1)=some (.sl ((exP nm fr to as1).modules.map Contract.enc)):=by
  refine toT_ms hx.k17 (by rfl) ?_
  simp [toT_t,e15,exP,Contract.enc,Expr.enc_eq,T.norm,exE,Expr.op,Expr.w,Expr.n,Expr.kids]
 have e20:toT h 999 (.ms (a+20) 0 2)=some (.sl ([exE,as1].map Expr.enc)):=by
  refine toT_ms hx.k20 (by rfl) ?_
  simp [toT_t,rowE,Expr.enc_eq,T.norm]
 have e21:toT h 999 (.ms (a+21) 0 2)=some (ints [0,0]):=by
  refine toT_ms hx.k21 (by rfl) ?_
  simp [toT_t,T.norm]
 have e7:=hx.stree 997
 have e23:toT h 999 (.ms (a+23) 0 1)=some (.sl ([⟨2,fr,1,exE,[⟨1,to⟩],false,0,0⟩].map Step.enc)):=by
  refine toT_ms hx.k23 (by rfl) ?_
  simp [toT_t,e7,Step.enc,exE,Expr.enc_eq,T.norm,Expr.op,Expr.w,Expr.n,Expr.kids]
 have e25:toT h 1000 (.ms (a+25) 0 1)=some (.sl ((exP nm fr to as1).threads.map Thread.enc)):=by
  refine toT_ms hx.k25 (by rfl) ?_
  simp [toT_t,e20,e21,e23,exP,Thread.enc,T.norm]
 simp [toT1,e13,e17,e25,toT_t,T.norm,exP]
theorem Ex7.step_tree (hx:Ex7 z h a nm fr to as1) :
 toT1 h (V.agg [.t (ti 2), .t (ti fr), .t (ti 1), .t (ti 1), .t (ti 1), .t (ti 1), .t (.sl []), .ms (a+7) 0 1, .t (tb false), .t (ti 0), .t (ti 0)]) =
  some (.agg [.t (ti ((⟨2,fr,1,exE,[⟨1,to⟩],false,0,0⟩:Step)).kind), .t (ti ((⟨2,fr,1,exE,[⟨1,to⟩],false,0,0⟩:Step)).fr), .t (ti ((⟨2,fr,1,exE,[⟨1,to⟩],false,0,0⟩:Step)).to), .t (ti (((⟨2,fr,1,exE,[⟨1,to⟩],false,0,0⟩:Step)).guard).op), .t (ti (((⟨2,fr,1,exE,[⟨1,to⟩],false,0,0⟩:Step)).guard).w), .t (ti (((⟨2,fr,1,exE,[⟨1,to⟩],false,0,0⟩:Step)).guard).n), .t (.sl ((((⟨2,fr,1,exE,[⟨1,to⟩],false,0,0⟩:Step)).guard).kids.map Expr.enc)), .t (.sl (((⟨2,fr,1,exE,[⟨1,to⟩],false,0,0⟩:Step)).set.map Assign.enc)), .t (tb ((⟨2,fr,1,exE,[⟨1,to⟩],false,0,0⟩:Step)).release), .t (ti ((⟨2,fr,1,exE,[⟨1,to⟩],false,0,0⟩:Step)).target), .t (ti ((⟨2,fr,1,exE,[⟨1,to⟩],false,0,0⟩:Step)).module)]):=by
 have e7:=hx.stree 999
 simp [toT1,e7,toT_t,T.norm,exE,Expr.op,Expr.w,Expr.n,Expr.kids]
theorem frz_rows {h:Nat->Option O} {k sz:Nat} {rs:List (List V)} {z:Bool} (hk:h k=some (.rows sz rs z)) (l:List Nat) : ∃ z',hpC h (freezes h l) k=some (.rows sz rs z'):=by
 suffices hs : ∀ (l:List Nat) (g:Nat->Option O) (y:Bool),g k=some (.rows sz rs y) -> ∃ z',hpC g (freezes h l) k=some (.rows sz rs z') from hs l h z hk
 intro l
 induction l with
 | nil=>intro g y hg; exact ⟨y,by simp only [freezes,List.filterMap_nil,hpC_nil]; exact hg⟩
 | cons q r ih =>
  intro g y hg
  unfold freezes at ih ⊢
  rw [List.filterMap_cons]
  split
  ·exact ih g y hg
  ·rename_i b hb
   split at hb
   ·rename_i s1 r1 y1 hq
    cases hb
    rw [hpC_cons]
    by_cases hkq:k=q
    ·subst hkq
     rw [hk] at hq
     cases hq
     exact ih _ true (by rw [updC_at,if_pos rfl])
    ·exact ih _ y (by rw [updC_at,if_neg hkq]; exact hg)
   ·cases hb
theorem Ex7.frz (hx : ∃ z,Ex7 z h a nm fr to as1) (l:List Nat) : ∃ z,Ex7 z (hpC h (freezes h l)) a nm fr to as1:=by
 obtain ⟨z,hx⟩:=hx
 obtain ⟨z0,f0⟩:=frz_rows hx.k7 l
 obtain ⟨z1,f1⟩:=frz_rows hx.k13 l
 obtain ⟨z2,f2⟩:=frz_rows hx.k15 l
 obtain ⟨z3,f3⟩:=frz_rows hx.k17 l
 obtain ⟨z4,f4⟩:=frz_rows hx.k20 l
 obtain ⟨z5,f5⟩:=frz_rows hx.k21 l
 obtain ⟨z6,f6⟩:=frz_rows hx.k23 l
 obtain ⟨z7,f7⟩:=frz_rows hx.k25 l
 exact ⟨fun i=>[z0,z1,z2,z3,z4,z5,z6,z7].getD i false,f0,f1,f2,f3,f4,f5,f6,f7⟩
theorem Ex7.upd (hx : ∃ z,Ex7 z h a nm fr to as1) {k:Nat} (hk:a+26<=k) (o:Option O) : ∃ z,Ex7 z (updC h k o) a nm fr to as1:=by
 obtain ⟨z,hx⟩:=hx
 exact ⟨z,by constructor <;> (rw [updC_at,if_neg (by omega)]) <;> first | exact hx.k7 | exact hx.k13 | exact hx.k15 | exact hx.k17 | exact hx.k20 | exact hx.k21 | exact hx.k23 | exact hx.k25⟩
end
def frzK (h:Nat->Option O) (vs:List V) (r:V) (K:V->(Nat->Option O)->Prop):Prop:=K r (hpC h (freezes h (vs.flatMap (reach1 h))))
theorem denS_frz (a:List T) (l:List (List T)) (h:Nat->Option O) (vs:List V) (K:V->(Nat->Option O)->Prop) (w:WK K):denS (some (.t (.sl (a::l)))) false h vs K w=frzK h vs (.t (.sl (a::l))) K:=by
 simp [denS,frzK,V.scalar,V.scalar2,V.scalar1,T.scalar]
theorem denS_sl0 (d:Bool) (h:Nat->Option O) (vs:List V) (K:V->(Nat->Option O)->Prop) (w:WK K):denS (some (.t (.sl []))) d h vs K w=K (.t (.sl [])) h:=by
 simp [denS,V.scalar,V.scalar2,V.scalar1,T.scalar]
theorem frzK_intro {h:Nat->Option O} {vs:List V} {r:V} {K:V->(Nat->Option O)->Prop} {a:Nat} {nm:ByteArray} {fr:Int} {to as1:Expr} (hx : ∃ z,Ex7 z h a nm fr to as1)
 (hk : ∀ H,(∃ z,Ex7 z H a nm fr to as1)->K r H):frzK h vs r K:=hk _ (Ex7.frz hx _)
theorem ex_sane (nm:ByteArray) (hn:nm.size<2^50) (fr:Int) (to as1:Expr):(exP nm fr to as1).sane:=by
 refine ⟨by simp [exP],by simp [exP],by simp [exP],by simp [exP], ?_, ?_, ?_, ?_, ?_⟩
 ·intro c hc; simp only [exP,List.mem_cons,List.not_mem_nil,or_false] at hc; rcases hc with rfl | rfl <;> first | exact hn | decide +kernel
 ·intro c hc; simp only [exP,List.mem_cons,List.not_mem_nil,or_false] at hc; subst hc; decide +kernel
 ·intro c hc; simp only [exP,List.mem_cons,List.not_mem_nil,or_false] at hc; subst hc; exact ⟨by show (bs [116]).size<_; decide +kernel,by simp,by simp,by simp,by simp⟩
 ·intro c hc s hs; simp only [exP,List.mem_cons,List.not_mem_nil,or_false] at hc; subst hc; simp only [List.mem_cons,List.not_mem_nil,or_false] at hs; subst hs; simp
 ·intro c hc s hs; simp only [exP,List.mem_cons,List.not_mem_nil,or_false] at hc; subst hc; simp at hs
theorem ex_few (nm:ByteArray) (fr:Int) (to as1:Expr):(exP nm fr to as1).few:=by
 refine ⟨?_, ?_, ?_⟩
 ·intro c hc; simp only [exP,List.mem_cons,List.not_mem_nil,or_false] at hc; subst hc; simp
 ·intro c hc s hs; simp only [exP,List.mem_cons,List.not_mem_nil,or_false] at hc; subst hc; simp only [List.mem_cons,List.not_mem_nil,or_false] at hs; subst hs; simp
 ·intro c hc s hs; simp only [exP,List.mem_cons,List.not_mem_nil,or_false] at hc; subst hc; simp at hs
def exP0:Prog:=exP (bs [120]) 0 (.mk 2 2 0 []) exE
theorem ex_v0:validM exP0=(0, -1, -1):=by decide +kernel
theorem ex_v1:validM (exP (bs [120]) 1 (.mk 2 2 0 []) exE)=(70,0,0):=by decide +kernel
theorem ex_v2:validM (exP (bs [120]) 0 (.mk 1 2 1 []) exE)=(70,0,0):=by decide +kernel
theorem ex_v3:validM (exP (bs [120]) 0 (.mk 1 1 1 []) exE)=(60,0,0):=by decide +kernel
theorem ex_v4:validM (exP (bs [120]) 0 (.mk 2 2 0 []) (.mk 11 1 0 [.mk 3 2 0 [], .mk 2 2 0 []]))=(60,0, -1):=by decide +kernel
theorem ex_v5:validM (exP (bs [114]) 0 (.mk 2 2 0 []) exE)=(41, -1, -1):=by decide +kernel
theorem ex_t0:textP exP0=[99,101,108,108,32,120,32,50,32,48,32,45,49,32,48,32,48,10,99,101,108,108,32,114,32,50,32,48,32,48,32,48,32,48,10,109,111,100,117,108,101,32,77,32,65,110,110,32,110,111,110,101,32,49,58,49,32,48,10,116,104,114,101,97,100,32,116,32,48,10,112,111,105,110,116,32,48,32,49,58,49,10,112,111,105,110,116,32,48,32,49,58,49,10,115,116,101,112,32,50,32,48,32,49,32,49,58,49,32,48,32,48,32,48,32,49,32,99,48,58,50,10]:=by decide +kernel
theorem ex_r:readsM exStep=[0]:=by decide +kernel
theorem ex_w:writesM exStep=[1]:=by decide +kernel
theorem ex_s0:stepsM exP0 0 0=[0]:=by decide +kernel
theorem ex_s1:stepsM exP0 0 1=[]:=by decide +kernel
theorem ex_l:localsM exP0 0=[1]:=by decide +kernel
theorem ex_o:ofM exP0 (-1)=[0]:=by decide +kernel
theorem ex_e:(Expr.mk 2 2 1 []).valid exP0.cells false=true:=by decide +kernel
theorem found_ex (nm:ByteArray) (hn:nm.size<2^50) (fr:Int) (to as1:Expr) (e t s:Int) (hv:validM (exP nm fr to as1)=(e,t,s)):Den Γ G 235 [(.agg [.t (.sl ((exP nm fr to as1).cells.map (Cell.enc))), .t (.sl ((exP nm fr to as1).modules.map (Contract.enc))), .t (.sl ((exP nm fr to as1).locks.map (Lock.enc))), .t (.sl ((exP nm fr to as1).threads.map (Thread.enc)))]),vi e,vi t,vi s]=some (vb true):=by
 rw [found_den _ (ex_sane nm hn fr to as1),hv]; simp
def PV:V:=(.agg [.t (.sl ((exP0).cells.map (Cell.enc))), .t (.sl ((exP0).modules.map (Contract.enc))), .t (.sl ((exP0).locks.map (Lock.enc))), .t (.sl ((exP0).threads.map (Thread.enc)))])
def SV:V:=(.agg [.t (ti (exStep).kind), .t (ti (exStep).fr), .t (ti (exStep).to), .t (ti ((exStep).guard).op), .t (ti ((exStep).guard).w), .t (ti ((exStep).guard).n), .t (.sl (((exStep).guard).kids.map Expr.enc)), .t (.sl ((exStep).set.map Assign.enc)), .t (tb (exStep).release), .t (ti (exStep).target), .t (ti (exStep).module)])
def X7 (H:Nat->Option O):Prop := ∃ z,Ex7 z H 4 (bs [120]) 0 (.mk 2 2 0 []) exE
theorem X7.upd {H:Nat->Option O} (hx:X7 H) {k:Nat} (hk:30<=k) (o:Option O):X7 (updC H k o):=Ex7.upd hx hk o
theorem x_p {H:Nat->Option O} (hx:X7 H):toT1 H (V.agg [.ms 17 0 2, .ms 21 0 1, .t .nils, .ms 29 0 1])=some PV:=by
 obtain ⟨z,hx⟩:=hx; exact hx.tree
theorem x_s {H:Nat->Option O} (hx:X7 H):toT1 H (V.agg [.t (ti 2), .t (ti 0), .t (ti 1), .t (ti 1), .t (ti 1), .t (ti 1), .t (.sl []), .ms 11 0 1, .t (tb false), .t (ti 0), .t (ti 0)])=some SV:=by
 obtain ⟨z,hx⟩:=hx; exact hx.step_tree
theorem x_c {H:Nat->Option O} (hx:X7 H):toT1 H (.ms 17 0 2)=some (.t (.sl (exP0.cells.map Cell.enc))):=by
 obtain ⟨z,hx⟩:=hx
 have h0:toT H 1000 (.ms (4+13) 0 2)=some (.sl (exP0.cells.map Cell.enc)):=by
  refine toT_ms hx.k13 (by rfl) ?_
  simp [toT_t,exP0,exP,Cell.enc,T.norm]
 simp only [toT1,h0]; rfl
theorem X7.frz {H:Nat->Option O} {vs:List V} {r:V} {K:V->(Nat->Option O)->Prop} (hx:X7 H) (hk : ∀ H,X7 H->K r H):frzK H vs r K:=frzK_intro hx hk
section
variable {z:Nat->Bool} {h:Nat->Option O} {a:Nat} {nm:ByteArray} {fr:Int} {to as1:Expr}
theorem Ex7.setFr (hx:Ex7 z h a nm fr to as1) (q:Int):Ex7 z (updC h (a+23) (some (.rows 11 [[.t (ti 2), .t (ti q), .t (ti 1), .t (ti 1), .t (ti 1), .t (ti 1), .t (.sl []), .ms (a+7) 0 1, .t (tb false), .t (ti 0), .t (ti 0)]] (z 6)))) a nm q to as1:=by
 constructor <;> (rw [updC_at]; first | rw [if_pos rfl] | rw [if_neg (by omega)]) <;> first | exact hx.k7 | exact hx.k13 | exact hx.k15 | exact hx.k17 | exact hx.k20 | exact hx.k21 | exact hx.k23 | exact hx.k25
theorem Ex7.setTo (hx:Ex7 z h a nm fr to as1) (q:Expr):Ex7 z (updC h (a+7) (some (.rows 5 [.t (ti 1)::rowE q] (z 0)))) a nm fr q as1:=by
 constructor <;> (rw [updC_at]; first | rw [if_pos rfl] | rw [if_neg (by omega)]) <;> first | exact hx.k7 | exact hx.k13 | exact hx.k15 | exact hx.k17 | exact hx.k20 | exact hx.k21 | exact hx.k23 | exact hx.k25
theorem Ex7.setAs (hx:Ex7 z h a nm fr to as1) (q:Expr):Ex7 z (updC h (a+20) (some (.rows 4 [rowE exE,rowE q] (z 4)))) a nm fr to q:=by
 constructor <;> (rw [updC_at]; first | rw [if_pos rfl] | rw [if_neg (by omega)]) <;> first | exact hx.k7 | exact hx.k13 | exact hx.k15 | exact hx.k17 | exact hx.k20 | exact hx.k21 | exact hx.k23 | exact hx.k25
theorem Ex7.setNm (hx:Ex7 z h a nm fr to as1) (q:ByteArray):Ex7 z (updC h (a+13) (some (.rows 6 [[.t (.str q), .t (ti 2), .t (ti 0), .t (ti (-1)), .t (tb false), .t (ti 0)],[.t (.str (bs [114])), .t (ti 2), .t (ti 0), .t (ti 0), .t (tb false), .t (ti 0)]] (z 1)))) a q fr to as1:=by
 constructor <;> (rw [updC_at]; first | rw [if_pos rfl] | rw [if_neg (by omega)]) <;> first | exact hx.k7 | exact hx.k13 | exact hx.k15 | exact hx.k17 | exact hx.k20 | exact hx.k21 | exact hx.k23 | exact hx.k25
end
def Q1:V:=(.agg [.t (.sl ((exP (bs [120]) 1 (.mk 2 2 0 []) exE).cells.map (Cell.enc))), .t (.sl ((exP (bs [120]) 1 (.mk 2 2 0 []) exE).modules.map (Contract.enc))), .t (.sl ((exP (bs [120]) 1 (.mk 2 2 0 []) exE).locks.map (Lock.enc))), .t (.sl ((exP (bs [120]) 1 (.mk 2 2 0 []) exE).threads.map (Thread.enc)))])
def Q2:V:=(.agg [.t (.sl ((exP (bs [120]) 0 (.mk 1 2 1 []) exE).cells.map (Cell.enc))), .t (.sl ((exP (bs [120]) 0 (.mk 1 2 1 []) exE).modules.map (Contract.enc))), .t (.sl ((exP (bs [120]) 0 (.mk 1 2 1 []) exE).locks.map (Lock.enc))), .t (.sl ((exP (bs [120]) 0 (.mk 1 2 1 []) exE).threads.map (Thread.enc)))])
def Q3:V:=(.agg [.t (.sl ((exP (bs [120]) 0 (.mk 1 1 1 []) exE).cells.map (Cell.enc))), .t (.sl ((exP (bs [120]) 0 (.mk 1 1 1 []) exE).modules.map (Contract.enc))), .t (.sl ((exP (bs [120]) 0 (.mk 1 1 1 []) exE).locks.map (Lock.enc))), .t (.sl ((exP (bs [120]) 0 (.mk 1 1 1 []) exE).threads.map (Thread.enc)))])
def Q4:V:=(.agg [.t (.sl ((exP (bs [120]) 0 (.mk 2 2 0 []) (.mk 11 1 0 [.mk 3 2 0 [], .mk 2 2 0 []])).cells.map (Cell.enc))), .t (.sl ((exP (bs [120]) 0 (.mk 2 2 0 []) (.mk 11 1 0 [.mk 3 2 0 [], .mk 2 2 0 []])).modules.map (Contract.enc))), .t (.sl ((exP (bs [120]) 0 (.mk 2 2 0 []) (.mk 11 1 0 [.mk 3 2 0 [], .mk 2 2 0 []])).locks.map (Lock.enc))), .t (.sl ((exP (bs [120]) 0 (.mk 2 2 0 []) (.mk 11 1 0 [.mk 3 2 0 [], .mk 2 2 0 []])).threads.map (Thread.enc)))])
def Q5:V:=(.agg [.t (.sl ((exP (bs [114]) 0 (.mk 2 2 0 []) exE).cells.map (Cell.enc))), .t (.sl ((exP (bs [114]) 0 (.mk 2 2 0 []) exE).modules.map (Contract.enc))), .t (.sl ((exP (bs [114]) 0 (.mk 2 2 0 []) exE).locks.map (Lock.enc))), .t (.sl ((exP (bs [114]) 0 (.mk 2 2 0 []) exE).threads.map (Thread.enc)))])
theorem head7_den:Den Γ G 216 []=some (vb true):=by
 (refine den_ofY Γ216 rfl ?_; dsimp only [f216])
 simp -dsimp -implicitDefEqProofs only [go_sem,seval]
 refine rawK_of (example7_den _ _) ?_
 rintro r h1 n1 ⟨rfl,rfl,hx0⟩
 have hx:X7 h1:=⟨_,hx0⟩
 have t1:=x_p hx
 have c1:=x_c hx
 have s1:=x_s hx
 have d1:Den Γ G 235 [PV,vi 0,vi (-1),vi (-1)]=some (vb true):=found_ex (bs [120]) (by decide +kernel) 0 (.mk 2 2 0 []) exE 0 (-1) (-1) ex_v0
 have d2:=cellL_den 1 2
 have d3:=validP_den (Expr.mk 2 2 1 []) exP0.cells false
 rw [ex_e] at d3
 have dr:Den Γ G 31 [SV]=some (.t (.sl [[ti 0]])):=by have:=reads_den exStep (by decide); rw [ex_r] at this; exact this
 have dw:Den Γ G 28 [SV]=some (.t (.sl [[ti 1]])):=by have:=writes_den exStep (by decide); rw [ex_w] at this; exact this
 have ds0:Den Γ G 224 [PV,vi 0,vi 0]=some (.t (.sl [[ti 0]])):=by have:=stepsP_den exP0 0 0 (by simp [exP0,exP]); rw [ex_s0] at this; exact this
 have ds1:Den Γ G 224 [PV,vi 0,vi 1]=some (.t (.sl [])):=by have:=stepsP_den exP0 0 1 (by simp [exP0,exP]); rw [ex_s1] at this; exact this
 have dl:Den Γ G 226 [PV,vi 0]=some (.t (.sl [[ti 1]])):=by have:=localsP_den exP0 0 (by decide); rw [ex_l] at this; exact this
 have dh:Den Γ G 228 [PV]=some (.t (.sl [[ti 0]])):=by have:=sharedLP_den exP0 (by decide); rw [ex_o] at this; exact this
 have dt:Den Γ G 219 [PV]=some (.t (.str (bs (textP exP0)))):=textProg_den exP0 (ex_sane _ (by decide +kernel) _ _ _) (ex_few _ _ _ _)
 rw [ex_t0] at dt
 dsimp only at dt
 have i0:Den Γ G 221 [.t (.sl [[ti 0]]), .t (.sl [[ti 0]])]=some (vb true):=(ints_den [0] [0] (by decide)).trans (by simp)
 have i1:Den Γ G 221 [.t (.sl [[ti 1]]), .t (.sl [[ti 1]])]=some (vb true):=(ints_den [1] [1] (by decide)).trans (by simp)
 simp only [go_sem] at d2 d3
 have e1:Den Γ G 235 [Q1,vi 70,vi 0,vi 0]=some (vb true):=found_ex _ (by decide +kernel) _ _ _ _ _ _ ex_v1
 have e2:Den Γ G 235 [Q2,vi 70,vi 0,vi 0]=some (vb true):=found_ex _ (by decide +kernel) _ _ _ _ _ _ ex_v2
 have e3:Den Γ G 235 [Q3,vi 60,vi 0,vi 0]=some (vb true):=found_ex _ (by decide +kernel) _ _ _ _ _ _ ex_v3
 have e4:Den Γ G 235 [Q4,vi 60,vi 0,vi (-1)]=some (vb true):=found_ex _ (by decide +kernel) _ _ _ _ _ _ ex_v4
 have e5:Den Γ G 235 [Q5,vi 41,vi (-1),vi (-1)]=some (vb true):=found_ex _ (by decide +kernel) _ _ _ _ _ _ ex_v5
 have et:Den Γ G 219 [Q1]=some (.t (.str (bs []))):=by
  have:=textProg_den (exP (bs [120]) 1 (.mk 2 2 0 []) exE) (ex_sane _ (by decide +kernel) _ _ _) (ex_few _ _ _ _)
  rw [textP,ex_v1] at this; exact this
 have c12:=const_den 1 2
 have c11:=const_den 1 1
 have o02:=old_den 0 2
 have l02:=cellL_den 0 2
 have tw:=two_den 11 1 (.mk 3 2 0 []) (.mk 2 2 0 [])
 simp only [go_sem,List.map_cons,List.map_nil,Expr.enc_eq] at c12 c11 o02 l02 tw
 obtain ⟨k7,k13,k15,k17,k20,k21,k23,k25⟩:=hx0
 simp only [Nat.reduceAdd,rowE,exE,go_sem] at k7 k13 k15 k17 k20 k21 k23 k25
 simp -dsimp -implicitDefEqProofs only [go_sem,seval, ↓t1, ↓c1, ↓s1,d1,d2,d3,dr,k23,k25,denS_frz]
 refine X7.frz (by first | exact hx | exact hx.upd (by decide) _) ?_
 clear t1 s1 c1 k7 k13 k15 k17 k20 k21 k23 k25 hx h1
 rintro h1 hx
 have t1:=x_p hx
 have s1:=x_s hx
 have t2:=fun k o hk=>x_p (H:=updC h1 k o) (hx.upd hk o)
 have s2:=fun k o hk=>x_s (H:=updC h1 k o) (hx.upd hk o)
 simp -dsimp -implicitDefEqProofs only [go_sem,seval, ↓t1, ↓t2, ↓s1, ↓s2,denS_frz,i0,dw]
 refine X7.frz (by first | exact hx | exact hx.upd (by decide) _) ?_
 clear t1 t2 s1 s2 hx h1
 rintro h1 hx
 have t1:=x_p hx
 have s1:=x_s hx
 have t2:=fun k o hk=>x_p (H:=updC h1 k o) (hx.upd hk o)
 have s2:=fun k o hk=>x_s (H:=updC h1 k o) (hx.upd hk o)
 simp -dsimp -implicitDefEqProofs only [go_sem,seval, ↓t1, ↓t2, ↓s1, ↓s2,denS_frz,i1,ds0]
 refine X7.frz (by first | exact hx | exact hx.upd (by decide) _) ?_
 clear t1 t2 s1 s2 hx h1
 rintro h1 hx
 have t1:=x_p hx
 have s1:=x_s hx
 have t2:=fun k o hk=>x_p (H:=updC h1 k o) (hx.upd hk o)
 have s2:=fun k o hk=>x_s (H:=updC h1 k o) (hx.upd hk o)
 simp -dsimp -implicitDefEqProofs only [go_sem,seval, ↓t1, ↓t2, ↓s1, ↓s2,denS_frz,i0,ds1,denS_sl0,dl]
 refine X7.frz (by first | exact hx | exact hx.upd (by decide) _) ?_
 clear t1 t2 s1 s2 hx h1
 rintro h1 hx
 have t1:=x_p hx
 have s1:=x_s hx
 have t2:=fun k o hk=>x_p (H:=updC h1 k o) (hx.upd hk o)
 have s2:=fun k o hk=>x_s (H:=updC h1 k o) (hx.upd hk o)
 simp -dsimp -implicitDefEqProofs only [go_sem,seval, ↓t1, ↓t2, ↓s1, ↓s2,denS_frz,i1,dh]
 refine X7.frz (by first | exact hx | exact hx.upd (by decide) _) ?_
 clear t1 t2 s1 s2 hx h1
 rintro h1 hx
 have t1:=x_p hx
 have s1:=x_s hx
 have t2:=fun k o hk=>x_p (H:=updC h1 k o) (hx.upd hk o)
 have s2:=fun k o hk=>x_s (H:=updC h1 k o) (hx.upd hk o)
 simp -dsimp -implicitDefEqProofs only [go_sem,seval, ↓t1, ↓t2, ↓s1, ↓s2,denS_frz,i0,dt,beq_self_eq_true]
 refine rawK_of (example7_den _ _) ?_
 clear hx t1 t2 s1 s2 h1
 rintro r h1 n1 ⟨rfl,rfl,hx⟩
 have tq:=(hx.setFr 1).tree
 obtain ⟨k7,k13,k15,k17,k20,k21,k23,k25⟩:=hx
 simp only [Nat.reduceAdd] at tq
 conv at tq=>rhs; change some Q1
 simp only [Nat.reduceAdd,rowE,exE,go_sem] at k7 k13 k15 k17 k20 k21 k23 k25
 simp -dsimp -implicitDefEqProofs only [go_sem,seval, ↓tq,k7,k23,k25,e1,et,beq_self_eq_true]
 refine rawK_of (example7_den _ _) ?_
 clear tq k7 k13 k15 k17 k20 k21 k23 k25 h1
 rintro r h1 n1 ⟨rfl,rfl,hx⟩
 obtain ⟨k7,k13,k15,k17,k20,k21,k23,k25⟩:=id hx
 simp only [Nat.reduceAdd,rowE,exE,go_sem] at k7 k13 k15 k17 k20 k21 k23 k25
 have tq:=(hx.setTo (.mk 1 2 1 [])).tree
 simp only [Nat.reduceAdd,rowE,exE,Expr.op_mk,Expr.w_mk,Expr.n_mk,Expr.kids_mk,List.map_nil,List.map_cons,Expr.enc_eq] at tq
 conv at tq=>rhs; change some Q2
 simp -dsimp -implicitDefEqProofs only [go_sem,seval, ↓tq,k7,k23,k25,e2,c12]
 clear tq
 have tq:=((hx.setTo (.mk 1 2 1 [])).setTo (.mk 1 1 1 [])).tree
 simp only [Nat.reduceAdd,rowE,exE,Expr.op_mk,Expr.w_mk,Expr.n_mk,Expr.kids_mk,List.map_nil,List.map_cons,Expr.enc_eq] at tq
 conv at tq=>rhs; change some Q3
 simp -dsimp -implicitDefEqProofs only [go_sem,seval, ↓tq,k7,k23,k25,e3,c11]
 refine rawK_of (example7_den _ _) ?_
 clear tq hx k7 k13 k15 k17 k20 k21 k23 k25 h1
 rintro r h1 n1 ⟨rfl,rfl,hx⟩
 obtain ⟨k7,k13,k15,k17,k20,k21,k23,k25⟩:=id hx
 simp only [Nat.reduceAdd,rowE,exE,go_sem] at k7 k13 k15 k17 k20 k21 k23 k25
 have tq:=(hx.setAs (.mk 11 1 0 [.mk 3 2 0 [], .mk 2 2 0 []])).tree
 simp only [Nat.reduceAdd,rowE,exE,Expr.op_mk,Expr.w_mk,Expr.n_mk,Expr.kids_mk,List.map_nil,List.map_cons,Expr.enc_eq] at tq
 conv at tq=>rhs; change some Q4
 simp -dsimp -implicitDefEqProofs only [go_sem,seval, ↓tq,k20,k25,e4,o02,l02,tw]
 refine rawK_of (example7_den _ _) ?_
 clear tq hx k7 k13 k15 k17 k20 k21 k23 k25 h1
 rintro r h1 n1 ⟨rfl,rfl,hx⟩
 obtain ⟨k7,k13,k15,k17,k20,k21,k23,k25⟩:=id hx
 simp only [Nat.reduceAdd,rowE,exE,go_sem] at k7 k13 k15 k17 k20 k21 k23 k25
 have tq:=(hx.setNm (bs [114])).tree
 simp only [Nat.reduceAdd,rowE,exE,Expr.op_mk,Expr.w_mk,Expr.n_mk,Expr.kids_mk,List.map_nil,List.map_cons,Expr.enc_eq] at tq
 conv at tq=>rhs; change some Q5
 simp -dsimp -implicitDefEqProofs only [go_sem,seval, ↓tq,k13,e5]
end Rg
end
section
namespace Rg
open Go
structure Like (p q:Prog):Prop where
 cells:p.cells=q.cells
 mods:p.modules.length=q.modules.length
 thr:p.threads.length=q.threads.length
 asl : ∀ t,asleepAt p t=asleepAt q t
variable {p q:Prog}
end Rg
end
section
namespace Rg
open Go
def thrPre (p:Prog) (i:Nat) (x:Thread):Prop :=
 isLabel x.name=true/\(p.threads.take i).any (fun d=>d.name.toList==x.name.toList)=false/\(1<=x.points/\(x.asserts.length:Int)=x.points/\(x.modules.length:Int)=x.points) /\
  x.modules.all (fun m=>inR m p.modules.length)=true/\x.asserts.all (fun e=>truthOk p e false i)=true
def preOk (p:Prog):Prop:=(limitsM p).1=0/\cellsM p=0/\modulesM p=0/\locksM p=0
structure AtStep (p:Prog) (e:Int) (t s:Nat) (x:Thread) (y:Step):Prop where
 pre:preOk p
 before : ∀ (j:Nat) (z:Thread),j<t->p.threads[j]? = some z->(threadErr p j z).1=0
 hx:p.threads[t]? = some x
 tp:thrPre p t x
 hy:x.steps[s]? = some y
 steps : ∀ (k:Nat) (z:Step),k<s->x.steps[k]? = some z->stepErr p t x.points z=0
 err:stepErr p t x.points y=e
 ne:e≠0
end Rg
end
section
namespace Rg
open Go
section
variable {p:Prog} {i k:Nat} {x:Thread}
end
end Rg
end
section
set_option maxRecDepth 100000
namespace Rg
open Go
theorem idxN_count {α:Type} (f:α->Bool) (l:List α) (c:Nat) : ∀ i,i<=l.length->(idxN f l i).countP (fun y=>decide (y=(c:Int)))=if c<i/\(l[c]?.any f)=true then 1 else 0
 | 0,_=>by simp [idxN_zero]
 | i+1,hi=>by
  obtain ⟨x,hx⟩ : ∃ x,l[i]? = some x:=⟨_,List.getElem?_eq_getElem (by omega)⟩
  rw [idxN_succ f hx,List.countP_append,idxN_count f l c i (by omega)]
  by_cases hc:c=i
  ·subst hc
   rw [hx]
   cases hf:f x <;> simp [hf]
  ·have h1:c<i+1<->c<i:=by omega
   have:List.countP (fun y=>decide (y=(c:Int))) (if f x=true then [(i:Int)] else [])=0:=by
    cases f x <;> simp; omega
   rw [this,Nat.add_zero]; simp only [h1]
theorem idxM_count {α:Type} (f:α->Bool) {l:List α} {c:Nat} {x:α} (hx:l[c]? = some x):(idxM f l).countP (fun y=>decide (y=(c:Int)))=if f x then 1 else 0:=by
 unfold idxM
 rw [idxN_count f l c _ (Nat.le_refl _),hx]
 have:=(List.getElem?_eq_some_iff.1 hx).1
 simp [this]
theorem idxM_nil {α:Type} (f:α->Bool) {l:List α} (h : ∀ x∈l,f x=false):idxM f l=[]:=by
 unfold idxM
 have : ∀ i,i<=l.length->idxN f l i=[]:=by
  intro i
  induction i with
  | zero=>intro _; exact idxN_zero f l
  | succ i ih =>
   intro hi
   obtain ⟨x,hx⟩ : ∃ x,l[i]? = some x:=⟨_,List.getElem?_eq_getElem (by omega)⟩
   rw [idxN_succ f hx,ih (by omega),h x (List.mem_of_getElem? hx)]; simp
 exact this _ (Nat.le_refl _)
theorem shared_count {p:Prog} {c:Nat} {x:Cell} (hx:p.cells[c]? = some x):(ofM p (-1)).countP (fun y=>decide (y=(c:Int)))=if x.thread = -1 then 1 else 0:=by
 unfold ofM
 rw [idxM_count _ hx]; simp
theorem locals_count {p:Prog} {c:Nat} {x:Cell} (hx:p.cells[c]? = some x) (t:Nat):(localsM p t).countP (fun y=>decide (y=(c:Int)))=if x.thread=t then 1 else 0:=by
 unfold localsM ofM
 rw [if_neg (by omega),idxM_count _ hx]; simp
theorem steps_count {p:Prog} {t s:Nat} {x:Thread} {y:Step} (hx:p.threads[t]? = some x) (hy:x.steps[s]? = some y) (k:Int):(stepsM p t k).countP (fun z=>decide (z=(s:Int)))=if y.fr=k then 1 else 0:=by
 have ht:=(List.getElem?_eq_some_iff.1 hx).1
 unfold stepsM
 rw [if_pos (by simp [inR]; omega),Int.toNat_natCast,hx,idxM_count _ hy]; simp
theorem Prog.ok.cell {p:Prog} (h:p.ok) {c:Nat} {x:Cell} (hx:p.cells[c]? = some x) : -1<=x.thread/\x.thread<p.threads.length:=by
 have:=(cellErr_iff.1 ((ok_iff.1 h).cells c x hx)).1
 simp only [cellBad,Bool.or_eq_false_iff,decide_eq_false_iff_not] at this
 omega
theorem Prog.ok.thr {p:Prog} (h:p.ok) {t:Nat} {x:Thread} (hx:p.threads[t]? = some x):1<=x.points/\x.points<=48:=by
 have h1:=(threadErr_iff.1 ((ok_iff.1 h).threads t x hx)).2.2.1.1
 have h2:=((limits_iff.1 (ok_iff.1 h).lim).2 x (List.mem_of_getElem? hx)).1
 exact ⟨h1,h2⟩
theorem Prog.ok.step {p:Prog} (h:p.ok) {t s:Nat} {x:Thread} {y:Step} (hx:p.threads[t]? = some x) (hy:x.steps[s]? = some y):0<=y.fr/\y.fr<x.points-1:=by
 have h1:=(threadErr_iff.1 ((ok_iff.1 h).threads t x hx)).2.2.2.2.2.1 s y hy
 have h2:=(stepErr_iff.1 h1).1
 simp only [stepBad,Bool.or_eq_false_iff,decide_eq_false_iff_not,Bool.not_eq_false',inR,decide_eq_true_eq] at h2
 omega
theorem exit_nil {p:Prog} (h:p.ok) {t:Nat} {x:Thread} (hx:p.threads[t]? = some x):stepsM p t (x.points-1)=[]:=by
 have ht:=(List.getElem?_eq_some_iff.1 hx).1
 unfold stepsM
 rw [if_pos (by simp [inR]; omega),Int.toNat_natCast,hx]
 refine idxM_nil _ fun y hy => ?_
 obtain ⟨s,hs,rfl⟩:=List.mem_iff_getElem.1 hy
 have:=h.step hx (List.getElem?_eq_getElem hs)
 simp; omega
theorem good7_ok {L:Int} {p:Prog} (h:good7M L p=true):p.ok:=by
 unfold good7M at h
 simp only [Bool.and_eq_true,decide_eq_true_eq] at h
 exact h.2
theorem good7_small {L:Int} {p:Prog} (h:good7M L p=true):p.SmallP L:=by
 unfold good7M at h
 simp only [Bool.and_eq_true,decide_eq_true_eq] at h
 exact progSmall_of h.1
def bi (b:Bool):Int:=if b then 1 else 0
theorem bi_wrap (b:Bool):IntKind.i64.wrap (bi b)=bi b:=by cases b <;> rfl
theorem shared_bi {p:Prog} {c:Nat} {x:Cell} (hx:p.cells[c]? = some x):(((ofM p (-1)).countP (fun y=>decide (y=(c:Int))):Nat):Int)=bi (decide (x.thread = -1)):=by
 rw [shared_count hx]; by_cases h:x.thread = -1 <;> simp [h,bi]
theorem locals_bi {p:Prog} {c:Nat} {x:Cell} (hx:p.cells[c]? = some x) (t:Nat):(((localsM p t).countP (fun y=>decide (y=(c:Int))):Nat):Int)=bi (decide (x.thread=t)):=by
 rw [locals_count hx]; by_cases h:x.thread=t <;> simp [h,bi]
theorem steps_bi {p:Prog} {t s:Nat} {x:Thread} {y:Step} (hx:p.threads[t]? = some x) (hy:x.steps[s]? = some y) (k:Int):(((stepsM p t k).countP (fun z=>decide (z=(s:Int))):Nat):Int)=bi (decide (y.fr=k)):=by
 rw [steps_count hx hy]; by_cases h:y.fr=k <;> simp [h,bi]
theorem bi_add (a:Int) (k:Nat):bi (decide (a<(k:Int)))+bi (decide (a=k))=bi (decide (a<((k+1:Nat):Int))):=by
 unfold bi
 simp only [decide_eq_true_eq]
 split <;> split <;> split <;> omega
theorem bi_one {b:Bool} (h:b=true):bi b=1:=by rw [h]; rfl
theorem lawCells_den (p:Prog) (hl:p.lite7):Den Γ G 209 [(.agg [.t (.sl ((p).cells.map (Cell.enc))), .t (.sl ((p).modules.map (Contract.enc))), .t (.sl ((p).locks.map (Lock.enc))), .t (.sl ((p).threads.map (Thread.enc)))])]=some (vb true):=by
 (refine den_ofY Γ209 rfl ?_; dsimp only [f209])
 have h0:=head7_den
 have h1:=good7_den p hl 40 (by decide)
 cases hg:good7M 40 p
 ·rw [hg] at h1
  simp -dsimp -implicitDefEqProofs only [go_sem,seval,h0,h1]
 rw [hg] at h1
 have hok:=good7_ok hg
 have hsm:=good7_small hg
 have hcl:=hsm.cells
 have htl:=hsm.threads
 have hsh:=sharedLP_den p (by omega)
 simp -dsimp -implicitDefEqProofs only [go_sem,seval,h0,h1]
 refine loopY 17592185913460 p.cells.length (fun i f=>(f 4).v=vi i) rfl rfl (by simp -dsimp -implicitDefEqProofs only [go_sem,seval]) ?_
 rintro i f u kk bq hi h4
 have hw:=wrapS i (by omega)
 simp -dsimp -implicitDefEqProofs only [go_sem,seval,h4]
 refine csplit (fun h => ?_) (fun h => ?_) <;> (try rw [h]) <;> (try simp only [bools] at h) <;> (try simp -dsimp -implicitDefEqProofs only [go_sem,seval,h4])
 ·obtain ⟨c,hc,_⟩:=get_of ‹i<p.cells.length›
  have hct:=hok.cell hc
  have ht:=times_den (ofM p (-1)) i (by unfold ofM; exact Nat.lt_of_le_of_lt (idxN_len _ _ _) (by omega))
  rw [shared_bi hc] at ht
  simp -dsimp -implicitDefEqProofs only [go_sem,seval,h4,hsh,ht]
  refine loopY 4397778075744 p.threads.length (fun t f1=>(f1 6).v=vi t/\(f1 5).v=vi (bi (decide (c.thread<(t:Int))))) rfl rfl ⟨by simp -dsimp -implicitDefEqProofs only [go_sem,seval], ?_⟩ ?_
  ·simp -dsimp -implicitDefEqProofs only [go_sem,seval]
   have:decide (c.thread = -1)=decide (c.thread<((0:Nat):Int)):=by congr 1; apply propext; omega
   rw [this]; rfl
  ·rintro t f1 u1 k1 b1 ht1 ⟨h6,h5⟩
   have hw1:=wrapS t (by omega)
   simp -dsimp -implicitDefEqProofs only [go_sem,seval,h6,h5]
   refine csplit (fun h => ?_) (fun h => ?_) <;> (try rw [h]) <;> (try simp only [bools] at h) <;> (try simp -dsimp -implicitDefEqProofs only [go_sem,seval,h6,h5])
   ·have hlo:=localsP_den p t (by omega)
    have ht2:=times_den (localsM p t) i (by unfold localsM ofM; split <;> first | (exact Nat.lt_of_le_of_lt (idxN_len _ _ _) (by omega)) | simp)
    rw [locals_bi hc] at ht2
    have hba:=bi_add c.thread t
    have hbw:=bi_wrap (decide (c.thread<((t+1:Nat):Int)))
    simp -dsimp -implicitDefEqProofs only [go_sem,seval,h4,h6,h5,hlo,ht2]
    show _/\_
    refine ⟨by omega,by simp -dsimp -implicitDefEqProofs only [go_sem,seval,hw1], ?_⟩
    simp -dsimp -implicitDefEqProofs only [go_sem,seval,hba,hbw]
   ·have:t=p.threads.length:=by omega
    subst this
    have hb1:=bi_one (b:=decide (c.thread<(p.threads.length:Int))) (by simp; omega)
    simp -dsimp -implicitDefEqProofs only [go_sem,seval,h4,hb1]
    show _/\_
    exact ⟨by omega,by simp -dsimp -implicitDefEqProofs only [go_sem,seval,hw]⟩
 ·clear h4
  refine loopY 40564819207303340830302316531588 p.threads.length (fun i f=>(f 7).v=vi i) rfl rfl (by simp -dsimp -implicitDefEqProofs only [go_sem,seval]) ?_
  rintro t f u kk bq hi h7
  have hw:=wrapS t (by omega)
  simp -dsimp -implicitDefEqProofs only [go_sem,seval,h7]
  refine csplit (fun h => ?_) (fun h => ?_) <;> (try rw [h]) <;> (try simp only [bools] at h) <;> (try simp -dsimp -implicitDefEqProofs only [go_sem,seval,h7])
  ·obtain ⟨x,hx,hxm⟩:=get_of ‹t<p.threads.length›
   have hxt:=hok.thr hx
   have hxs:=hsm.thr x hxm
   have hwp:IntKind.i64.wrap (x.points-1)=x.points-1:=wrap64 (by omega)
   have hstp : ∀ k:Int,Den Γ G 224 [(.agg [.t (.sl ((p).cells.map (Cell.enc))), .t (.sl ((p).modules.map (Contract.enc))), .t (.sl ((p).locks.map (Lock.enc))), .t (.sl ((p).threads.map (Thread.enc)))]),vi t,vi k]=some (.t (ints (stepsM p t k))):=fun k=>stepsP_den p t k (fun x hx=>by have:=(hsm.thr x hx).2.2.1; omega)
   have hex:Den Γ G 224 [(.agg [.t (.sl ((p).cells.map (Cell.enc))), .t (.sl ((p).modules.map (Contract.enc))), .t (.sl ((p).locks.map (Lock.enc))), .t (.sl ((p).threads.map (Thread.enc)))]),vi t,vi (x.points-1)]=some (.t (.sl [])):=by
    rw [hstp,exit_nil hok hx]; rfl
   have hsl : ∀ k:Int,(stepsM p t k).length<2^40:=by
    intro k
    unfold stepsM
    split
    ·rw [Int.toNat_natCast,hx]; exact Nat.lt_of_le_of_lt (idxN_len _ _ _) (by omega)
    ·simp
   simp -dsimp -implicitDefEqProofs only [go_sem,seval,h7,hx]
   refine loopY 158456325028456617593049976324 x.steps.length (fun s f=>(f 9).v=vi s) rfl rfl (by simp -dsimp -implicitDefEqProofs only [go_sem,seval]) ?_
   rintro s f1 u1 k1 b1 hs h9
   have hws:=wrapS s (by omega)
   simp -dsimp -implicitDefEqProofs only [go_sem,seval,h7,h9]
   refine csplit (fun h => ?_) (fun h => ?_) <;> (try rw [h]) <;> (try simp only [bools] at h) <;> (try simp -dsimp -implicitDefEqProofs only [go_sem,seval,h7,h9])
   ·obtain ⟨y,hy,hym⟩:=get_of ‹s<x.steps.length›
    have hyf:=hok.step hx hy
    have hb1:=bi_one (b:=decide (y.fr<(x.points.toNat:Int))) (by simp; omega)
    have htm : ∀ k:Int,Den Γ G 231 [.t (ints (stepsM p t k)),vi s]=some (vi (bi (decide (y.fr=k)))):=by
     intro k; rw [times_den _ _ (hsl k),steps_bi hx hy]
    refine loopY 2417842415857221494639616 x.points.toNat (fun k f=>(f 11).v=vi k/\(f 10).v=vi (bi (decide (y.fr<(k:Int))))) rfl rfl ⟨by simp -dsimp -implicitDefEqProofs only [go_sem,seval], ?_⟩ ?_
    ·simp -dsimp -implicitDefEqProofs only [go_sem,seval]
     unfold bi; rw [if_neg (by simp; omega)]
    ·rintro k f2 u2 k2 b2 hk ⟨h11,h10⟩
     have hwk:=wrapS k (by omega)
     have hba:=bi_add y.fr k
     have hbw:=bi_wrap (decide (y.fr<((k+1:Nat):Int)))
     have h48:decide ((k:Int)<=48)=true:=by simp; omega
     simp -dsimp -implicitDefEqProofs only [go_sem,seval,h11,h10,h48]
     refine csplit (fun h => ?_) (fun h => ?_) <;> (try rw [h]) <;> (try simp only [bools] at h) <;> (try simp -dsimp -implicitDefEqProofs only [go_sem,seval,h11,h10,h48])
     ·simp -dsimp -implicitDefEqProofs only [go_sem,seval,h7,h9,h11,h10,hstp k,htm k]
      show _/\_
      refine ⟨by omega,by simp -dsimp -implicitDefEqProofs only [go_sem,seval,hwk], ?_⟩
      simp -dsimp -implicitDefEqProofs only [go_sem,seval,hba,hbw]
     ·have:k=x.points.toNat:=by omega
      subst this
      have h1k:=htm y.fr
      rw [bi_one (by simp)] at h1k
      simp -dsimp -implicitDefEqProofs only [go_sem,seval,h7,h9,hb1,hy,hstp y.fr,h1k]
      show _/\_
      exact ⟨by omega,by simp -dsimp -implicitDefEqProofs only [go_sem,seval,hws]⟩
   ·simp -dsimp -implicitDefEqProofs only [go_sem,seval,h7,hwp,hex]
    show _/\_
    exact ⟨by omega,by simp -dsimp -implicitDefEqProofs only [go_sem,seval,hw]⟩
end Rg
end
section
namespace Rg
open Go
section
variable {p:Prog} {i:Nat} {x x' : Thread}
end
end Rg
end
section
namespace Rg
open Go
end Rg
end
section
namespace Rg
open Go
structure KindFacts (p:Prog) (t:Int) (s:Step):Prop where
 r : ∀ c∈readsM s,sees p t c=true
 w : ∀ c∈writesM s,sees p t c=true
 k1:s.kind=1->(∀ c∈readsM s,ofThread p t c=true) /\ ∀ c∈writesM s,ofThread p t c=true
 k2:s.kind=2->(∃ n∈readsM s,ofThread p (-1) n=true /\ ∀ c∈readsM s,ofThread p (-1) c=true->ofThread p t c=false->c=n)/\(∀ c∈writesM s,ofThread p t c=true)/\writesM s≠[]
 k3:s.kind=3->(∀ c∈readsM s,ofThread p t c=true) /\ ∃ n∈writesM s,ofThread p (-1) n=true/\cellIs p n Cell.ghost=false /\ ∀ c∈writesM s,cellIs p c Cell.ghost=false->c=n
 k5:4<s.kind->readsM s=[]/\writesM s=[]
end Rg
end
section
set_option maxRecDepth 100000
namespace Rg
open Go
end Rg
end
section
set_option maxRecDepth 100000
namespace Rg
open Go
end Rg
end
section
set_option maxRecDepth 100000
namespace Rg
open Go
end Rg
end
section
set_option maxRecDepth 100000
namespace Rg
open Go
end Rg
end
section
set_option maxRecDepth 100000
namespace Rg
open Go
end Rg
end
section
set_option maxRecDepth 100000
namespace Rg
open Go
end Rg
end
section
set_option maxRecDepth 100000
namespace Rg
open Go
def sml (z:Int):Prop := -1000<z/\z<1000
structure Thr7 (x:Thread):Prop extends ThrOk x where
 pts:(x.asserts.length:Int)=x.points
 sm : ∀ z∈x.modules,sml z
 ab : ∀ e∈x.asserts,e.absent=false
 ss : ∀ s∈x.steps,sml s.kind/\sml s.fr/\sml s.to/\sml s.target/\sml s.module/\(∀ a∈s.set,sml a.cell/\a.to.absent=false)/\s.guard.absent=false
 ls : ∀ l∈x.loops,sml l.head/\(∀ z∈l.body,sml z)/\l.variant.absent=false
end Rg
end
section
set_option maxRecDepth 100000
namespace Rg
open Go
theorem inR_sml {z n:Int} (h:inR z n=true) (hn:n<=999):sml z:=by
 unfold inR at h
 simp only [decide_eq_true_eq] at h
 unfold sml; omega
structure Nums7 (p:Prog):Prop where
 cell : ∀ c∈p.cells,isLabel c.name=true/\sml c.w/\sml c.init/\sml c.thread/\sml c.module
 mods : ∀ m∈p.modules,isLabel m.name=true/\isLabel m.owner=true /\ ∀ z∈m.frame,sml z
 lock : ∀ l∈p.locks,sml l.cell/\sml l.module
 thr : ∀ x∈p.threads,isLabel x.name=true/\x.asserts.length<=48/\x.modules.length=x.asserts.length/\x.steps.length<=64/\x.loops.length<=8/\(∀ z∈x.modules,sml z) /\
  (∀ s∈x.steps,sml s.kind/\sml s.fr/\sml s.to/\sml s.target/\sml s.module /\ ∀ a∈s.set,sml a.cell) /\ ∀ l∈x.loops,sml l.head /\ ∀ z∈l.body,sml z
 lens:p.cells.length<=32/\p.modules.length<=6/\p.locks.length<=4/\p.threads.length<=4
theorem nums7_of {p:Prog} (h:p.ok):Nums7 p:=by
 obtain ⟨hl,hc,hm,hk,ht⟩:=ok_iff.1 h
 obtain ⟨⟨l1,l2,l3,l4⟩,l5⟩:=limits_iff.1 hl
 refine ⟨fun c hcm => ?_,fun m hmm => ?_,fun l hlm => ?_,fun x hxm => ?_,⟨l1,l2,l3,l4⟩⟩
 ·obtain ⟨i,hi,rfl⟩:=List.mem_iff_getElem.1 hcm
  obtain ⟨b1,b2,b3,b4,b5,b6,b7,b8⟩:=cellBad_parts (cellErr_iff.1 (hc i _ (List.getElem?_eq_getElem hi))).1
  have hp:(2:Int)^(p.cells[i]).w.toNat<=2^8:=pow2_le (by omega)
  have hp' : (2:Int)^8=256:=rfl
  refine ⟨b1, ?_, ?_, ?_,inR_sml b8 (by omega)⟩ <;> (unfold sml; omega)
 ·obtain ⟨i,hi,rfl⟩:=List.mem_iff_getElem.1 hmm
  obtain ⟨⟨b1,b2⟩,_,_,_,b5⟩:=modErr_iff.1 (hm i _ (List.getElem?_eq_getElem hi))
  refine ⟨b1,b2,fun z hz => ?_⟩
  have:=ofThread_rng (List.all_eq_true.1 b5 z hz)
  unfold sml; omega
 ·obtain ⟨i,hi,rfl⟩:=List.mem_iff_getElem.1 hlm
  obtain ⟨⟨b1,_,_,b4⟩,_⟩:=lockErr_iff.1 (hk i _ (List.getElem?_eq_getElem hi))
  have:=ofThread_rng b1
  exact ⟨by unfold sml; omega,inR_sml b4 (by omega)⟩
 ·have hx5:=l5 x hxm
  obtain ⟨i,hi,rfl⟩:=List.mem_iff_getElem.1 hxm
  obtain ⟨b1,_,b3,b4,_,b6,b7⟩:=threadErr_iff.1 (ht i _ (List.getElem?_eq_getElem hi))
  refine ⟨b1,by omega,by omega,by omega,by omega,fun z hz=>inR_sml (List.all_eq_true.1 b4 z hz) (by omega),fun s hs => ?_,fun l hl => ?_⟩
  ·obtain ⟨j,hj,rfl⟩:=List.mem_iff_getElem.1 hs
   obtain ⟨c1,_,c3,c4⟩:=stepErr_iff.1 (b6 j _ (List.getElem?_eq_getElem hj))
   have htg:=kind_target c1 c4
   unfold stepBad at c1
   simp only [Bool.or_eq_false_iff,Bool.and_eq_false_iff,decide_eq_false_iff_not,Bool.not_eq_false',Bool.or_eq_true,decide_eq_true_eq,ne_eq,Decidable.not_not] at c1
   obtain ⟨⟨⟨⟨⟨⟨d1,d2⟩,d3⟩,d4⟩,d5⟩,_⟩,_⟩:=c1
   refine ⟨by unfold sml; omega,inR_sml d3 (by omega),inR_sml d4 (by omega), ?_,inR_sml d5 (by omega),fun a ha => ?_⟩
   ·rcases htg with h | h
    ·rw [h]; unfold sml; omega
    ·exact inR_sml h (by omega)
   ·obtain ⟨q,hq,rfl⟩:=List.mem_iff_getElem.1 ha
    exact inR_sml (setErr_iff.1 (c3 q _ (List.getElem?_eq_getElem hq))).1.1 (by omega)
  ·obtain ⟨j,hj,rfl⟩:=List.mem_iff_getElem.1 hl
   obtain ⟨⟨c1,_,c3⟩,_⟩:=loopErr_iff.1 (b7 j _ (List.getElem?_eq_getElem hj))
   refine ⟨inR_sml c1 (by omega),fun z hz => ?_⟩
   have:=List.all_eq_true.1 c3 z hz
   simp only [Bool.and_eq_true] at this
   exact inR_sml this.1 (by omega)
end Rg
end

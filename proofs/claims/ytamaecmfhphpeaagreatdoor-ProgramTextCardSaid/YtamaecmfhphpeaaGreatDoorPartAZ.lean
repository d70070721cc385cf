/- Part of the proof of the laws of the package relyguardlaw07: an abstract machine for the program's functions, what they compute, and that the machine is the program's. No condition. (H30d H30e) -/
import Derived.Test.YtamaecmfhphpeaaGreatDoorPartAY
set_option linter.unusedSimpArgs false
set_option linter.unusedVariables false
section
set_option maxRecDepth 100000
namespace Rg
open Go
def lineT (ws:List (List UInt8)):List UInt8:=Go.Lib.join ws [32]++[10]
theorem join_len (ws:List (List UInt8)):(Go.Lib.join ws [32]).length<=(ws.map List.length).sum+ws.length:=by
 cases ws with
 | nil=>simp [Go.Lib.join_nil]
 | cons x r =>
  rw [Go.Lib.join_length]
  have:Go.Lib.lens (x::r)=((x::r).map List.length).sum:=rfl
  rw [this]
  simp only [List.length_cons,List.length_nil]
  omega
theorem lineT_len (ws:List (List UInt8)):(lineT ws).length<=(ws.map List.length).sum+ws.length+1:=by
 have:=join_len ws
 simp only [lineT,List.length_append,List.length_cons,List.length_nil]; omega
def rowsW (ws:List (List UInt8)):List (List V):=ws.map fun x=>[.t (.str (bs x))]
theorem rowsW_len (ws:List (List UInt8)):(rowsW ws).length=ws.length:=by simp [rowsW]
theorem rowsW_app (a b:List (List UInt8)):rowsW (a++b)=rowsW a++rowsW b:=by simp [rowsW]
theorem rowsW_all (ws:List (List UInt8)):((rowsW ws).all fun r=>decide (r.length=1))=true:=by simp [rowsW]
theorem rowsW_mapM (h:Nat->Option O) (d:Nat) (ws:List (List UInt8)):(rowsW ws).mapM (fun row=>row.mapM (toT h d))=some (ws.map fun x=>[.str (bs x)]):=by
 have e:rowsW ws=(ws.map fun x=>[T.str (bs x)]).map (·.map V.t):=by simp [rowsW]
 rw [e,rows_toT h d _ (by
  intro e he t ht
  obtain ⟨x,_,rfl⟩:=List.mem_map.1 he
  simp at ht; subst ht; rfl)]
theorem rowsW_take (ws:List (List UInt8)):List.take ws.length (rowsW ws)=rowsW ws:=List.take_of_length_le (by rw [rowsW_len]; exact Nat.le_refl _)
theorem strsOf_map (ws:List (List UInt8)):strsOf (ws.map fun x=>[T.str (bs x)])=some (ws.map bs):=by
 induction ws with
 | nil=>rfl
 | cons x r ih=>simp only [List.map_cons,strsOf,ih,Option.map_some]
theorem join_den (ws:List (List UInt8)) (h:(Go.Lib.join ws [32]).length<=140737488355328) (h2:ws.length<=140737488355328) :
 Den Γ G 259 [.t (.sl (ws.map fun x=>[.str (bs x)])), .t (.str (bs [32]))]=some (.t (.str (bs (Go.Lib.join ws [32])))):=by
 refine den_ext (e:=.joinS) Γ259 rfl rfl ?_
 have e:joinB (ws.map bs) (bs [32])=bs (Go.Lib.join ws [32]):=by
  unfold joinB
  rw [List.map_map]
  have:(fun x:ByteArray=>x.data.toList) ∘ bs=id:=by funext x; exact bs_list x
  rw [this,List.map_id]
  rfl
 show (strsOf _).bind _=_
 rw [strsOf_map]
 simp only [Option.bind_some,e]
 rw [if_pos ⟨by simpa using h2,by rw [bs_size]; exact h⟩]
theorem line_den {h:Nat->Option O} {n kb kw:Nat} {l:List UInt8} {ws:List (List UInt8)} {fz:Bool} (hk:h kw=some (.rows 1 (rowsW ws) fz)) (hb:Bld h kb l) (hn:Fresh h n)
 (hl:l.length+(ws.map List.length).sum+ws.length+1<=1099511627776) :
 ∃ r h' n',DenR Γ G 241 [.mp kb 0 0, .ms kw 0 ws.length] h n=some (r,h',n')/\(r = .tup []/\Bld h' kb (l++lineT ws)/\KeepR h h' /\ n<=n' /\ Fresh h' n'):=by
 have hj:=join_len ws
 have h1:=join_den ws (by omega) (by omega)
 have h2:=fun d=>rowsW_mapM h d ws
 (refine denR_ofY Γ241 rfl ?_; dsimp only [f241])
 simp -dsimp -implicitDefEqProofs only [go_sem,seval,hk,rowsW_len,Nat.le_refl,rowsW_take,h2,h1]
 refine rawK_of (bldS_den (s:=bs (Go.Lib.join ws [32])) hb (hn.mono (by first | omega | (simp only [addC_eq]; omega))) (by rw [bs_size]; omega)) ?_
 rintro r h3 n3 ⟨hb3,hk3,hn3,hf3⟩
 rw [bs_list] at hb3
 simp -dsimp -implicitDefEqProofs only [go_sem,seval]
 refine rawK_of (bldB_den (z:=10) hb3 (hf3.mono (by first | omega | (simp only [addC_eq]; omega) | exact addC_le _ _)) (by omega) (by rw [List.length_append]; omega)) ?_
 rintro r h4 n4 ⟨hb4,hk4,hn4,hf4⟩
 simp -dsimp -implicitDefEqProofs only [go_sem,seval]
 refine ⟨rfl, ?_,hk3.trans hk4,by (try simp only [addC_eq] at hn3); (try simp only [addC_eq] at hn4); omega,hf4⟩
 have e10:UInt8.ofNat (Int.toNat 10)=10:=rfl
 rw [e10] at hb4
 simpa only [lineT,List.append_assoc] using hb4
theorem flagT_den (b:Bool):Den Γ G 242 [vb b]=some (.t (.str (bs (if b then [49] else [48])))):=by
 (refine den_ofY Γ242 rfl ?_; dsimp only [f242])
 cases b <;> simp -dsimp -implicitDefEqProofs only [go_sem,seval]
theorem putA_appC {h:Nat->Option O} {q sz bytes k0 n0:Nat} {a b:List (List V)} {K:V->List (Nat×O)->Prop} {w:WK K}
 (hh:h k0=some (.rows sz a false)) (hn:n0=a.length) (hlen:a.length+b.length<=2^32) (hby:bytes<=2^12) (hb:(b.all fun r=>decide (r.length=sz))=true) (ha:(a.all fun r=>decide (r.length=sz))=true) (hne:b≠[])
 (hK : ∀ hp,hpC h hp=updC (updC h k0 (some .dead)) q (some (.rows sz (a++b) false))->K (.ms q 0 (a++b).length) hp) :
 putA false (appS h q sz bytes (.ms k0 0 n0) a b) K w:=by
 subst hn
 unfold appS
 rw [if_pos ⟨⟨hlen,hby⟩,hb,ha⟩]
 cases b with
 | nil=>exact absurd rfl hne
 | cons r b =>
  simp only [List.isEmpty_cons,Bool.false_eq_true,if_false,hh,and_self,if_true,putA_some,appRows_self]
  have:=hK [(k0, .dead),(q, .rows sz (a++r::b) false)] (by simp [hpC_cons,hpC_nil])
  simpa only [List.length_append] using this
def inI (z:Int):Prop := -9223372036854775808<=z/\z<=9223372036854775807
theorem with_den {h:Nat->Option O} {n kw:Nat} {ws:List (List UInt8)} {fl:List Int} (hk:h kw=some (.rows 1 (rowsW ws) false)) (hn:Fresh h n) (hi : ∀ z∈fl,inI z) (hl:ws.length+fl.length<2^30) :
 ∃ r h' n',DenR Γ G 244 [.ms kw 0 ws.length, .t (ints fl)] h n=some (r,h',n')/\(∃ k,r = .ms k 0 (ws++fl.map num).length/\h' k=some (.rows 1 (rowsW (ws++fl.map num)) false)/\(∀ j,j<n->j≠kw->h' j=h j)/\n<=n' /\ Fresh h' n'):=by
 (refine denR_ofY Γ244 rfl ?_; dsimp only [f244])
 simp -dsimp -implicitDefEqProofs only [go_sem,seval]
 have hkn:kw<n:=by
  rcases Nat.lt_or_ge kw n with h0 | h0
  ·exact h0
  ·have:=hn kw h0; rw [hk] at this; cases this
 refine loopYH 523841 fl.length (fun i f hh x=>(f 9).v=vi i/\(∃ k,(f 0).v = .ms k 0 (rowsW (ws++(fl.take i).map num)).length/\k<x/\hh k=some (.rows 1 (rowsW (ws++(fl.take i).map num)) false)/\(k=kw\/n<=k))/\(∀ j,j<n->j≠kw->hh j=h j)/\n<=x/\Fresh hh x) rfl ?_ ?_
 ·refine ⟨by simp -dsimp -implicitDefEqProofs only [go_sem,seval],⟨kw, ?_, ?_, ?_, .inl rfl⟩,fun _ _ _=>rfl, ?_, ?_⟩
  ·simp -dsimp -implicitDefEqProofs only [go_sem,seval,List.take_zero,List.map_nil,List.append_nil,rowsW_len]
  ·simp only [addC_eq]; omega
  ·simpa using hk
  ·simp only [addC_eq]; omega
  ·exact hn.mono (by simp only [addC_eq]; omega)
 rintro i f u hh x bq hi2 ⟨h9,⟨k,h0,hkx,hkk,hor⟩,hkeep,hnx,hfx⟩
 have hw:=wrapS i (by omega)
 simp -dsimp -implicitDefEqProofs only [go_sem,seval,h9]
 refine csplit (fun h => ?_) (fun h => ?_) <;> (try simp only [bools] at h) <;> (try simp -dsimp -implicitDefEqProofs only [go_sem,seval,h9, *])
 ·obtain ⟨z,hz,hzm⟩:=get_of ‹i<fl.length›
  have hi3:=itoa_den z (hi z hzm)
  have hx1:=take_succ_of hz
  have hll:(fl.take i).length<=fl.length:=by simp; omega
  simp -dsimp -implicitDefEqProofs only [go_sem,seval,h9,h0,hz,hi3,hkk,ne_add hkx,ne_add2 hkx,ne_add3 hkx,List.take_length,Nat.le_refl]
  have hne7:k≠x+1+3+3:=by omega
  have hup:updC hh (x+1+3+3) (some (O.rows 1 [[V.t (T.str (bs (num z)))]] false)) k=some (.rows 1 (rowsW (ws++(fl.take i).map num)) false):=by rw [updC_at,if_neg hne7]; exact hkk
  refine putA_appC hup rfl (by rw [rowsW_len,List.length_append,List.length_map]; simp; omega) (by decide) rfl (rowsW_all _) (by simp) ?_
  intro hp hph
  have he:rowsW (ws++(fl.take i).map num)++[[V.t (T.str (bs (num z)))]]=rowsW (ws++(fl.take (i+1)).map num):=by
   rw [hx1,List.map_append, <- List.append_assoc,rowsW_app (ws++_)]; rfl
  rw [he] at hph ⊢
  simp -dsimp -implicitDefEqProofs only [go_sem,seval,h9,hw]
  refine ⟨by omega,by simp -dsimp -implicitDefEqProofs only [go_sem,seval,hw],⟨x+1+3+4,by simp -dsimp -implicitDefEqProofs only [go_sem,seval], ?_,by simp -dsimp -implicitDefEqProofs only [go_sem,seval,hph],by omega⟩,fun j hj hjk => ?_, ?_,fun q hq => ?_⟩
  ·simp only [addC_eq,List.length_cons,List.length_nil]; omega
  ·simp -dsimp -implicitDefEqProofs only [go_sem,seval,hph]
   have hjk2:j≠k:=by rintro rfl; rcases hor with rfl | h0 <;> first | exact hjk rfl | omega
   rw [if_neg (by omega),if_neg hjk2,if_neg (by omega)]
   exact hkeep j hj hjk
  ·simp only [addC_eq]; omega
  ·simp -dsimp -implicitDefEqProofs only [go_sem,seval,hph]
   simp only [addC_eq,List.length_cons,List.length_nil] at hq
   rw [if_neg (by omega),if_neg (by omega),if_neg (by omega)]
   exact hfx q (by omega)
 ·have:i=fl.length:=by omega
  subst this
  rw [List.take_length] at h0 hkk
  refine ⟨k, ?_,hkk,hkeep,by simp only [addC_eq]; omega,hfx.mono (by simp only [addC_eq]; omega)⟩
  simp -dsimp -implicitDefEqProofs only [go_sem,seval,h0,rowsW_len]
  rw [List.take_length]
end Rg
end
section
set_option maxRecDepth 100000
namespace Rg
open Go
def flagT (b:Bool):List UInt8:=if b then [49] else [48]
abbrev byt (s:ByteArray):List UInt8:=s.data.toList
def relyT (e:Expr):List UInt8:=if e.absent then [110,111,110,101] else e.text
def cellW (c:Cell):List (List UInt8):=[[99,101,108,108],byt c.name,num c.w,num c.init,num c.thread,flagT c.ghost,num c.module]
def modW (m:Contract):List (List UInt8):=[[109,111,100,117,108,101],byt m.name,byt m.owner,relyT m.rely,m.guar.text]
def lockW (l:Lock):List (List UInt8):=[[108,111,99,107],num l.cell,l.inv.text,num l.module]
def headW (x:Thread):List (List UInt8):=[[116,104,114,101,97,100],byt x.name,flagT x.asleep]
def pointW (q:Int×Expr):List (List UInt8):=[[112,111,105,110,116],num q.1,q.2.text]
def setW (a:Assign):List (List UInt8):=[num a.cell,a.to.text]
def stepW (s:Step):List (List UInt8):=[[115,116,101,112],num s.kind,num s.fr,num s.to,s.guard.text,flagT s.release,num s.target,num s.module]
def loopW (l:Loop):List (List UInt8):=[[108,111,111,112],num l.head,l.variant.text]
def cellT (c:Cell):List UInt8:=lineT (cellW c)
def modT (m:Contract):List UInt8:=lineT (modW m++m.frame.map num)
def lockT (l:Lock):List UInt8:=lineT (lockW l)
def pointT (q:Int×Expr):List UInt8:=lineT (pointW q)
def stepT (s:Step):List UInt8:=lineT (stepW s++s.set.flatMap setW)
def loopX (l:Loop):List UInt8:=lineT (loopW l++l.body.map num)
def threadT (x:Thread):List UInt8:=lineT (headW x)++(x.modules.zip x.asserts).flatMap pointT++x.steps.flatMap stepT++x.loops.flatMap loopX
def textM (p:Prog):List UInt8:=p.cells.flatMap cellT++p.modules.flatMap modT++p.locks.flatMap lockT++p.threads.flatMap threadT
def textP (p:Prog):List UInt8:=if (validM p).1=0 then textM p else []
structure Prog.few (p:Prog):Prop where
 frame : ∀ m∈p.modules,m.frame.length<=60
 sets : ∀ x∈p.threads, ∀ s∈x.steps,s.set.length<=40
 body : ∀ x∈p.threads, ∀ l∈x.loops,l.body.length<=60
theorem flagT_len (b:Bool):(flagT b).length=1:=by cases b <;> rfl
theorem relyT_len (e:Expr):(relyT e).length<=36000:=by
 unfold relyT
 split
 ·simp
 ·exact text_len e
theorem label_len {b:ByteArray} (h:isLabel b=true):(byt b).length<=64:=by
 unfold isLabel at h
 simp only [Bool.and_eq_true,decide_eq_true_eq] at h
 have:(byt b).length=b.size:=by rw [Array.length_toList]; rfl
 omega
theorem sum_map_le (l:List (List UInt8)) (K:Nat) (h : ∀ x∈l,x.length<=K):(l.map List.length).sum<=l.length*K:=by
 induction l with
 | nil=>simp
 | cons a r ih =>
  have h1:=h a (by simp)
  have h2:=ih fun x hx=>h x (by simp [hx])
  simp only [List.map_cons,List.sum_cons,List.length_cons,Nat.add_mul]; omega
theorem flatMap_len {α:Type} (f:α->List UInt8) (l:List α) (K:Nat) (h : ∀ x∈l,(f x).length<=K):(l.flatMap f).length<=l.length*K:=by
 induction l with
 | nil=>simp
 | cons a r ih =>
  have h1:=h a (by simp)
  have h2:=ih fun x hx=>h x (by simp [hx])
  simp only [List.flatMap_cons,List.length_append,List.length_cons,Nat.add_mul]; omega
theorem flatMap_take {α:Type} (f:α->List UInt8) (l:List α) (i:Nat):((l.take i).flatMap f).length<=(l.flatMap f).length:=by
 conv=>rhs; rw [<- List.take_append_drop i l,List.flatMap_append,List.length_append]
 omega
theorem flatMap_succ {α β:Type} (f:α->List β) {l:List α} {i:Nat} {x:α} (h:l[i]? = some x):(l.take (i+1)).flatMap f=(l.take i).flatMap f++f x:=by
 rw [take_succ_of h,List.flatMap_append]; simp
theorem inR_inI {z n:Int} (h:inR z n=true) (hn:n<=1000):inI z:=by
 unfold inR at h
 simp only [decide_eq_true_eq] at h
 unfold inI; omega
structure Nums (p:Prog):Prop where
 cell : ∀ c∈p.cells,isLabel c.name=true/\inI c.w/\inI c.init/\inI c.thread/\inI c.module
 mods : ∀ m∈p.modules,isLabel m.name=true/\isLabel m.owner=true /\ ∀ z∈m.frame,inI z
 lock : ∀ l∈p.locks,inI l.cell/\inI l.module
 thr : ∀ x∈p.threads,isLabel x.name=true/\x.asserts.length<=48/\x.modules.length=x.asserts.length/\x.steps.length<=64/\x.loops.length<=8/\(∀ z∈x.modules,inI z) /\
  (∀ s∈x.steps,inI s.kind/\inI s.fr/\inI s.to/\inI s.target/\inI s.module /\ ∀ a∈s.set,inI a.cell) /\ ∀ l∈x.loops,inI l.head /\ ∀ z∈l.body,inI z
 lens:p.cells.length<=32/\p.modules.length<=6/\p.locks.length<=4/\p.threads.length<=4
theorem ofThread_rng {p:Prog} {t c:Int} (h:ofThread p t c=true):0<=c/\c<p.cells.length:=by
 unfold ofThread at h
 simp only [Bool.and_eq_true,decide_eq_true_eq] at h
 refine ⟨h.1, ?_⟩
 rcases hx:p.cells[c.toNat]? with _ | x
 ·rw [hx] at h; simp at h
 ·have:=(List.getElem?_eq_some_iff.1 hx).1
  omega
theorem kind_target {p:Prog} {t n:Int} {s:Step} (hb:stepBad p n s=false) (hk:kindOk p t s=true):s.target=0\/inR s.target p.threads.length=true:=by
 unfold stepBad at hb
 simp only [Bool.or_eq_false_iff,Bool.and_eq_false_iff,decide_eq_false_iff_not,Bool.not_eq_false',Bool.or_eq_true,decide_eq_true_eq,ne_eq,Decidable.not_not] at hb
 obtain ⟨⟨⟨⟨⟨⟨b1,b2⟩,b3⟩,b4⟩,b5⟩,b6⟩,b7⟩:=hb
 rcases b7 with h | h
 ·exact .inl h
 ·right
  unfold kindOk at hk
  rcases h with h | h
  ·rw [h] at hk
   simp [joinOk] at hk
   exact hk.1.2
  ·rw [h] at hk
   simp [joinOk] at hk
   exact hk.2
theorem nums_of {p:Prog} (h:p.ok):Nums p:=by
 obtain ⟨hl,hc,hm,hk,ht⟩:=ok_iff.1 h
 obtain ⟨⟨l1,l2,l3,l4⟩,l5⟩:=limits_iff.1 hl
 refine ⟨fun c hcm => ?_,fun m hmm => ?_,fun l hlm => ?_,fun x hxm => ?_,⟨l1,l2,l3,l4⟩⟩
 ·obtain ⟨i,hi,rfl⟩:=List.mem_iff_getElem.1 hcm
  obtain ⟨b1,b2,b3,b4,b5,b6,b7,b8⟩:=cellBad_parts (cellErr_iff.1 (hc i _ (List.getElem?_eq_getElem hi))).1
  have hp:(2:Int)^(p.cells[i]).w.toNat<=2^8:=pow2_le (by omega)
  have hp' : (2:Int)^8=256:=rfl
  refine ⟨b1, ?_, ?_, ?_,inR_inI b8 (by omega)⟩ <;> (unfold inI; omega)
 ·obtain ⟨i,hi,rfl⟩:=List.mem_iff_getElem.1 hmm
  obtain ⟨⟨b1,b2⟩,_,_,_,b5⟩:=modErr_iff.1 (hm i _ (List.getElem?_eq_getElem hi))
  refine ⟨b1,b2,fun z hz => ?_⟩
  have:=ofThread_rng (List.all_eq_true.1 b5 z hz)
  unfold inI; omega
 ·obtain ⟨i,hi,rfl⟩:=List.mem_iff_getElem.1 hlm
  obtain ⟨⟨b1,_,_,b4⟩,_⟩:=lockErr_iff.1 (hk i _ (List.getElem?_eq_getElem hi))
  have:=ofThread_rng b1
  exact ⟨by unfold inI; omega,inR_inI b4 (by omega)⟩
 ·have hx5:=l5 x hxm
  obtain ⟨i,hi,rfl⟩:=List.mem_iff_getElem.1 hxm
  obtain ⟨b1,_,b3,b4,_,b6,b7⟩:=threadErr_iff.1 (ht i _ (List.getElem?_eq_getElem hi))
  refine ⟨b1,by omega,by omega,by omega,by omega,fun z hz=>inR_inI (List.all_eq_true.1 b4 z hz) (by omega),fun s hs => ?_,fun l hl => ?_⟩
  ·obtain ⟨j,hj,rfl⟩:=List.mem_iff_getElem.1 hs
   obtain ⟨c1,_,c3,c4⟩:=stepErr_iff.1 (b6 j _ (List.getElem?_eq_getElem hj))
   have htg:=kind_target c1 c4
   unfold stepBad at c1
   simp only [Bool.or_eq_false_iff,Bool.and_eq_false_iff,decide_eq_false_iff_not,Bool.not_eq_false',Bool.or_eq_true,decide_eq_true_eq,ne_eq,Decidable.not_not] at c1
   obtain ⟨⟨⟨⟨⟨⟨d1,d2⟩,d3⟩,d4⟩,d5⟩,_⟩,_⟩:=c1
   refine ⟨by unfold inI; omega,inR_inI d3 (by omega),inR_inI d4 (by omega), ?_,inR_inI d5 (by omega),fun a ha => ?_⟩
   ·rcases htg with h | h
    ·rw [h]; unfold inI; omega
    ·exact inR_inI h (by omega)
   ·obtain ⟨q,hq,rfl⟩:=List.mem_iff_getElem.1 ha
    exact inR_inI (setErr_iff.1 (c3 q _ (List.getElem?_eq_getElem hq))).1.1 (by omega)
  ·obtain ⟨j,hj,rfl⟩:=List.mem_iff_getElem.1 hl
   obtain ⟨⟨c1,_,c3⟩,_⟩:=loopErr_iff.1 (b7 j _ (List.getElem?_eq_getElem hj))
   refine ⟨inR_inI c1 (by omega),fun z hz => ?_⟩
   have:=List.all_eq_true.1 c3 z hz
   simp only [Bool.and_eq_true] at this
   exact inR_inI this.1 (by omega)
end Rg
end

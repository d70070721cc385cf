/- Part of the proof of the laws of the package relyguardlaw07: an abstract machine for the program's functions, what they compute, and that the machine is the program's. No condition. (H30a H30b H30c H08c H08d RgNx H08e H09a) -/
import Derived.Lib.ItoaLen
import Derived.Test.YtamaecmfhphpeaaGreatDoorPartAW
import Derived.Test.YtamaecmfhphpeaaGreatDoorPartAS
set_option linter.unusedSimpArgs false
set_option linter.unusedVariables false
section
namespace Rg
open Go
abbrev num (z:Int):List UInt8:=Go.Lib.itoa z
@[go_sem] theorem bs_app (a b:List UInt8):bs a++bs b=bs (a++b):=by
 unfold bs
 apply ByteArray.ext
 simp
@[go_sem] theorem bs_size (a:List UInt8):(bs a).size=a.length:=by simp [bs,ByteArray.size]
@[go_sem] theorem bs_list (a:List UInt8):(bs a).data.toList=a:=by simp [bs]
theorem num_len (z:Int) (h : -9223372036854775808<=z/\z<=9223372036854775807):(num z).length<=21:=Go.Lib.itoa_length_le z h.1 h.2
theorem itoa_den (z:Int) (h : -9223372036854775808<=z/\z<=9223372036854775807):Den Γ G 240 [vi z]=some (.t (.str (bs (num z)))):=by
 refine den_ext Γ240 rfl rfl ?_
 show (if _ then _ else _)=_
 rw [if_pos h]
 rfl
def Bld (h:Nat->Option O) (k:Nat) (l:List UInt8):Prop :=
 (h k=some (.raw (.bld none))/\l=[]) \/ ∃ g,h k=some (.raw (.bld (some g)))/\h g=some (.raw (.buf l))/\l≠[]
def KeepR (h h' : Nat->Option O):Prop := ∀ k o,h k=some o->(∀ x,o ≠ .raw x)->h' k=some o
theorem KeepR.refl (h:Nat->Option O):KeepR h h:=fun _ _ h _=>h
theorem KeepR.trans {a b c:Nat->Option O} (h1:KeepR a b) (h2:KeepR b c):KeepR a c:=fun k o h ho=>h2 k o (h1 k o h ho) ho
theorem bldAdd_of {h:Nat->Option O} {n k:Nat} {l new:List UInt8} (hb:Bld h k l) (hn : ∀ q,n<=q->h q=none) (hl:l.length+new.length<=140737488355328) :
 ∃ h' n',bldAdd h n k new=some (h',n')/\Bld h' k (l++new)/\KeepR h h' /\ n<=n' /\ (∀ q,n' <= q->h' q=none):=by
 unfold bldAdd
 rcases hb with ⟨hk,rfl⟩ | ⟨g,hk,hg,hne⟩
 ·rw [hk]
  have hkn:k≠n:=by rintro rfl; have:=hn k (Nat.le_refl _); rw [hk] at this; cases this
  simp only [List.length_nil,Nat.zero_add] at hl
  simp only [if_pos hl]
  by_cases h0:new=[]
  ·subst h0
   exact ⟨h,n,by simp, .inl ⟨hk,rfl⟩, .refl _,Nat.le_refl _,hn⟩
  ·refine ⟨_,_,by rw [if_neg h0], .inr ⟨n,upd_same _ _ _, ?_,by simpa using h0⟩, ?_,Nat.le_succ _, ?_⟩
   ·rw [upd_other _ _ (Ne.symm hkn),upd_same]; rfl
   ·intro q o hq ho
    rw [upd_other _ _ (by rintro rfl; rw [hk] at hq; cases hq; exact ho _ rfl),upd_other _ _ (by rintro rfl; have:=hn q (Nat.le_refl _); rw [hq] at this; cases this)]
    exact hq
   ·intro q hq
    rw [upd_other _ _ (by rintro rfl; have:=hn q (by omega); rw [hk] at this; cases this),upd_other _ _ (by omega)]
    exact hn q (by omega)
 ·rw [hk]
  simp only [hg,if_pos hl]
  have hkn:k≠n:=by rintro rfl; have:=hn k (Nat.le_refl _); rw [hk] at this; cases this
  refine ⟨_,_,rfl, .inr ⟨n,upd_same _ _ _, ?_,by simp [hne]⟩, ?_,Nat.le_succ _, ?_⟩
  ·rw [upd_other _ _ (Ne.symm hkn),upd_same]
  ·intro q o hq ho
   rw [upd_other _ _ (by rintro rfl; rw [hk] at hq; cases hq; exact ho _ rfl),upd_other _ _ (by rintro rfl; have:=hn q (Nat.le_refl _); rw [hq] at this; cases this),
    upd_other _ _ (by rintro rfl; rw [hg] at hq; cases hq; exact ho _ rfl)]
   exact hq
  ·intro q hq
   rw [upd_other _ _ (by rintro rfl; have:=hn q (by omega); rw [hk] at this; cases this),upd_other _ _ (by omega),upd_other _ _ (by rintro rfl; have:=hn q (by omega); rw [hg] at this; cases this)]
   exact hn q (by omega)
def Fresh (h:Nat->Option O) (n:Nat):Prop := ∀ q,n<=q->h q=none
theorem Fresh.upd {h:Nat->Option O} {n k:Nat} {o:O} (hf:Fresh h n) (hk:k<n):Fresh (updC h k (some o)) n:=by
 intro q hq
 rw [updC_at,if_neg (by omega)]; exact hf q hq
theorem Fresh.mono {h:Nat->Option O} {n m:Nat} (hf:Fresh h n) (hm:n<=m):Fresh h m:=fun q hq=>hf q (by omega)
theorem bldS_den {h:Nat->Option O} {n k:Nat} {l:List UInt8} {s:ByteArray} (hb:Bld h k l) (hn:Fresh h n) (hl:l.length+s.size<=140737488355328) :
 ∃ r h' n',DenR Γ G 258 [.mp k 0 0, .t (.str s)] h n=some (r,h',n')/\(Bld h' k (l++s.data.toList)/\KeepR h h' /\ n<=n' /\ Fresh h' n'):=by
 have hs:s.data.toList.length=s.size:=by rw [Array.length_toList]; rfl
 obtain ⟨h',n',h1,h2⟩:=bldAdd_of (new:=s.data.toList) hb hn (by omega)
 refine ⟨.tup [.t (.int .i64 s.size), .t .nili],h',n',denR_ext (e:=.bldS) Γ258 rfl rfl ?_,h2⟩
 show (bldAdd h n k s.data.toList).map _=_
 rw [h1]; rfl
theorem bldB_den {h:Nat->Option O} {n k:Nat} {l:List UInt8} {z:Int} (hb:Bld h k l) (hn:Fresh h n) (hz:0<=z/\z<256) (hl:l.length+1<=140737488355328) :
 ∃ r h' n',DenR Γ G 260 [.mp k 0 0, .t (.int .u8 z)] h n=some (r,h',n')/\(Bld h' k (l++[UInt8.ofNat z.toNat])/\KeepR h h' /\ n<=n' /\ Fresh h' n'):=by
 obtain ⟨h',n',h1,h2⟩:=bldAdd_of (new:=[UInt8.ofNat z.toNat]) hb hn hl
 refine ⟨.t .nili,h',n',denR_ext (e:=.bldB) Γ260 rfl rfl ?_,h2⟩
 show (if _ then (bldAdd h n k [UInt8.ofNat z.toNat]).map _ else _)=_
 rw [if_pos hz,h1]; rfl
theorem bldG_den {h:Nat->Option O} {n k:Nat} {l:List UInt8} (hb:Bld h k l) : ∃ r h' n',DenR Γ G 246 [.mp k 0 0] h n=some (r,h',n')/\r = .t (.str (bs l)):=by
 rcases hb with ⟨hk,rfl⟩ | ⟨g,hk,hg,_⟩
 ·refine ⟨.t (.str (bs [])),upd h k (some .dead),n,denR_ext (e:=.bldG) Γ246 rfl rfl ?_,rfl⟩
  unfold extSem
  simp only [hk]; rfl
 ·refine ⟨.t (.str (bs l)),upd (upd h g (some .dead)) k (some .dead),n,denR_ext (e:=.bldG) Γ246 rfl rfl ?_,rfl⟩
  unfold extSem
  simp only [hk,hg]; rfl
def opName (op:Int):List UInt8 :=
 if op=4 then [110,111,116] else if op=5 then [97,110,100] else if op=6 then [111,114] else if op=7 then [120,111,114] else if op=8 then [97,100,100]
 else if op=9 then [115,117,98] else if op=10 then [109,117,108] else if op=11 then [101,113] else if op=12 then [108,116] else if op=13 then [108,101] else [105,116,101]
def letter (op:Int):List UInt8:=if op=2 then [99] else if op=3 then [111] else []
theorem letter_den (op:Int):Den Γ G 262 [vi op]=some (.t (.str (bs (letter op)))):=by
 (refine den_ofY Γ262 rfl ?_; dsimp only [f262])
 simp -dsimp -implicitDefEqProofs only [go_sem,seval]
 repeat' (refine csplit (fun h => ?_) (fun h => ?_) <;> (try simp only [bools] at h) <;> (try simp -dsimp -implicitDefEqProofs only [go_sem,seval, *]))
 all_goals (simp [letter,go_sem, *])
def commas:List (List UInt8)->List UInt8
 | []=>[]
 | [x]=>x
 | x::r=>x++44::commas r
namespace Expr
mutual
def txt:Expr->List UInt8
 | .mk op w n ks=>if op=1\/op=2\/op=3 then letter op++num n++[58]++num w else opName op++[40]++commas (txts ks)++[41]
def txts:List Expr->List (List UInt8)
 | []=>[]
 | e::r=>txt e::txts r
end
theorem txts_eq : ∀ l:List Expr,txts l=l.map txt
 | []=>rfl
 | e::r=>by rw [txts,txts_eq r]; rfl
theorem txt_eq (e:Expr):e.txt=if e.op=1\/e.op=2\/e.op=3 then letter e.op++num e.n++[58]++num e.w else opName e.op++[40]++commas (e.kids.map txt)++[41]:=by
 cases e; simp only [txt,txts_eq,op,w,n,kids]; rfl
end Expr
theorem commas_snoc (l:List (List UInt8)) (x:List UInt8):commas (l++[x])=if l=[] then x else commas l++44::x:=by
 induction l with
 | nil=>rfl
 | cons a r ih =>
  cases r with
  | nil=>simp [commas]
  | cons b r =>
   simp only [List.cons_append] at ih ⊢
   rw [commas,ih]
   ·simp [commas]
   ·simp
end Rg
end
section
set_option maxRecDepth 100000
namespace Rg
open Go
theorem opName_len (op:Int):(opName op).length<=3:=by
 unfold opName
 repeat' split
 all_goals simp
theorem letter_len (op:Int):(letter op).length<=1:=by
 unfold letter
 repeat' split
 all_goals simp
theorem commas_sum (l:List (List UInt8)):(commas l).length<=(l.map List.length).sum+l.length:=by
 induction l with
 | nil=>simp [commas]
 | cons a r ih =>
  cases r with
  | nil=>simp [commas]
  | cons b r=>simp only [commas,List.length_append,List.length_cons,List.map_cons,List.sum_cons] at ih ⊢; omega
theorem node_nw {e:Expr} (h:nodeOk e=true):(0<=e.n/\e.n<256)/\1<=e.w/\e.w<=8:=by
 have hw:=node_w h
 refine ⟨?_,hw⟩
 have hp:(2:Int)^e.w.toNat<=2^8:=pow2_le (by omega)
 have hp' : (2:Int)^8=256:=rfl
 unfold nodeOk at h
 grind
theorem txt_len (d:Nat) : ∀ e:Expr,e.deep d=true->e.txt.length<=60*e.size:=by
 induction d with
 | zero=>intro e h; simp [Expr.deep] at h
 | succ d ih =>
  intro e h
  have hn:=deep_node h
  have hnw:=node_nw hn
  rw [Expr.txt_eq]
  have hs:=Expr.size_eq e
  split
  ·have h1:=num_len e.n (by omega)
   have h2:=num_len e.w (by omega)
   have h3:=letter_len e.op
   simp only [List.length_append,List.length_cons,List.length_nil]
   omega
  ·have h1:=opName_len e.op
   have h2:=commas_sum (e.kids.map Expr.txt)
   have h3:((e.kids.map Expr.txt).map List.length).sum<=60*(e.kids.map Expr.size).sum:=by
    have : ∀ ks:List Expr,(∀ k∈ks,k.deep d=true)->((ks.map Expr.txt).map List.length).sum<=60*(ks.map Expr.size).sum:=by
     intro ks
     induction ks with
     | nil=>simp
     | cons k r ihr =>
      intro hk
      have:=ih k (hk k (by simp))
      have:=ihr fun x hx=>hk x (by simp [hx])
      simp only [List.map_cons,List.sum_cons]; omega
    exact this _ fun k hk=>deep_kid h hk
   have h4:=nodeOk_len hn
   simp only [List.length_append,List.length_cons,List.length_nil,List.length_map] at h2 ⊢
   omega
def ShowsK (h:Nat->Option O) (v:V) (e:Expr):Prop :=
 v = .t (.ip [ti e.op,ti e.w,ti e.n, .sl (e.kids.map Expr.enc)]) \/
 ∃ k fz,v = .mp k 0 0/\h k=some (.rows 4 [[.t (ti e.op), .t (ti e.w), .t (ti e.n), .t (.sl (e.kids.map Expr.enc))]] fz)
theorem opName_G {op:Int} (h:4<=op/\op<=14) : ∃ r,List.drop ((op-4).toNat*1) (G 1)=T.str (bs (opName op))::r:=by
 have:op=4\/op=5\/op=6\/op=7\/op=8\/op=9\/op=10\/op=11\/op=12\/op=13\/op=14:=by omega
 rcases this with rfl | rfl | rfl | rfl | rfl | rfl | rfl | rfl | rfl | rfl | rfl
 all_goals exact ⟨_,rfl⟩
theorem op_inner {e:Expr} (h:nodeOk e=true) (hl : ¬ (e.op=1\/e.op=2\/e.op=3)):(4<=e.op/\e.op<=14)/\e.kids≠[]:=by
 have ha:=node_arity h
 have hr:4<=e.op/\e.op<=14:=by
  rcases op_cases e.op with ho | ho | ho | ho | ho | ho | ho | ho | ho | ho | ho | ho | ho | ho | hop
  rotate_right
  ·rw [arity_bad hop] at ha; omega
  all_goals omega
 refine ⟨hr,fun h0 => ?_⟩
 rw [h0] at ha
 rcases op_cases e.op with ho | ho | ho | ho | ho | ho | ho | ho | ho | ho | ho | ho | ho | ho | hop
 rotate_right
 ·rw [arity_bad hop] at ha; simp at ha
 all_goals (rw [ho] at ha; first | omega | (simp [arity] at ha))
def sepT (i:Nat):List UInt8:=if i=0 then [40] else [44]
def preT (ks:List Expr) (i:Nat):List UInt8:=if i=0 then [] else 40::commas ((ks.take i).map Expr.txt)
theorem preT_succ {ks:List Expr} {i:Nat} {y:Expr} (hy:ks[i]? = some y):preT ks (i+1)=preT ks i++sepT i++y.txt:=by
 unfold preT sepT
 rw [take_succ_of hy,List.map_append,List.map_cons,List.map_nil,commas_snoc]
 by_cases h:i=0
 ·subst h; simp
 ·have hl:i<ks.length:=(List.getElem?_eq_some_iff.1 hy).1
  have:(ks.take i).map Expr.txt≠[]:=by
   intro h0
   have:=congrArg List.length h0
   rw [List.length_map,List.length_take,List.length_nil] at this
   omega
  rw [if_neg (by omega),if_neg this,if_neg h,if_neg h]
  simp
theorem preT_len {ks:List Expr} {i d:Nat} (hk : ∀ k∈ks,k.deep d=true):(preT ks i).length<=60*((ks.take i).map Expr.size).sum+ks.length+1:=by
 unfold preT
 split
 ·simp
 ·have h2:=commas_sum ((ks.take i).map Expr.txt)
  have h3:(((ks.take i).map Expr.txt).map List.length).sum<=60*((ks.take i).map Expr.size).sum:=by
   have : ∀ l:List Expr,(∀ k∈l,k.deep d=true)->((l.map Expr.txt).map List.length).sum<=60*(l.map Expr.size).sum:=by
    intro l
    induction l with
    | nil=>simp
    | cons k r ihr =>
     intro hk
     have:=txt_len d k (hk k (by simp))
     have:=ihr fun x hx=>hk x (by simp [hx])
     simp only [List.map_cons,List.sum_cons]; omega
   exact this _ fun k h=>hk k (List.mem_of_mem_take h)
  simp only [List.length_map,List.length_take] at h2
  simp only [List.length_cons]; omega
theorem write_den (d:Nat) : ∀ (e:Expr) (v:V) (h:Nat->Option O) (n kb kc:Nat) (l:List UInt8),e.deep d=true->ShowsK h v e->h kc=some (.rows 1 [[.fn 261 [] [.mp kb 0 0, .mp kc 0 0]]] false) ->
 Bld h kb l->Fresh h n->l.length+60*e.size<=1099511627776 ->
 ∃ r h' n',DenR Γ G 261 [v, .mp kb 0 0, .mp kc 0 0] h n=some (r,h',n')/\(r = .tup []/\Bld h' kb (l++e.txt)/\KeepR h h' /\ n<=n' /\ Fresh h' n'):=by
 induction d with
 | zero=>intro e v h n kb kc l hd; simp [Expr.deep] at hd
 | succ d ih =>
  intro e v h n kb kc l hd hv hkc hb hn hlen
  have hno:=deep_node hd
  have hnw:=node_nw hno
  have i1:=itoa_den e.n (by omega)
  have i2:=itoa_den e.w (by omega)
  have j1:=num_len e.n (by omega)
  have j2:=num_len e.w (by omega)
  have lt:=letter_den e.op
  have jl:=letter_len e.op
  have hsz:=Expr.size_eq e
  (refine denR_ofY Γ261 rfl ?_; dsimp only [f261])
  have hk0:=i1
  by_cases hleaf:e.op=1\/e.op=2\/e.op=3
  ·have c1:(((letter e.op).length+(num e.n).length:Nat):Int)<=1099511627776:=by omega
   have c2:(((letter e.op++num e.n).length+1:Nat):Int)<=1099511627776:=by rw [List.length_append]; simp; omega
   have c3:(((letter e.op++num e.n++[58]).length+(num e.w).length:Nat):Int)<=1099511627776:=by rw [List.length_append,List.length_append]; simp; omega
   have hb1:=fun (m:Nat) (hm:n<=m)=>bldS_den (s:=bs (letter e.op++num e.n++[58]++num e.w)) hb (hn.mono hm) (by rw [bs_size]; simp only [List.length_append,List.length_cons,List.length_nil]; omega)
   have htx:e.txt=letter e.op++num e.n++[58]++num e.w:=by rw [Expr.txt_eq,if_pos hleaf]
   simp only [bs_list] at hb1
   rcases hv with rfl | ⟨k,fz,rfl,hk0⟩
   all_goals (
    rcases hleaf with ho | ho | ho
    all_goals (
     rw [ho] at lt c1 c2 c3 htx
     simp only [ho] at hb1
     simp -dsimp -implicitDefEqProofs only [go_sem,seval,i1,i2,lt,c1,c2,c3,ho,hk0]
     refine rawK_of (hb1 _ (by omega)) ?_
     rintro r h' n' ⟨hb',hk',hn',hf'⟩
     simp -dsimp -implicitDefEqProofs only [go_sem,seval]
     rw [htx]
     exact ⟨rfl,hb',hk',by omega,hf'⟩))
  ·have ho:(e.op=1)=False/\(e.op=2)=False/\(e.op=3)=False:=by
    refine ⟨?_, ?_, ?_⟩ <;> (apply eq_false; intro h; exact hleaf (by simp [h]))
   obtain ⟨ho1,ho2,ho3⟩:=ho
   obtain ⟨hop,hkne⟩:=op_inner hno hleaf
   have hw4:IntKind.i64.wrap (e.op-4)=e.op-4:=wrap64 (by omega)
   have hr:(0<=e.op-4/\e.op-4<11)=True:=by apply eq_true; omega
   obtain ⟨rest,hG⟩:=opName_G hop
   have jn:=opName_len e.op
   have hkl:=nodeOk_len hno
   have hb1:=fun (m:Nat) (hm:n<=m)=>bldS_den (s:=bs (opName e.op)) hb (hn.mono hm) (by rw [bs_size]; omega)
   simp only [bs_list] at hb1
   have htx:e.txt=opName e.op++[40]++commas (e.kids.map Expr.txt)++[41]:=by rw [Expr.txt_eq,if_neg hleaf]
   rcases hv with rfl | ⟨k,fz,rfl,hk0⟩
   all_goals (
    simp -dsimp -implicitDefEqProofs only [go_sem,seval,ho1,ho2,ho3,hk0,hw4,hr,hG,List.length_cons,Nat.le_add_left,List.take_succ_cons,List.take_zero]
    refine rawK_of (hb1 _ (by omega)) ?_
    rintro r h1 n1 ⟨hb1',hk1,hn1,hf1⟩
    have hkx:=i1
    try have hkx:=hk1 k _ hk0 (by intro x hx; cases hx)
    simp -dsimp -implicitDefEqProofs only [go_sem,seval,hkx]
    refine loopYH 1152851135862669360 e.kids.length (fun i f hh x=>(f 46).v=vi i/\(f 4).v = .t (.str (bs (sepT i)))/\Bld hh kb (l++opName e.op++preT e.kids i)/\KeepR h hh/\n<=x/\Fresh hh x) rfl ?_ ?_
    ·exact ⟨by simp -dsimp -implicitDefEqProofs only [go_sem,seval],by simp -dsimp -implicitDefEqProofs only [go_sem,seval,sepT],by simpa [preT] using hb1',hk1,by simp only [addC_eq]; omega,hf1.mono (by simp only [addC_eq]; omega)⟩
    rintro i f u hh x bq hi ⟨h46,h4,hbi,hki,hni,hfi⟩
    have hwi:=wrapS i (by omega)
    have hpl:=preT_len (ks:=e.kids) (i:=i) fun k hk=>deep_kid hd hk
    simp -dsimp -implicitDefEqProofs only [go_sem,seval,h46,h4]
    refine csplit (fun h => ?_) (fun h => ?_) <;> (try simp only [bools] at h) <;> (try simp -dsimp -implicitDefEqProofs only [go_sem,seval, *])
    ·obtain ⟨y,hy,hm⟩:=get_of ‹i<e.kids.length›
     have hts:=Expr.take_le_size e.kids (i+1)
     have ht1:((e.kids.take (i+1)).map Expr.size).sum=((e.kids.take i).map Expr.size).sum+y.size:=by
      rw [take_succ_of hy]; simp
     have hsl:(sepT i).length=1:=by unfold sepT; split <;> rfl
     refine rawK_of (bldS_den (s:=bs (sepT i)) hbi (hfi.mono (by omega)) (by rw [bs_size]; simp only [List.length_append]; omega)) ?_
     rintro r h2 n2 ⟨hb2,hk2,hn2,hf2⟩
     have hkx:=i1
     try have hkx:=hk2 k _ (hki k _ hk0 (by intro x hx; cases hx)) (by intro x hx; cases hx)
     have hkc2:=hk2 kc _ (hki kc _ hkc (by intro x hx; cases hx)) (by intro x hx; cases hx)
     simp -dsimp -implicitDefEqProofs only [go_sem,seval,h46,hy,hkx,hkc2]
     rw [bs_list] at hb2
     refine rawK_of (ih y _ _ _ kb kc _ (deep_kid hd hm) (.inl rfl) hkc2 hb2 (hf2.mono (by omega)) (by simp only [List.length_append]; omega)) ?_
     rintro r h3 n3 ⟨rfl,hb3,hk3,hn3,hf3⟩
     simp -dsimp -implicitDefEqProofs only [go_sem,seval,h46,hwi]
     refine ⟨by omega,by simp -dsimp -implicitDefEqProofs only [go_sem,seval,hwi],by simp -dsimp -implicitDefEqProofs only [go_sem,seval,sepT], ?_,fun k o hk ho=>hk3 k o (hk2 k o (hki k o hk ho) ho) ho,by simp only [addC_eq] at hn3 ⊢; omega,hf3.mono (by simp only [addC_eq]; omega)⟩
     rw [preT_succ hy]
     simpa only [List.append_assoc] using hb3
    ·have:i=e.kids.length:=by omega
     subst this
     refine rawK_of (bldS_den (s:=bs [41]) hbi (hfi.mono (by omega)) (by rw [bs_size]; simp only [List.length_append,List.length_cons,List.length_nil]; rw [List.take_length] at hpl; omega)) ?_
     rintro r h2 n2 ⟨hb2,hk2,hn2,hf2⟩
     simp -dsimp -implicitDefEqProofs only [go_sem,seval]
     rw [bs_list] at hb2
     refine ⟨rfl, ?_,fun k o hk ho=>hk2 k o (hki k o hk ho) ho,by omega,hf2⟩
     have hpre:preT e.kids e.kids.length=40::commas (e.kids.map Expr.txt):=by
      unfold preT
      rw [if_neg (by simpa using hkne),List.take_length]
     rw [hpre] at hb2
     rw [htx]
     simpa only [List.append_assoc,List.cons_append,List.nil_append] using hb2)
def Expr.text (e:Expr):List UInt8:=if e.formed then e.txt else []
theorem formed_size {e:Expr} (h:e.formed=true):e.size<=600:=by
 simp only [Expr.formed,Bool.and_eq_true,decide_eq_true_eq] at h; exact h.1
theorem text_len (e:Expr):e.text.length<=36000:=by
 unfold Expr.text
 split
 ·rename_i h
  have:=txt_len 40 e (formed_deep h)
  have:=formed_size h
  omega
 ·simp
theorem textP_den (e:Expr):Den Γ G 243 [(.agg [.t (ti (e).op), .t (ti (e).w), .t (ti (e).n), .t (.sl ((e).kids.map (Expr.enc)))])]=some (.t (.str (bs e.text))):=by
 (refine den_ofY Γ243 rfl ?_; dsimp only [f243])
 have h1:=wellFormed_den e
 by_cases hf:e.formed=true
 ·simp -dsimp -implicitDefEqProofs only [go_sem,seval,h1,hf]
  refine rawK_of (write_den 40 e _ _ _ _ _ [] (formed_deep hf) (.inr ⟨_,false,rfl, ?_⟩) ?_ (.inl ⟨?_,rfl⟩) ?_ (by have:=formed_size hf; simp; omega)) ?_
  ·simp -dsimp -implicitDefEqProofs only [go_sem,seval]
  ·simp -dsimp -implicitDefEqProofs only [go_sem,seval]
  ·simp -dsimp -implicitDefEqProofs only [go_sem,seval]
  ·intro q hq
   simp only [updC_at]
   repeat rw [if_neg (by omega)]
  ·rintro r h2 n2 ⟨rfl,hb2,hk2,hn2,hf2⟩
   simp -dsimp -implicitDefEqProofs only [go_sem,seval]
   refine rawK_of (bldG_den hb2) ?_
   rintro r h3 n3 rfl
   simp -dsimp -implicitDefEqProofs only [go_sem,seval]
   simp [Expr.text,hf]
 ·have hf:e.formed=false:=by simpa using hf
  simp -dsimp -implicitDefEqProofs only [go_sem,seval,h1,hf]
  simp [Expr.text,hf]
end Rg
end
section
set_option maxRecDepth 100000
namespace Rg
open Go
end Rg
end
section
namespace Rg
open Go
def OwnB (h:Nat->Option O) (x:Nat) (v:V) (sz:Nat) (rows:List (List V)):Prop :=
 (v = .t .nils/\rows=[]) \/ ∃ k,v = .ms k 0 rows.length/\k<x/\h k=some (.rows sz rows false)
theorem OwnB.rowsS {h:Nat->Option O} {x:Nat} {v:V} {sz:Nat} {rows:List (List V)} (o:OwnB h x v sz rows):rowsS h v=some rows:=by
 rcases o with ⟨rfl,rfl⟩ | ⟨k,rfl,_,hk⟩
 ·rfl
 ·simp [Rg.rowsS,hk,rd]
theorem OwnB.lenS {h:Nat->Option O} {x:Nat} {v:V} {sz:Nat} {rows:List (List V)} (o:OwnB h x v sz rows):lenS h v=some rows.length:=by
 rcases o with ⟨rfl,rfl⟩ | ⟨k,rfl,_,hk⟩
 ·rfl
 ·simp [Rg.lenS,hk]
theorem OwnB.valOf {h:Nat->Option O} {x:Nat} {v:V} {sz:Nat} {rows:List (List V)} (o:OwnB h x v sz rows):valOf v=some v:=by
 rcases o with ⟨rfl,rfl⟩ | ⟨k,rfl,_,hk⟩ <;> rfl
theorem putA_app {h:Nat->Option O} {x q sz bytes:Nat} {u:V} {a b:List (List V)} {K:V->List (Nat×O)->Prop} {w:WK K}
 (ho:OwnB h x u sz a) (hx:x<=q) (hlen:a.length+b.length<=2^32) (hby:bytes<=2^12) (hb:(b.all fun r=>decide (r.length=sz))=true) (ha:(a.all fun r=>decide (r.length=sz))=true)
 (hK : ∀ v hp,OwnB (hpC h hp) (q+1) v sz (a++b)->(∀ j,j<q->(∀ i n,u ≠ .ms j i n)->hpC h hp j=h j)->(∀ j,q<j->hpC h hp j=h j)->K v hp) :
 putA false (appS h q sz bytes u a b) K w:=by
 unfold appS
 rw [if_pos ⟨⟨hlen,hby⟩,hb,ha⟩]
 cases b with
 | nil =>
  simp only [List.isEmpty_nil,if_true,putA_some]
  refine hK _ _ ?_ (fun j _ _=>by rw [hpC_nil]) (fun j _=>by rw [hpC_nil])
  rw [hpC_nil,List.append_nil]
  rcases ho with h1 | ⟨k,h1,h2,h3⟩
  ·exact .inl h1
  ·exact .inr ⟨k,h1,by omega,h3⟩
 | cons r b =>
  simp only [List.isEmpty_cons,Bool.false_eq_true,if_false]
  rcases ho with ⟨rfl,rfl⟩ | ⟨k,rfl,hk,hh⟩
  ·simp only [putA_some]
   refine hK _ _ (.inr ⟨q,rfl,by omega, ?_⟩) (fun j hj _ => ?_) (fun j hj => ?_)
   ·simp [hpC_cons,hpC_nil,updC_at]
   ·have:j≠q:=by omega
    simp [hpC_cons,hpC_nil,updC_at,this]
   ·have:j≠q:=by omega
    simp [hpC_cons,hpC_nil,updC_at,this]
  ·simp only [hh,and_self,if_true,putA_some,appRows_self]
   refine hK _ _ (.inr ⟨q,by rw [List.length_append],by omega, ?_⟩) (fun j hj hne => ?_) (fun j hj => ?_)
   ·simp [hpC_cons,hpC_nil,updC_at]
   ·have h1:j≠q:=by omega
    have h2:j≠k:=by rintro rfl; exact hne 0 _ rfl
    simp [hpC_cons,hpC_nil,updC_at,h1,h2]
   ·have h1:j≠q:=by omega
    have h2:j≠k:=by omega
    simp [hpC_cons,hpC_nil,updC_at,h1,h2]
theorem putA_appM {h:Nat->Option O} {x q sz bytes k0 n0:Nat} {a b:List (List V)} {K:V->List (Nat×O)->Prop} {w:WK K}
 (hh:h k0=some (.rows sz a false)) (hn:n0=a.length) (hx:k0<x) (hxq:x<=q) (hlen:a.length+b.length<=2^32) (hby:bytes<=2^12) (hb:(b.all fun r=>decide (r.length=sz))=true) (ha:(a.all fun r=>decide (r.length=sz))=true)
 (hK : ∀ k hp,k<q+1->hpC h hp k=some (.rows sz (a++b) false)->(∀ j,j<q->j≠k0->hpC h hp j=h j)->(∀ j,q<j->hpC h hp j=h j)->K (.ms k 0 (a++b).length) hp) :
 putA false (appS h q sz bytes (.ms k0 0 n0) a b) K w:=by
 subst hn
 unfold appS
 rw [if_pos ⟨⟨hlen,hby⟩,hb,ha⟩]
 cases b with
 | nil =>
  simp only [List.isEmpty_nil,if_true,putA_some]
  have:=hK k0 [] (by omega) (by rw [hpC_nil,List.append_nil]; exact hh) (fun j _ _=>by rw [hpC_nil]) (fun j _=>by rw [hpC_nil])
  rwa [List.append_nil] at this
 | cons r b =>
  simp only [List.isEmpty_cons,Bool.false_eq_true,if_false,hh,and_self,if_true,putA_some,appRows_self]
  have:=hK q [(k0, .dead),(q, .rows sz (a++r::b) false)] (by omega) (by simp [hpC_cons,hpC_nil,updC_at]) (fun j hj hne=>by
   have h1:j≠q:=by omega
   simp [hpC_cons,hpC_nil,updC_at,h1,hne]) (fun j hj=>by
   have h1:j≠q:=by omega
   have h2:j≠k0:=by omega
   simp [hpC_cons,hpC_nil,updC_at,h1,h2])
  rwa [List.length_append] at this
def inCells (p:Prog) (e:Expr):Prop := ∀ op,op=2\/op=3 -> ∀ c∈e.sup op,0<=c/\c<p.cells.length
def mayR (p:Prog) (shared:Bool) (t c:Int):Bool:=match p.cells[c.toNat]? with
 | some x => !((decide (x.thread = -1) && !shared)||(decide (0<=x.thread)&&decide (x.thread≠t)))
 | none=>false
theorem sup_len (op:Int) (e:Expr):(e.sup op).length<=32:=by
 unfold Expr.sup
 split
 ·unfold marked; rw [List.length_map]; exact Nat.le_trans (List.length_filter_le _ _) (by simp)
 ·simp
theorem rowsI_eq (l:List Int):(l.map fun n=>[ti n]).map (fun x=>x.map V.t)=rowsI l:=rfl
theorem overR_den (p:Prog) (e:Expr) (sh:Bool) (t:Int) (hin:inCells p e) :
 Den Γ G 115 [(.agg [.t (.sl ((p).cells.map (Cell.enc))), .t (.sl ((p).modules.map (Contract.enc))), .t (.sl ((p).locks.map (Lock.enc))), .t (.sl ((p).threads.map (Thread.enc)))]),(.agg [.t (ti (e).op), .t (ti (e).w), .t (ti (e).n), .t (.sl ((e).kids.map (Expr.enc)))]),vb sh,vi t]=some (vb ((e.sup 3++e.sup 2).all (mayR p sh t))):=by
 (refine den_ofY Γ115 rfl ?_; dsimp only [f115])
 have h1:=supportR_den e
 have s3:=sup_len 3 e
 have s2:=sup_len 2 e
 have hall : ∀ c∈e.sup 3++e.sup 2,0<=c/\c<p.cells.length:=by
  intro c hc
  rcases List.mem_append.1 hc with hc | hc
  ·exact hin 3 (.inr rfl) c hc
  ·exact hin 2 (.inl rfl) c hc
 have hap:rowsI (e.sup 3)++rowsI (e.sup 2)=rowsI (e.sup 3++e.sup 2):=by simp [rowsI]
 have hlen:(e.sup 3++e.sup 2).length<=64:=by rw [List.length_append]; omega
 simp -dsimp -implicitDefEqProofs only [go_sem,seval,h1,rowsI_eq]
 refine putA_appM (x:=11) (by simp -dsimp -implicitDefEqProofs only [go_sem,seval]) rfl (by decide) (by decide) (by rw [rowsI_len]; simp; omega) (by decide) (rowsI_all _) (by decide) ?_
 intro k hp hk hh _ _
 rw [List.nil_append] at hh ⊢
 simp -dsimp -implicitDefEqProofs only [go_sem,seval,hh,rowsI_eq,Nat.le_refl,List.take_length]
 refine putA_appM hh rfl hk (by decide) (by rw [rowsI_len,rowsI_len]; omega) (by decide) (rowsI_all _) (rowsI_all _) ?_
 intro k2 hp2 hk2 hh2 _ _
 rw [hap] at hh2 ⊢
 generalize e.sup 3++e.sup 2=l at *
 obtain ⟨M,hM⟩ : ∃ M,M=mayR p sh t:=⟨_,rfl⟩
 rw [<- hM]
 replace hM : ∀ c,mayR p sh t c=M c:=fun c=>by rw [hM]
 cases sh
 all_goals (
  simp -dsimp -implicitDefEqProofs only [go_sem,seval]
  refine loopYH 18014398492717312 l.length (fun i f hh x=>(f 12).v=vi i/\hh k2=some (.rows 1 (rowsI l) false)/\(l.take i).all M=true) rfl ⟨by simp -dsimp -implicitDefEqProofs only [go_sem,seval],by simp -dsimp -implicitDefEqProofs only [go_sem,seval,hh2],by simp⟩ ?_
  clear hh2
  rintro i f u hh x bs hi ⟨h12,hh2,htk⟩
  have hwi:=wrapS i (by omega)
  simp -dsimp -implicitDefEqProofs only [go_sem,seval,h12,hh2,rowsI_len]
  refine csplit (fun h => ?_) (fun h => ?_) <;> (try simp only [bools] at h) <;> (try simp -dsimp -implicitDefEqProofs only [go_sem,seval, *])
  ·obtain ⟨c,hc,hm⟩:=get_of (show i<l.length by omega)
   obtain ⟨c0,c1⟩:=hall c hm
   obtain ⟨y,hy⟩ : ∃ y,p.cells[c.toNat]? = some y:=⟨_,List.getElem?_eq_getElem (by omega)⟩
   have hrow:(rowsI l)[i]? = some [vi c]:=by simp [rowsI,hc]
   have hi0:(0:Int)<=(i:Int):=by omega
   have hi1:i<l.length:=by omega
   have hmay:=(hM c).symm
   simp only [mayR,hy] at hmay
   have hno:M c=false->l.all M=false:=fun h0=>all_false_of hm h0
   simp -dsimp -implicitDefEqProofs only [go_sem,seval,h12,hh2,hrow,hi1,c0,hy,rowsI_len]
   repeat' (refine csplit (fun h => ?_) (fun h => ?_) <;> (try simp only [bools] at h) <;> (try simp -dsimp -implicitDefEqProofs only [go_sem,seval, *]))
   all_goals first
    | (rw [hno (by rw [hmay]; simp [*])]; done)
    | (refine ⟨by omega,by simp -dsimp -implicitDefEqProofs only [go_sem,seval,hwi],by simp -dsimp -implicitDefEqProofs only [go_sem,seval,hh2], ?_⟩
       rw [take_succ_of hc,List.all_append,htk]
       simp only [List.all_cons,List.all_nil,hmay]
       simp [*]; (try omega); done)
  ·have:i=l.length:=by omega
   subst this
   rw [List.take_length] at htk
   rw [htk])
theorem OwnB.upd {h:Nat->Option O} {x:Nat} {v:V} {sz:Nat} {rows:List (List V)} (o:OwnB h x v sz rows) {q:Nat} (hq:x<=q) (b:Option O):OwnB (updC h q b) (q+1) v sz rows:=by
 rcases o with o | ⟨k,h1,h2,h3⟩
 ·exact .inl o
 ·exact .inr ⟨k,h1,by omega,by rw [updC_at,if_neg (by omega)]; exact h3⟩
theorem OwnB.le {h:Nat->Option O} {x y:Nat} {v:V} {sz:Nat} {rows:List (List V)} (o:OwnB h x v sz rows) (hq:x<=y):OwnB h y v sz rows:=by
 rcases o with o | ⟨k,h1,h2,h3⟩
 ·exact .inl o
 ·exact .inr ⟨k,h1,by omega,h3⟩
theorem OwnB.r1 {h:Nat->Option O} {x:Nat} {v:V} {sz:Nat} {rows:List (List V)} (o:OwnB h x v sz rows) (a:Nat) (b:Option O):Rg.rowsS (updC h (x+a) b) v=some rows:=(o.upd (by omega) b).rowsS
theorem OwnB.r2 {h:Nat->Option O} {x:Nat} {v:V} {sz:Nat} {rows:List (List V)} (o:OwnB h x v sz rows) (a c:Nat) (b:Option O):Rg.rowsS (updC h (x+a+c) b) v=some rows:=(o.upd (by omega) b).rowsS
theorem OwnB.r3 {h:Nat->Option O} {x:Nat} {v:V} {sz:Nat} {rows:List (List V)} (o:OwnB h x v sz rows) (a c d:Nat) (b:Option O):Rg.rowsS (updC h (x+a+c+d) b) v=some rows:=(o.upd (by omega) b).rowsS
theorem OwnB.r4 {h:Nat->Option O} {x:Nat} {v:V} {sz:Nat} {rows:List (List V)} (o:OwnB h x v sz rows) (a c d e:Nat) (b:Option O):Rg.rowsS (updC h (x+a+c+d+e) b) v=some rows:=(o.upd (by omega) b).rowsS
theorem OwnB.r5 {h:Nat->Option O} {x:Nat} {v:V} {sz:Nat} {rows:List (List V)} (o:OwnB h x v sz rows) (a c d e f:Nat) (b:Option O):Rg.rowsS (updC h (x+a+c+d+e+f) b) v=some rows:=(o.upd (by omega) b).rowsS
theorem OwnB.reify {h:Nat->Option O} {x:Nat} {v:V} {sz:Nat} {es:List (List T)} (o:OwnB h x v sz (es.map (·.map V.t))) (hn : ∀ e∈es, ∀ t∈e,T.norm t=t):Rg.reify h v=some (.t (.sl es)):=by
 have:=own_reify o hn
 rcases o with ⟨rfl,he⟩ | ⟨k,rfl,_,_⟩
 ·have:es=[]:=by simpa using he
  subst this; rfl
 ·simp only [Rg.reify,toT1,this,Option.map_some]
theorem OwnB.one {h:Nat->Option O} {x:Nat} {v:V} {sz:Nat} {rows:List (List V)} (o:OwnB h x v sz rows):v.one=true:=by
 rcases o with ⟨rfl,_⟩ | ⟨k,rfl,_,_⟩ <;> rfl
theorem OwnB.resVal {h:Nat->Option O} {x:Nat} {v:V} {sz:Nat} {rows:List (List V)} (o:OwnB h x v sz rows):Rg.resVal v=some v:=by
 rcases o with ⟨rfl,_⟩ | ⟨k,rfl,_,_⟩ <;> rfl
def offK (v:V) (k:Nat):Prop := ∀ i n,v ≠ .ms k i n
theorem offK_ms {q k:Nat} (h:k≠q) (i n:Nat):offK (.ms q i n) k:=by
 intro i' n' he; cases he; exact h rfl
theorem OwnB.off {h:Nat->Option O} {x:Nat} {v:V} {sz:Nat} {rows:List (List V)} (o:OwnB h x v sz rows) {k:Nat} (hk:x<=k):offK v k:=by
 rcases o with ⟨rfl,_⟩ | ⟨k',rfl,h2,_⟩
 ·intro i n he; cases he
 ·exact offK_ms (by omega) _ _
theorem putA_app1 {h:Nat->Option O} {x q sz bytes:Nat} {u:V} {a:List (List V)} {r:List V} {K:V->List (Nat×O)->Prop} {w:WK K}
 (ho:OwnB h x u sz a) (hx:x<=q) (hlen:a.length<2^32) (hby:bytes<=2^12) (hb:r.length=sz) (ha:(a.all fun r=>decide (r.length=sz))=true)
 (hK : ∀ v hp,OwnB (hpC h hp) (q+1) v sz (a++[r])->(∀ j,j<x->offK v j)->(∀ j,j<x->offK u j->hpC h hp j=h j)->K v hp) :
 putA false (appS h q sz bytes u a [r]) K w:=by
 unfold appS
 rw [if_pos ⟨⟨by simp; omega,hby⟩,by simp [hb],ha⟩]
 simp only [List.isEmpty_cons,Bool.false_eq_true,if_false]
 rcases ho with ⟨rfl,rfl⟩ | ⟨k,rfl,hk,hh⟩
 ·simp only [putA_some]
  refine hK _ _ (.inr ⟨q,rfl,by omega, ?_⟩) (fun j hj=>offK_ms (by omega) _ _) (fun j hj _ => ?_)
  ·simp [hpC_cons,hpC_nil,updC_at]
  ·have:j≠q:=by omega
   simp [hpC_cons,hpC_nil,updC_at,this]
 ·simp only [hh,and_self,if_true,putA_some,appRows_self]
  refine hK _ [(k, .dead),(q, .rows sz (a++[r]) false)] (.inr ⟨q,by rw [List.length_append],by omega,by simp [hpC_cons,hpC_nil,updC_at]⟩) (fun j hj=>offK_ms (by omega) _ _) (fun j hj hne => ?_)
  have h1:j≠q:=by omega
  have h2:j≠k:=by rintro rfl; exact hne 0 _ rfl
  simp [hpC_cons,hpC_nil,updC_at,h1,h2]
theorem OwnB.keep {h h' : Nat->Option O} {x y:Nat} {v:V} {sz:Nat} {rows:List (List V)} (o:OwnB h x v sz rows) (hxy:x<=y) (hh : ∀ k,k<x -> ¬ offK v k->h' k=h k):OwnB h' y v sz rows:=by
 rcases o with o | ⟨k,rfl,h2,h3⟩
 ·exact .inl o
 ·exact .inr ⟨k,rfl,by omega,by rw [hh k h2 (fun h0=>h0 _ _ rfl)]; exact h3⟩
theorem freK_of {h:Nat->Option O} {key g sz:Nat} {vs rs:List V} {es:List (List T)} {K:V->List (Nat×O)->Prop} {w:WK K} (ht:vs.all V.tree=true) (hrs:vs.mapM (toT1 h)=some rs)
 (hd : ∃ r h' n',DenR Γ G g rs (fun _=>none) 0=some (r,h',n')/\OwnB h' n' r sz (es.map (·.map V.t)))
 (hK : ∀ v hp,OwnB (hpC h hp) (key+1) v sz (es.map (·.map V.t))->(∀ j,j≠key->hpC h hp j=h j)->(∀ j,j≠key->offK v j)->K v hp):freK (Γ:=Γ) (G:=G) false h key g vs K w:=by
 obtain ⟨r,h',n',hden,hown⟩:=hd
 have hreach:vs.flatMap (reach1 h)=[]:=by
  simp only [List.flatMap_eq_nil_iff]
  intro v hv
  exact reach_tree (List.all_eq_true.1 ht v hv)
 refine ⟨rfl,hreach,rs,hrs,r,h',n',hden, ?_⟩
 rcases hown with ⟨rfl,he⟩ | ⟨k,rfl,hk,hh⟩
 ·refine ⟨{ val:=.t .nils },rfl,hK _ _ (.inl ⟨rfl,he⟩) (fun j _=>by rw [hpC_nil]) (fun j _ i n h=>by cases h)⟩
 ·have hall:(es.map (·.map V.t)).all (fun row=>row.all V.isTr)=true:=by
   simp [V.isTr]
  refine ⟨{ val:=.ms key 0 (es.map (·.map V.t)).length,hp:=[(key, .rows sz (es.map (·.map V.t)) false)] }, ?_,hK _ _ (.inr ⟨key,rfl,by omega,by simp [hpC_cons,hpC_nil,updC_at]⟩) (fun j hj=>by simp [hpC_cons,hpC_nil,updC_at,hj]) (fun j hj=>offK_ms (by omega) _ _)⟩
  simp only [ownR,hh]
  rw [if_pos ⟨trivial,trivial,hall⟩]
def NxtLe:Task->Out->Prop
 | .code _ s, .code _ s' => s.nxt<=s'.nxt
 | .loop _ s, .code _ s' => s.nxt<=s'.nxt
 | .ops _ _ _ s, .ops s' => s.nxt<=s'.nxt
 | .rcall _ _ _ n, .vals _ _ n' => n<=n'
 | _,_=>True
theorem big_nxt {Γ:Nat->Option F} {G:Nat->List T} {t:Task} {o:Out} (h:Big Γ G t o):NxtLe t o:=by
 induction h with
 | rext hg hr hb h=>exact (ext_frame h).1
 | opsYield hw hf ho hfv hkk hvs hlen hca hk1 hcb hk2 h iha ihb ih =>
  simp only [NxtLe,St.apply,roundSt] at *
  omega
 | _=>simp_all [NxtLe,St.begin,St.apply,St.init] <;> omega
theorem denR_nxt {Γ:Nat->Option F} {G:Nat->List T} {g:Nat} {args:List V} {h h' : Nat->Option O} {n n' : Nat} {r:V} (hd:DenR Γ G g args h n=some (r,h',n')):n<=n' := big_nxt (denR_iff.1 hd)
theorem nxt_of {Γ:Nat->Option F} {G:Nat->List T} {g:Nat} {args:List V} {h:Nat->Option O} {n:Nat} {P:V->(Nat->Option O)->Nat->Prop} (hd : ∃ r h' n',DenR Γ G g args h n=some (r,h',n')/\P r h' n') :
 ∃ r h' n',DenR Γ G g args h n=some (r,h',n')/\(P r h' n' /\ n<=n') :=
 let ⟨r,h',n',h1,h2⟩:=hd
 ⟨r,h',n',h1,h2,denR_nxt h1⟩
theorem supportP_den (e:Expr) (H0:Nat->Option O) (n0:Nat) :
 ∃ r h' n',DenR Γ G 60 [(.agg [.t (ti (e).op), .t (ti (e).w), .t (ti (e).n), .t (.sl ((e).kids.map (Expr.enc)))])] H0 n0=some (r,h',n') /\ ∃ v3 v2,r = .tup [v3,v2]/\OwnB h' n' v3 1 (rowsI (e.sup 3))/\OwnB h' n' v2 1 (rowsI (e.sup 2))/\n0<=n' /\ ∀ k,k<n0->h' k=H0 k/\offK v3 k/\offK v2 k:=by
 (refine denR_ofY Γ60 rfl ?_; dsimp only [f60])
 have h1:=wellFormed_den e
 by_cases hf:e.formed=true
 ·simp -dsimp -implicitDefEqProofs only [go_sem,seval,h1,hf]
  have hd:=formed_deep hf
  refine rawK_of (nxt_of (leaves_den 77 _ (fun s h=>IS (n0+0) (n0+3+3+0) (n0+3+3+1) e s h /\ ∀ k,k<n0->h k=H0 k) (fun s x=>(markS 3 s.1 x,markS 2 s.2 x)) lcS ?_ e _ (List.replicate 32 false,List.replicate 32 false) _ _ (deep_lcS 40 e hd) ⟨⟨rfl,rfl, ?_, ?_, ?_⟩, ?_⟩ (fun s h hI => .inr ⟨n0+0,false,rfl,hI.1.2.2.2.2⟩))) ?_
  ·rintro s h n v x ⟨hI,hkp⟩ hk hl hs
   obtain ⟨r,h',n',hd,hI',hkp'⟩:=support1_den (n0+0) (n0+3+3+0) (n0+3+3+1) e (by omega) (by omega) (by omega) s h n v x hI hk hl hs
   exact ⟨r,h',n',hd,hI',fun k hk=>(hkp' k (by omega) (by omega)).trans (hkp k hk)⟩
  ·rw [updC_at,if_neg (by omega),updC_at,if_pos rfl]; rfl
  ·rw [updC_at,if_pos rfl]; rfl
  ·rw [updC_at,if_neg (by omega),updC_at,if_neg (by omega),updC_at,if_pos rfl]
  ·intro k hk
   rw [updC_at,if_neg (by omega),updC_at,if_neg (by omega),updC_at,if_neg (by omega)]
  rintro r h' n' ⟨⟨hI,hkp⟩,hnn⟩
  rw [foldl_pair] at hI
  obtain ⟨l1,l2,i4,i5,i1⟩:=hI
  change h' (n0+3+3+0)=some (.rows 32 [vbs (e.occ 3)] false) at i4
  change h' (n0+3+3+1)=some (.rows 32 [vbs (e.occ 2)] false) at i5
  have o3:=occ_len 3 e
  have o2:=occ_len 2 e
  have v3:(vbs (e.occ 3)).length=32:=by simp [vbs,o3]
  have v2:(vbs (e.occ 2)).length=32:=by simp [vbs,o2]
  have t3:List.take 32 (vbs (e.occ 3))=vbs (e.occ 3):=List.take_of_length_le (by omega)
  have t2:List.take 32 (vbs (e.occ 2))=vbs (e.occ 2):=List.take_of_length_le (by omega)
  have m3:=members_den (e.occ 3) o3
  have m2:=members_den (e.occ 2) o2
  change ∃ r h' n',DenR Γ G 78 [V.agg (vbs (e.occ 3))] (fun _=>none) 0=some (r,h',n')/\_ at m3
  change ∃ r h' n',DenR Γ G 78 [V.agg (vbs (e.occ 2))] (fun _=>none) 0=some (r,h',n')/\_ at m2
  have tr : ∀ l:List Bool,[V.agg (vbs l)].all V.tree=true:=fun l=>by
   simp only [List.all_cons,List.all_nil,Bool.and_true,V.tree,vbs,List.all_map,List.all_eq_true]; intros; rfl
  have mt : ∀ (g:Nat->Option O) (l:List Bool),[V.agg (vbs l)].mapM (toT1 g)=some [V.agg (vbs l)]:=fun g l=>by
   have:List.mapM (toT g 1000) (vbs l)=some (l.map fun b=>tb b):=by
    refine mapM_some_of _ _ _ (fun i a ha => ?_) (by simp [vbs])
    rw [vbs,List.getElem?_map] at ha
    rw [List.getElem?_map]
    cases hb:l[i]? with
    | none=>rw [hb] at ha; simp at ha
    | some x=>rw [hb] at ha; simp at ha; subst ha; exact ⟨_,rfl,rfl⟩
   have h2:List.map V.t (l.map fun b=>tb b)=vbs l:=by simp [vbs]
   simp only [List.mapM_cons,List.mapM_nil,toT1,this,Option.map_some,h2]; rfl
  simp -dsimp -implicitDefEqProofs only [go_sem,seval,i4,v3,t3]
  refine freK_of (tr _) (mt _ _) m3 ?_
  intro w3 hp3 hO3 hk3 hf3
  have x3:=hO3.valOf
  have i5' := (hk3 (n0+3+3+1) (by omega)).trans i5
  simp -dsimp -implicitDefEqProofs only [go_sem,seval,i5',v2,t2,x3]
  refine freK_of (tr _) (mt _ _) m2 ?_
  intro w2 hp2 hO2 hk2 hf2
  have x2:=hO2.valOf
  have y3:=hO3.resVal
  have y2:=hO2.resVal
  simp only [Rg.resVal] at y3 y2
  simp -dsimp -implicitDefEqProofs only [go_sem,seval,x3,x2,y3,y2]
  have hs : ∀ op,marked (e.occ op) 32=e.sup op:=fun op=>by simp [Expr.sup,hf]
  have hO3' := hO3.keep (y:=n' + 6) (h' := hpC (hpC h' hp3) hp2) (by omega) (fun k hk _=>hk2 k (by omega))
  have ha : ∀ l:List ROp,l.length=6->addC n' l=n' + 6:=fun l hl=>by rw [addC_eq]; simp [hl]
  refine ⟨w3,w2,rfl, ?_, ?_, ?_,fun k hk=>⟨?_,hf3 k (by omega),hf2 k (by omega)⟩⟩
  ·rw [<- hs 3,ha _ rfl]; exact hO3'
  ·rw [<- hs 2,ha _ rfl]; exact hO2.le (by omega)
  ·rw [ha _ rfl]; omega
  ·rw [hk2 k (by omega),hk3 k (by omega)]; exact hkp k hk
 ·have hf:e.formed=false:=by simpa using hf
  simp -dsimp -implicitDefEqProofs only [go_sem,seval,h1,hf]
  have hs : ∀ op,e.sup op=[]:=fun op=>by simp [Expr.sup,hf]
  rw [hs,hs]
  exact ⟨_,_,rfl, .inl ⟨rfl,rfl⟩, .inl ⟨rfl,rfl⟩,Nat.le_trans (addC_le _ _) (Nat.le_trans (addC_le _ _) (addC_le _ _)),fun k hk=>⟨by rw [updC_at,if_neg (by omega)],(fun i n h=>by cases h),(fun i n h=>by cases h)⟩⟩
def feGo {α:Type} (f:Nat->α->Int):Nat->List α->Int×Int
 | _,[]=>(0, -1)
 | i,x::r=>if f i x=0 then feGo f (i+1) r else (f i x,i)
theorem drop_of {α:Type} {l:List α} {i:Nat} {x:α} (h:l[i]? = some x):l.drop i=x::l.drop (i+1):=by
 obtain ⟨hi,rfl⟩:=List.getElem?_eq_some_iff.1 h
 exact List.drop_eq_getElem_cons hi
theorem fe_step {α:Type} {f:Nat->α->Int} {l:List α} {i:Nat} {x:α} (h:l[i]? = some x) (h0:f i x=0):feGo f i (l.drop i)=feGo f (i+1) (l.drop (i+1)):=by
 rw [drop_of h,feGo,if_pos h0]
theorem fe_stop {α:Type} {f:Nat->α->Int} {l:List α} {i:Nat} {x:α} (h:l[i]? = some x) (h0 : ¬ f i x=0):feGo f i (l.drop i)=(f i x,(i:Int)):=by
 rw [drop_of h,feGo,if_neg h0]
theorem fe_end {α:Type} (f:Nat->α->Int) (l:List α):feGo f l.length (l.drop l.length)=(0, -1):=by
 rw [List.drop_length]; rfl
theorem all_step {α:Type} {P:α->Bool} {l:List α} {i:Nat} {x:α} (h:l[i]? = some x) (h0:P x=true):(l.drop i).all P=(l.drop (i+1)).all P:=by
 rw [drop_of h,List.all_cons,h0,Bool.true_and]
theorem all_stop {α:Type} {P:α->Bool} {l:List α} {i:Nat} {x:α} (h:l[i]? = some x) (h0:P x=false):(l.drop i).all P=false:=by
 rw [drop_of h,List.all_cons,h0,Bool.false_and]
theorem all_end {α:Type} (P:α->Bool) (l:List α):(l.drop l.length).all P=true:=by
 rw [List.drop_length]; rfl
def mayP (p:Prog) (sh:Bool) (t c:Int):Bool:=if sh then sees p t c else ofThread p t c
def overOk (p:Prog) (e:Expr) (sh:Bool) (t:Int):Bool:=(e.sup 3).all (mayP p sh t)&&(e.sup 2).all (mayP p sh t)
def truthOk (p:Prog) (e:Expr) (pair:Bool) (t:Int):Bool:=e.valid p.cells pair&&decide (e.w=1)&&overOk p e true t
def threadBad (x:Thread):Bool:=decide (x.points>48)||decide ((x.steps.length:Int)>64)||decide ((x.loops.length:Int)>8)
def limitsM (p:Prog):Int×Int :=
 if (p.cells.length:Int)>32\/(p.modules.length:Int)>6\/(p.locks.length:Int)>4\/(p.threads.length:Int)>4 then (2, -1)
 else feGo (fun _ x=>if threadBad x then 2 else 0) 0 p.threads
def cellBad (p:Prog) (c:Cell):Bool :=
 !isLabel c.name||decide (c.w<1)||decide (c.w>8)||decide (c.init<0)||decide (c.init>=2^c.w.toNat)||decide (c.thread < -1)||decide (c.thread>=p.threads.length) || !inR c.module p.modules.length
def cellErr (p:Prog) (i:Nat) (c:Cell):Int :=
 if cellBad p c then 1 else if (p.cells.take i).any (fun d=>d.name.toList==c.name.toList) then 41 else 0
def cellsM (p:Prog):Int:=(feGo (cellErr p) 0 p.cells).1
def modErr (p:Prog) (i:Nat) (m:Contract):Int :=
 if !isLabel m.name || !isLabel m.owner then 1
 else if (p.modules.take i).any (fun d=>d.name.toList==m.name.toList) then 41
 else if (!m.rely.absent && !truthOk p m.rely true (-1)) || !truthOk p m.guar true (-1) then 60
 else if !rising m.frame || !m.frame.all (ofThread p (-1)) then 1 else 0
def modulesM (p:Prog):Int:=(feGo (modErr p) 0 p.modules).1
def cellIs (p:Prog) (c:Int) (f:Cell->Bool):Bool:=match p.cells[c.toNat]? with
 | some x=>f x
 | none=>false
def lockErr (p:Prog) (i:Nat) (l:Lock):Int :=
 if !ofThread p (-1) l.cell || !cellIs p l.cell (fun x=>decide (x.w=1))||cellIs p l.cell Cell.ghost || !inR l.module p.modules.length then 1
 else if (p.locks.take i).any (fun d=>decide (d.cell=l.cell)) then 1
 else if !truthOk p l.inv false (-1) then 60 else 0
def locksM (p:Prog):Int:=(feGo (lockErr p) 0 p.locks).1
def setErr (p:Prog) (set:List Assign) (i:Nat) (a:Assign):Int :=
 if !inR a.cell p.cells.length||(set.take i).any (fun b=>decide (b.cell=a.cell)) then 70
 else if !a.to.valid p.cells false || !cellIs p a.cell (fun x=>decide (a.to.w=x.w)) then 60 else 0
def valuesOk (p:Prog) (s:Step) (sh:Bool) (t:Int):Bool:=overOk p s.guard sh t&&s.set.all fun a=>overOk p a.to sh t
def joinOk (p:Prog) (t:Int) (s:Step):Bool:=s.guard.one&&decide (s.set=[])&&decide (s.target≠t)&&inR s.target p.threads.length
def asleepAt (p:Prog) (t:Int):Bool:=match p.threads[t.toNat]? with
 | some x=>x.asleep
 | none=>false
def loadOk (p:Prog) (t:Int) (s:Step):Bool:=match s.set with
 | []=>false
 | a::r=>overOk p s.guard false t&&ofThread p t a.cell && !cellIs p a.cell Cell.ghost&&decide (a.to.op=2)&&ofThread p (-1) a.to.n && !cellIs p a.to.n Cell.ghost &&
  r.all fun b=>ofThread p t b.cell&&cellIs p b.cell Cell.ghost&&overOk p b.to false t
def storeOk (p:Prog) (t:Int) (s:Step):Bool:=match s.set with
 | []=>false
 | a::r=>valuesOk p s false t&&ofThread p (-1) a.cell && !cellIs p a.cell Cell.ghost&&r.all fun b=>cellIs p b.cell Cell.ghost&&sees p t b.cell
def kindOk (p:Prog) (t:Int) (s:Step):Bool :=
 if s.kind=1 then valuesOk p s false t&&s.set.all fun a=>ofThread p t a.cell
 else if s.kind=2 then loadOk p t s
 else if s.kind=3 then storeOk p t s
 else if s.kind=4 then valuesOk p s true t&&s.set.all fun a=>sees p t a.cell
 else if s.kind=5 then s.guard.one&&decide (s.set=[])
 else if s.kind=6 then joinOk p t s&&asleepAt p s.target
 else joinOk p t s
def stepBad (p:Prog) (n:Int) (s:Step):Bool :=
 decide (s.kind<1)||decide (s.kind>7) || !inR s.fr (n-1) || !inR s.to n || !inR s.module p.modules.length||(s.release&&decide (s.kind≠3))||(decide (s.target≠0) && !(decide (s.kind=6)||decide (s.kind=7)))
def stepErr (p:Prog) (t n:Int) (s:Step):Int :=
 if stepBad p n s then 70
 else if !s.guard.valid p.cells false||decide (s.guard.w≠1) then 60
 else if ¬ (feGo (setErr p s.set) 0 s.set).1=0 then (feGo (setErr p s.set) 0 s.set).1
 else if kindOk p t s then 0 else 70
def loopErr (p:Prog) (t n:Int) (l:Loop):Int :=
 if !inR l.head n || !rising l.body || !l.body.all (fun k=>inR k n&&decide (k≠l.head)) then 1
 else if !l.variant.valid p.cells false || !overOk p l.variant true t then 60 else 0
def threadErr (p:Prog) (i:Nat) (x:Thread):Int×Int :=
 if !isLabel x.name then (1, -1)
 else if (p.threads.take i).any (fun d=>d.name.toList==x.name.toList) then (41, -1)
 else if x.points<1 \/ ¬ (x.asserts.length:Int)=x.points \/ ¬ (x.modules.length:Int)=x.points then (1, -1)
 else if !x.modules.all (fun m=>inR m p.modules.length) then (1, -1)
 else if !x.asserts.all (fun e=>truthOk p e false i) then (60, -1)
 else if ¬ (feGo (fun _ s=>stepErr p i x.points s) 0 x.steps).1=0 then feGo (fun _ s=>stepErr p i x.points s) 0 x.steps
 else ((feGo (fun _ l=>loopErr p i x.points l) 0 x.loops).1, -1)
def thrGo (p:Prog):Nat->List Thread->Int×Int×Int
 | _,[]=>(0, -1, -1)
 | i,x::r=>if (threadErr p i x).1=0 then thrGo p (i+1) r else ((threadErr p i x).1,(i:Int),(threadErr p i x).2)
def validM (p:Prog):Int×Int×Int :=
 if ¬ (limitsM p).1=0 then ((limitsM p).1,(limitsM p).2, -1)
 else if ¬ cellsM p=0 then (cellsM p, -1, -1)
 else if ¬ modulesM p=0 then (modulesM p, -1, -1)
 else if ¬ locksM p=0 then (locksM p, -1, -1)
 else thrGo p 0 p.threads
theorem thr_step {p:Prog} {l:List Thread} {i:Nat} {x:Thread} (h:l[i]? = some x) (h0:(threadErr p i x).1=0):thrGo p i (l.drop i)=thrGo p (i+1) (l.drop (i+1)):=by
 rw [drop_of h,thrGo,if_pos h0]
theorem thr_stop {p:Prog} {l:List Thread} {i:Nat} {x:Thread} (h:l[i]? = some x) (h0 : ¬ (threadErr p i x).1=0):thrGo p i (l.drop i)=((threadErr p i x).1,(i:Int),(threadErr p i x).2):=by
 rw [drop_of h,thrGo,if_neg h0]
theorem thr_end (p:Prog) (l:List Thread):thrGo p l.length (l.drop l.length)=(0, -1, -1):=by
 rw [List.drop_length]; rfl
structure Prog.sane (p:Prog):Prop where
 cells:p.cells.length<2^40
 modules:p.modules.length<2^40
 locks:p.locks.length<2^40
 threads:p.threads.length<2^40
 cname : ∀ c∈p.cells,c.name.size<2^50
 mname : ∀ m∈p.modules,m.name.size<2^50/\m.owner.size<2^50/\m.frame.length<2^40
 thr : ∀ t∈p.threads,t.name.size<2^50/\t.asserts.length<2^40/\t.modules.length<2^40/\t.steps.length<2^40/\t.loops.length<2^40
 sets : ∀ t∈p.threads, ∀ s∈t.steps,s.set.length<2^40
 loops : ∀ t∈p.threads, ∀ l∈t.loops,l.body.length<2^40
end Rg
end

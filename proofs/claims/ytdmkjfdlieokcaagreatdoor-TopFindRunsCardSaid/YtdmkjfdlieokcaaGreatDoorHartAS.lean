/- Part of the proof of laws of relyguardtop. No condition. -/
import Derived.Test.YtdmkjfdlieokcaaGreatDoorHartAR
set_option linter.unusedSimpArgs false
set_option linter.unusedVariables false
section
namespace Rg
open Go
theorem zHk (SP:zH7) (run:List Choice) (hr: ∀x∈run,zGI x=true) (hl:run.length<=120):Den Γ G 448 [.t (.str (bs (zGn run)))]=some (.tup [.t (.sl (run.map Choice.enc)),vi 0]):=by
 cases run with
 | nil=>exact zHl
 | cons x r=>exact zHE SP _ hr hl (by simp)
theorem zHV {l:List Config} {i:Nat} {c:Config} (h:l[i]? =some c):(zGj l)[i]? =some [.t (ints c.mem),.t (ints c.at_),.t (.sl (c.buf.map fun b=>[.sl (b.map Entry.enc)]))]:=by simp[zGj,zue,h]
theorem zGy (p:Prog) (hs:p.sane) (hf:zak p=true) (g:Goal) (ha:zGM p g=true) {k:Int} {c:Config} (hc:IsK p k c):
 Den Γ G 446 [(zP p),(.agg [.t (ints (c).mem),.t (ints (c).at_),.t (.sl ((c).buf.map (fun b=>[.sl (b.map Entry.enc)])))]),.agg [vi g.thread,vi g.point,.t (ti g.expr.op),.t (ti g.expr.w),.t (ti g.expr.n),.t (.sl (g.expr.kids.map Expr.enc))]]=some (vb (zGi c g)):=by
 obtain⟨⟨_,_,_,l4⟩,_⟩:=zal (zam hf).1;exact zHn p hs hf g ha c hc.b.lm hc.b.la hc.b.lb (by omega)
set_option maxHeartbeats 4000000 in
theorem zG1 (SP:zH7) (p:Prog) (hs:p.sane) (m:Int) (hm:0<=m/\m<256) (g:Goal) (run:List Choice) (Bb:run.length<2^48):
 Den Γ G 441 [(zP p),.t (.int .u8 m),.agg g.cells,.t (.sl (run.map Choice.enc))]=some (vb true):=by
 have h1:=zG3;have h2:=zGX p hs;have h3:=zdX g.expr 400 (by omega);have SD:(run.map Choice.enc).length=run.length:=by simp
 have h4:=zhk p hs;unfold Goal.cells
 (refine zag Γ441 rfl ?_;dsimp only[zIP])
 cases F3:zH8 p
 ·rw[F3]at h2;simp -dsimp only[go_sem,seval,h1,h2]
  done
 rw[F3]at h2
 by_cases AP:(g.expr.size:Int)<=400
 rotate_left
 ·rw[decide_eq_false AP]at h3;simp -dsimp only[go_sem,seval,h1,h2,h3]
  done
 rw[decide_eq_true AP]at h3
 by_cases Im:(run.length:Int)>120
 ·simp -dsimp only[go_sem,seval,h1,h2,h3,SD,Im]
  done
 have h0:(zbM p).1=0:=by
  rw[zH8]at F3;simp only[zF,decide_eq_true_eq]at F3;exact F3.2
 have hf:zak p=true:=by simpa[zak]using h0
 have EI:(IntKind.i64.wrap m).tmod 3=m % 3:=by rw[zaH (by omega),Int.tmod_eq_emod_of_nonneg hm.1]
 have hk:0<=m % 3/\m % 3<=2:=by omega
 generalize m % 3=k at EI hk
 obtain⟨⟨_,_,_,l4⟩,_⟩:=zal (zam hf).1;simp -dsimp only[go_sem,seval,h1,h2,h3,SD,Im,h4,h0,EI];refine zas (zHh p hs hf k hk 600 (by decide) (by decide) _ _) ?_;rintro r h' n' SQ;cases Dh:zGM p g
 ·have BJ:Den Γ G 444 [(zP p),vi k,.agg g.cells,vi 600]=_:=zHM p hs hf k hk 600 (by decide) (by decide) g Dh;unfold Goal.cells at BJ;rcases SQ with⟨l,vL,hb,rfl,hO⟩ | ⟨hb,rfl⟩
  ·have hv:=hO.valOf;simp -dsimp only[go_sem,seval,EI,BJ,hv]
   done
  ·simp -dsimp only[go_sem,seval,EI,BJ]
   done
 have Am:=zHz p hs hf k hk run (by omega);have D3:=zHd p hs hf k hk 600 (by decide) (by decide) g Dh;rcases SQ with⟨l,vL,hb,rfl,hO⟩ | ⟨hb,rfl⟩
 ·have hv:=hO.valOf;rcases D3 with⟨l',c1,c2,c3⟩ | ⟨l0,i,c1,c3⟩ | ⟨c1,c3⟩
  ·rw[hb]at c1;cases c1;have BJ:Den Γ G 444 [(zP p),vi k,.agg g.cells,vi 600]=_:=c3;unfold Goal.cells at BJ;have r1:=hO.rowsS;have FZ:=(zoG hf (by decide) hb).2
   have HG:(zGm p k (zcm p) run).1.length<=run.length:=by
    rcases Nat.eq_zero_or_pos (zGm p k (zcm p) run).1.length with q | q
    ·omega
    ·exact(zGr hf run _ (zfq hf k) (zGm p k (zcm p) run).1.length _ (by rw[zI (by simp)])).1
   simp -dsimp only[go_sem,seval,EI,BJ,hv,Am,r1];rw[show([V.t (ints (zcm p).mem),V.t (ints (zcm p).at_),V.t (T.sl (List.map (fun b=>[T.sl (List.map Entry.enc b)]) (zcm p).buf))]::List.map (fun x=>List.map V.t x) (List.map Config.enc (zGm p k (zcm p) run).1))=zGj (zcm p::(zGm p k (zcm p) run).1)by simp[zGj,zue,Config.enc,Function.comp_def]];refine zpb (hO.le (by omega)) (Nat.le_refl _) (by simp only[zGo,List.length_map,List.length_cons];omega) (by decide) (zGE _) (zGE _) ?_;intro v hp hP _ _;rw[show zGj (l.map Vis.c)++zGj (zcm p::(zGm p k (zcm p) run).1)=zGj (l.map Vis.c++zcm p::(zGm p k (zcm p) run).1)by simp[zGj]]at hP
   have hM: ∀d∈l.map Vis.c++zcm p::(zGm p k (zcm p) run).1,IsK p k d/\zGi d g=false:=fun d hd=>by
    rcases List.mem_append.1 hd with hd | hd
    ·obtain⟨w,hw,rfl⟩:=List.mem_map.1 hd;exact⟨(zoG hf (by decide) hb).1.is w hw,c2 w hw⟩
    ·obtain⟨n,hn⟩:=List.getElem?_of_mem hd;exact zHI hf (by decide) hb c2 run n d hn
   have SL:(l.map Vis.c++zcm p::(zGm p k (zcm p) run).1).length=l.length+((zGm p k (zcm p) run).1.length+1):=by simp
   generalize l.map Vis.c++zcm p::(zGm p k (zcm p) run).1=M at hP hM SL
   rcases hP with⟨_,e0⟩ | ⟨kk,rfl,AT,AF⟩
   ·have:=congrArg List.length e0;rw[zGo]at this;simp only[List.length_nil]at this;omega
   generalize At h' hp=H2 at AF
   simp -dsimp only[go_sem,seval,AF,zGo];refine zaq 647769456716625224164815342141696 M.length (fun j f hh x=>(f 100).v=vi j/\hh=H2) rfl ⟨by simp -dsimp only[go_sem,seval],rfl⟩ ?_;rintro j f u hh x bb hj ⟨g100,rfl⟩;have C9:=zan j (by omega)
   by_cases AN:j<M.length
   ·have Ba:=eq_true AN;obtain⟨d,hd,JP⟩:=zai AN;obtain⟨O1,S7⟩:=hM d JP;have Ap:=zHV hd;have Km:=zGy p hs hf g Dh O1;rw[S7]at Km;have i0:(0:Int)<=(j:Int):=by omega
    have i1:(j:Int)<(M.length:Int):=by omega
    simp -dsimp only[go_sem,seval,g100,Ba,AF,Ap,Km,i0,i1,zGo];exact⟨AN,by simp -dsimp only[go_sem,seval,C9],rfl⟩
   ·have Ba:=eq_false AN;have:j=M.length:=by omega
    subst this;simp -dsimp only[go_sem,seval,g100,Ba]
    done
  ·have BJ:Den Γ G 444 [(zP p),vi k,.agg g.cells,vi 600]=_:=c3;unfold Goal.cells at BJ
   by_cases A4:(zGk l0 i).length>120
   ·rw[if_pos A4]at BJ;simp -dsimp only[go_sem,seval,EI,BJ,hv]
    done
   ·rw[if_neg A4]at BJ;have F:=zHL hf (by decide) hb c1
    generalize zGk l0 i=P at BJ F A4
    have ht:=zGO P F.wr (by omega);have EB:=zHk SP P F.wr (by omega);have BC:=zHz p hs hf k hk P (by omega);have AQ:=zGY P (by omega);have S2:(P.map Choice.enc).length=P.length:=by simp
    have Pu:((zcm p::(zGm p k (zcm p) P).1).map Config.enc).length=P.length+1:=by simp[F.len]
    have hL: ∀(j:Nat) (d:Config),(zcm p::(zGm p k (zcm p) P).1)[j]? =some d->((zcm p::(zGm p k (zcm p) P).1).map Config.enc)[j]? =some d.enc:=fun j d e=>by rw[zJ,e];rfl
    have Rn:=F.mt;have KG: ∀(j:Nat) (d:Config),(zcm p::(zGm p k (zcm p) run).1)[j]? =some d->((zcm p::(zGm p k (zcm p) run).1).map Config.enc)[j]? =some d.enc:=fun j d e=>by rw[zJ,e];rfl
    have SI:IntKind.i64.wrap ((P.length:Int)+1)=((P.length+1:Nat):Int):=zaH (by omega);have Rl:=fun j d=>F.gv run j d
    have HG:(zGm p k (zcm p) run).1.length<=run.length:=by
     rcases Nat.eq_zero_or_pos (zGm p k (zcm p) run).1.length with q | q
     ·omega
     ·exact(zGr hf run _ (zfq hf k) (zGm p k (zcm p) run).1.length _ (by rw[zI (by simp)])).1
    have S9:(zcm p::(zGm p k (zcm p) run).1).length<=130:=by rw[List.length_cons];omega
    have O7:((zcm p::(zGm p k (zcm p) run).1).map Config.enc).length=(zcm p::(zGm p k (zcm p) run).1).length:=List.length_map _;rw[F.ok,if_pos rfl,if_pos rfl]at BC;have S8:(zcm p::(zGm p k (zcm p) P).1).length=P.length+1:=by simp[F.len]
    generalize zcm p::(zGm p k (zcm p) P).1=L at BC hL Pu Rn S8
    generalize zcm p::(zGm p k (zcm p) run).1=L2 at Am KG Rl O7 S9
    simp -dsimp only[go_sem,seval,EI,BJ,hv,Am,ht,EB,BC,AQ,S2,Pu,SI,bne_self_eq_false];refine zaq 766224386406747134732482254617831131281055069392339200 (P.length+1) (fun j f hh x=>(f 164).v=vi j) rfl (by simp -dsimp only[go_sem,seval]) ?_;rintro j f u hh x bb hj g164;have C9:=zan j (by omega)
    by_cases AN:j<P.length+1
    ·have Ba:((j:Int)<((P.length+1:Nat):Int))=True:=eq_true (by omega);have Sz:=eq_true AN;obtain⟨d,hd,_⟩:=zai (show j<L.length by omega);obtain⟨O1,JP⟩:=Rn j d hd;have Ap:=hL j d hd;unfold Config.enc at Ap;have Km:=zGy p hs hf g Dh O1;rw[JP]at Km;have i0:(0:Int)<=(j:Int):=by omega
     have b1:((true==true) != true)=false:=rfl;have b2:((false==false) != true)=false:=rfl
     by_cases SE:j=P.length
     ·have JC:((j:Int)=(P.length:Int))=True:=eq_true (by omega);rw[decide_eq_true SE]at Km;simp -dsimp only[go_sem,seval,g164,Ba,Sz,hd,Option.map_some,Config.enc,Km,i0,Pu,S2,JC,b1,b2];exact⟨AN,by simp -dsimp only[go_sem,seval,C9]⟩
     ·have JC:((j:Int)=(P.length:Int))=False:=eq_false (by omega);rw[decide_eq_false SE]at Km;simp -dsimp only[go_sem,seval,g164,Ba,Sz,hd,Option.map_some,Config.enc,Km,i0,Pu,S2,JC,b1,b2];exact⟨AN,by simp -dsimp only[go_sem,seval,C9]⟩
    ·have Ba:=eq_false AN;have:j=P.length+1:=by omega
     subst this;simp -dsimp only[go_sem,seval,g164,Ba,O7];refine zaq 200864190541292052665028544848591024696908136744617622110464 L2.length (fun j f hh x=>(f 181).v=vi j) rfl (by simp -dsimp only[go_sem,seval]) ?_;rintro j f u hh x bb hj g181;have C9:=zan j (by omega)
     by_cases AN:j<L2.length
     ·have Ba:=eq_true AN;obtain⟨d,hd,_⟩:=zai AN;obtain⟨O1,JP⟩:=Rl j d hd;have Km:=zGy p hs hf g Dh O1;have i0:(0:Int)<=(j:Int):=by omega
      by_cases S5:j<P.length
      ·have LX:=eq_true S5;rw[JP S5]at Km;simp -dsimp only[go_sem,seval,g181,Ba,hd,Option.map_some,Config.enc,Km,i0,O7,S2,LX];exact⟨AN,by simp -dsimp only[go_sem,seval,C9]⟩
      ·have LX:=eq_false S5;simp -dsimp only[go_sem,seval,g181,Ba,hd,Option.map_some,Config.enc,i0,O7,S2,LX];exact⟨AN,by simp -dsimp only[go_sem,seval,C9]⟩
     ·have Ba:=eq_false AN;have:j=L2.length:=by omega
      subst this;simp -dsimp only[go_sem,seval,g181,Ba]
  ·rw[hb]at c1;cases c1
 ·rcases D3 with⟨l',c1,c2,c3⟩ | ⟨l0,i,c1,c3⟩ | ⟨c1,c3⟩
  ·rw[hb]at c1;cases c1
  ·have BJ:Den Γ G 444 [(zP p),vi k,.agg g.cells,vi 600]=_:=c3;unfold Goal.cells at BJ
   by_cases A4:(zGk l0 i).length>120
   ·rw[if_pos A4]at BJ;simp -dsimp only[go_sem,seval,EI,BJ]
    done
   ·rw[if_neg A4]at BJ;simp -dsimp only[go_sem,seval,EI,BJ]
    done
  ·have BJ:Den Γ G 444 [(zP p),vi k,.agg g.cells,vi 600]=_:=c3;unfold Goal.cells at BJ;simp -dsimp only[go_sem,seval,EI,BJ]
   done
end Rg
end
section
namespace Rg
open Go
theorem zJI:zH7:=by
 intro l hl;refine zs3 Γ459 rfl rfl ?_;show(if _ then _ else _)=_;rw[if_pos (by rw[zxe];omega)];simp only[zxf];rfl
theorem zGU (p:Prog) (hs:p.sane) (m:Int) (hm:0<=m/\m<256) (g:Goal) (run:List Choice) (Bb:run.length<2^48):
 Den Γ G 441 [(zP p),.t (.int .u8 m),.agg g.cells,.t (.sl (run.map Choice.enc))]=some (vb true):=zG1 zJI p hs m hm g run Bb
end Rg
end

/- Part of the proof of laws of relyguardtop. No condition. -/
import Derived.Test.YtoidcnbdndioaaaGreatDoorKartAR
import Derived.Test.YtoidcnbdndioaaaGreatDoorKartAL
set_option linter.unusedSimpArgs false
set_option linter.unusedVariables false
section
set_option maxRecDepth 100000
namespace Rg
open Go
def cX:Cell:=⟨bs [120],2,0,-1,false,0⟩
def xE:Expr:=.mk 2 2 0 []
def geE:Expr:=.mk 13 1 0 [.mk 1 2 2 [],xE]
def leE:Expr:=.mk 13 1 0 [xE,.mk 1 2 2 []]
def zKD:Expr:=.mk 13 1 0 [.mk 3 2 0 [],xE]
def wtP (e:Expr):Prog:=
 ⟨[cX],[⟨bs [77],bs [65],zKD,zKD,[0]⟩],[],
  [⟨bs [97],1,[e],[0],[],[],false⟩,⟨bs [98],2,[.mk 1 1 1 [],.mk 1 1 1 []],[0,0],[⟨4,0,1,.mk 12 1 0 [xE,.mk 1 2 3 []],[⟨0,.mk 8 2 0 [xE,.mk 1 2 1 []]⟩],false,0,0⟩],[],false⟩]⟩
abbrev wtV (e:Expr):V:=(zP (wtP e))
theorem zK9 (e:Expr) (s:List Nat) (hs:(wtP e).sane) (hv:(zbM (wtP e)).1=0) (h1:zGv (wtP e) e zKD=[0]) (h2:wkL (zIR (wtP e) [0] 0 zKD) 9 (inL (pC [cX]) [0] zGi e)=some s):
 Den Γ G 504 [wtV e,vi 0,vi 0,vi 9]=some (.tup [zGj [0] [2] (nI s),vi 0]):=by
 obtain⟨a,r,H,ha,m,c,hm,m0,hc,hr⟩:=zOL (p:=wtP e) hv hs (t:=0) (n:=0) rfl (show((0:Nat):Int)<1 by decide);cases ha;cases hm;cases hc;subst hr;have hd:Den Γ G 504 [(zP (wtP e)),vi ((0:Nat):Int),vi ((0:Nat):Int),vi ((9:Nat):Int)]=_:=zIg H.pt 9 (by omega)
 have e1:wkR (wtP e) ((0:Nat):Int) e zKD 9= .tup [zGj [0] [2] (nI s),vi 0]:=by
  unfold wkR;rw[if_neg (by decide),h1,if_neg (show ¬zcD (pC (wtP e).cells) [0]>6 from(by decide+kernel: ¬zcD (pC [cX]) [0]>6))];have EY:wkL (zIR (wtP e) [0] ((0:Nat):Int) zKD) 9 (inL (pC (wtP e).cells) [0] zGi e)=some s:=h2;rw[EY];rfl
 exact hd.trans (congrArg some e1)
theorem zNp:(wtP geE).sane:=⟨by decide,by decide,by decide,by decide,by decide+kernel,by decide+kernel,by decide+kernel,by decide+kernel,by decide+kernel⟩
theorem zNo:(wtP leE).sane:=⟨by decide,by decide,by decide,by decide,by decide+kernel,by decide+kernel,by decide+kernel,by decide+kernel,by decide+kernel⟩
theorem zLX (n w:Int):Den Γ G 238 [vi n,vi w]=some (.agg [.t (ti (Expr.mk 3 w n []).op),.t (ti (Expr.mk 3 w n []).w),.t (ti (Expr.mk 3 w n []).n),.t (.sl ((Expr.mk 3 w n []).kids.map (Expr.enc)))]):=by
 (refine zag Γ238 rfl ?_;dsimp only[zQU])
 simp -dsimp -implicitDefEqProofs only[go_sem,seval]
theorem twL (op w o1 w1 n1 o2 w2 n2:Int):Den Γ G 63 [vi op,vi w,.agg [vi o1,vi w1,vi n1,.t (.sl [])],.agg [vi o2,vi w2,vi n2,.t (.sl [])]]=some (.agg [vi op,vi w,vi 0,.t (.sl [[ti o1,ti w1,ti n1,.sl []],[ti o2,ti w2,ti n2,.sl []]])]):=znz op w (.mk o1 w1 n1 []) (.mk o2 w2 n2 [])
theorem zSL (e:Expr):Den Γ G 521 [(.agg [.t (ti (e).op),.t (ti (e).w),.t (ti (e).n),.t (.sl ((e).kids.map (Expr.enc)))])]=some (wtV e):=by
 have a1:=zvn 0 2;have a2:=zLX 0 2;have a4:=zfI 3 2;have a6:=zfI 1 2;have a8:=zut
 (refine zag Γ521 rfl ?_;dsimp only[zRd])
 simp -dsimp -implicitDefEqProofs only[go_sem,seval,a1,a2,twL,a4,a6,a8];refine⟨rfl,rfl,rfl,?_⟩;simp only[wtP,List.map_cons,List.map_nil,Thread.enc,Expr.enc_eq e];rfl
theorem zKb:Den Γ G 503 []=some (vb true):=by
 have k1:=zK9 geE [2,3] zNp (by decide+kernel) (by decide+kernel) (by decide+kernel);have k2:=zK9 leE [] zNo (by decide+kernel) (by decide+kernel) (by decide+kernel);have w1:Den Γ G 521 [.agg [vi 13,vi 1,vi 0,.t (.sl [[ti 1,ti 2,ti 2,.sl []],[ti 2,ti 2,ti 0,.sl []]])]]=some (wtV geE):=zSL geE;have w2:Den Γ G 521 [.agg [vi 13,vi 1,vi 0,.t (.sl [[ti 2,ti 2,ti 0,.sl []],[ti 1,ti 2,ti 2,.sl []]])]]=some (wtV leE):=zSL leE;have a1:=zvn 0 2;have a4:=zfI 2 2;have a5:Den Γ G 522 [.t (.sl [[ti 2],[ti 3]]),.t (.sl [[ti 2],[ti 3]])]=some (vb true):=zHZ [2,3] (by decide);have k1':Den Γ G 504 [wtV geE,vi 0,vi 0,vi 9]=some (.tup [.agg [.t (.sl [[ti 0]]),.t (.sl [[ti 2]]),.t (.sl [[ti 2],[ti 3]])],vi 0]):=k1;have k2':Den Γ G 504 [wtV leE,vi 0,vi 0,vi 9]=some (.tup [.agg [.t (.sl [[ti 0]]),.t (.sl [[ti 2]]),.t (.sl [])],vi 0]):=k2
 generalize wtP geE=p1 at *
 generalize wtP leE=p2 at *
 (refine zag Γ503 rfl ?_;dsimp only[zRe])
 simp -dsimp -implicitDefEqProofs only[go_sem,seval,a1,a4,twL,w1,w2,k1',k2',a5]
end Rg
end
section
set_option maxRecDepth 100000
namespace Rg
open Go
def lkL (p:Prog) (i:Nat):List Expr:=(p.locks.take i).map fun k=>zLo (fcE k.cell) k.inv
theorem zOR (p:Prog) {i:Nat} (h:i<=p.locks.length):(lkL p i).length=i:=by rw[lkL,List.length_map,List.length_take];omega
theorem zMM (p:Prog) (hl:p.locks.length<2^20):Den Γ G 506 [(zP p)]=some (eV (lkE p)):=by
 (refine zag Γ506 rfl ?_;dsimp only[zQO])
 simp -dsimp -implicitDefEqProofs only[go_sem,seval];refine zaq 17179869112 p.locks.length (fun i f h x=>(f 4).v=vi i/\zaF h x (f 3).v 4 (rwE (lkL p i))) rfl ⟨by simp -dsimp -implicitDefEqProofs only[go_sem,seval],.inr ⟨2,by simp -dsimp -implicitDefEqProofs only[go_sem,seval];rfl,by(try simp -dsimp -implicitDefEqProofs only[go_sem,seval]);(try omega),by(try simp -dsimp -implicitDefEqProofs only[go_sem,seval]);(try rfl)⟩⟩ ?_;rintro i f u h x bb hi ⟨g4,hO⟩;have hw:=zan i (by omega);have FZ:=zOR p hi
 by_cases AV:i<p.locks.length
 ·have DB:=eq_true AV;obtain⟨k,hk,It⟩:=zai AV;have a1:=zvn k.cell 1;have a2:Den Γ G 525 [.agg [vi 4,vi 1,vi 0,.t (.sl [[ti 2,ti 1,ti k.cell,.sl []]])],(.agg [.t (ti (k.inv).op),.t (ti (k.inv).w),.t (ti (k.inv).n),.t (.sl ((k.inv).kids.map (Expr.enc)))])]=some (eV (zLo (fcE k.cell) k.inv)):=zKR (fcE k.cell) k.inv;unfold eV at a2;have y1:=hO.valOf;have v1:=hO.r1;have v2:=hO.r2;have v3:=hO.r3;have v4:=hO.r4;have v5:=hO.r5;simp -dsimp -implicitDefEqProofs only[go_sem,seval,g4,DB,hk,Lock.enc,Expr.enc_eq,a1,a2,y1,v1,v2,v3,v4,v5];refine zav ((hO.le (show x<=x+5+11+9 by omega)).upd (Nat.le_refl _) _) (by omega) (by rw[zGx];omega) (by decide) rfl (zJk _) ?_;intro v hp hP _ _;have z1:=hP.valOf;have Uo:lkL p (i+1)=lkL p i++[zLo (fcE k.cell) k.inv]:=by rw[lkL,zaf hk,List.map_append];rfl
  simp -dsimp -implicitDefEqProofs only[go_sem,seval,z1,g4];refine⟨AV,by simp -dsimp -implicitDefEqProofs only[go_sem,seval,hw],?_⟩;simp -dsimp -implicitDefEqProofs only[go_sem,seval];rw[Uo,zJj];exact hP.le (by(try simp -dsimp -implicitDefEqProofs only[go_sem,seval]);(try omega))
 ·have DB:=eq_false AV;have:i=p.locks.length:=by omega
  subst this;have hd:=zK4 (lkL p p.locks.length) (by omega);have AB:lkL p p.locks.length=p.locks.map fun k=>zLo (fcE k.cell) k.inv:=by rw[lkL,List.take_length]
  have he:zHc (lkL p p.locks.length)=lkE p:=by rw[AB];rfl
  have yt:toT h 1000 (f 3).v=some (.sl ((lkL p p.locks.length).map Expr.enc)):=zcc (es:=(lkL p p.locks.length).map Expr.enc) hO (fun e he t ht=>by obtain⟨q,_,rfl⟩:=List.mem_map.1 he;exact zJ1 q t ht);rw[he]at hd;unfold eV;rcases hO with⟨h3,e0⟩ | ⟨k,h3,hk,hh⟩
  ·rw[h3]at yt;have t1:toT1 h (.t .nils)=some (.t (.sl ((lkL p p.locks.length).map Expr.enc))):=by simp only[toT1,yt,Option.map_some]
   simp -dsimp -implicitDefEqProofs only[go_sem,seval,g4,DB,h3,↓t1,hd]
  ·rw[h3]at yt;have t1:toT1 h (.ms k 0 (rwE (lkL p p.locks.length)).length)=some (.t (.sl ((lkL p p.locks.length).map Expr.enc))):=by simp only[toT1,yt,Option.map_some]
   simp -dsimp -implicitDefEqProofs only[go_sem,seval,g4,DB,h3,↓t1,hd];refine zGs (fun _=>True) (fun _ _=>trivial) fun h5 _ hf=> ?_
   simp -dsimp -implicitDefEqProofs only[go_sem,seval]
end Rg
end
section
set_option maxRecDepth 100000
namespace Rg
open Go
theorem zJl (s:List Bool) (c:Nat):(zea s).set c [.t (.bool true)]=zea (s.set c true):=by simp[zea,List.map_set]
theorem zH9 (s:List Bool):(zea s).length=s.length:=by simp[zea]
def clE (es:List Expr) (s:List Bool):List Bool:=es.foldl mkE s
def clM (p:Prog) (es:List Expr):List Bool:=mkC (clE es (List.replicate p.cells.length false)) (p.locks.map Lock.cell)
theorem zJH: ∀(es:List Expr) (s:List Bool),(clE es s).length=s.length
 | [],s=>rfl
 | e::r,s=>by
   have:=zJH r (mkE s e);rw[zG5]at this;exact this
theorem zNf (p:Prog) (es:List Expr) (Ey: ∀e∈es,∀op,op=2\/op=3-> ∀c∈e.sup op,c<p.cells.length) (SN: ∀k∈p.locks,0<=k.cell/\k.cell<p.cells.length) (M2:es.length<2^20) (FZ:p.locks.length<2^20) (By:p.cells.length<2^20):
 Den Γ G 505 [(zP p),.t (.sl (es.map Expr.enc))]=some (.t (ints (zbJ (clM p es) p.cells.length))):=by
 have N4:(p.cells.map Cell.enc).length=p.cells.length:=by simp
 have T3:(es.map Expr.enc).length=es.length:=by simp
 have c32:((p.cells.length:Int)<=4294967296)=True:=eq_true (by omega);have cle:((p.cells.length:Int)<=(p.cells.length:Int))=True:=eq_true (Int.le_refl _)
 (refine zag Γ505 rfl ?_;dsimp only[zQP])
 simp -dsimp -implicitDefEqProofs only[go_sem,seval,N4,c32,cle];have m138:=fun e=>zmh e
 refine zaq 72057594037667776 es.length (fun i f h x=>(f 6).v=vi i/\h 5=some (.rows 1 (zea (clE (es.take i) (List.replicate p.cells.length false))) false)/\6<=x) rfl ⟨by simp -dsimp -implicitDefEqProofs only[go_sem,seval],by simp only[zaC,zaA];rw[zaa,if_pos rfl];simp[clE,zea],by(try simp -dsimp -implicitDefEqProofs only[go_sem,seval]);(try omega)⟩ ?_;rintro i f u h x bb hi ⟨g6,h5,hx⟩;have hw:=zan i (by omega)
 by_cases AV:i<es.length
 ·have DB:=eq_true AV;obtain⟨e,he,Cn⟩:=zai AV;have a1:=zmh e;have l3:=zfp 3 e;have l2:=zfp 2 e;have S3:=zJH (es.take i) (List.replicate p.cells.length false);rw[List.length_replicate]at S3;have SL:clE (es.take (i+1)) (List.replicate p.cells.length false)=mkE (clE (es.take i) (List.replicate p.cells.length false)) e:=by rw[zaf he,clE,List.foldl_append];rfl
  generalize clE (es.take i) (List.replicate p.cells.length false)=S at *
  simp -dsimp -implicitDefEqProofs only[go_sem,seval,g6,DB,T3,he,Expr.enc_eq,a1];refine zaq 17587891077632 (e.sup 3).length (fun j f h x=>(f 9).v=vi j/\h 5=some (.rows 1 (zea (mkC S ((e.sup 3).take j))) false)/\6<=x) rfl ⟨by simp -dsimp -implicitDefEqProofs only[go_sem,seval],h5,by(try simp -dsimp -implicitDefEqProofs only[go_sem,seval]);(try omega)⟩ ?_;rintro j f1 u1 h1 x1 bb1 hj ⟨g9,Cy,KA⟩;have Cj:=zan j (by omega)
  by_cases AN:j<(e.sup 3).length
  ·have Ba:=eq_true AN;obtain⟨c,hc,BI⟩:=zai AN;have Dr:=Ey e Cn 3 (.inr rfl) c BI;have CM:=(zHB 3 e c BI).1;have BA:(zea (mkC S ((e.sup 3).take j))).length=p.cells.length:=by rw[zH9,zGk];exact S3
   have Ez:(c.toNat<p.cells.length)=True:=eq_true (by omega);obtain⟨b,hb,_⟩:=zai (show c.toNat<(mkC S ((e.sup 3).take j)).length by rw[zGk];omega);have B5:(zea (mkC S ((e.sup 3).take j)))[c.toNat]? =some [vb b]:=by simp[zea,hb]
   simp -dsimp -implicitDefEqProofs only[go_sem,seval,g9,Ba,hc,Cy,CM,Dr,BA,Ez,B5,zJl];refine⟨AN,by simp -dsimp -implicitDefEqProofs only[go_sem,seval,Cj],?_,by(try simp -dsimp -implicitDefEqProofs only[go_sem,seval]);(try omega)⟩;simp only[zaC,zaA];rw[zaa,if_pos rfl,zaf hc,zIb]
  have Ba:=eq_false AN;have:j=(e.sup 3).length:=by omega
  subst this;rw[List.take_length]at Cy;simp -dsimp -implicitDefEqProofs only[go_sem,seval,g9,Ba];refine zaq 72040001851884544 (e.sup 2).length (fun j f h x=>(f 10).v=vi j/\h 5=some (.rows 1 (zea (mkC (mkC S (e.sup 3)) ((e.sup 2).take j))) false)/\6<=x) rfl ⟨by simp -dsimp -implicitDefEqProofs only[go_sem,seval],Cy,by(try simp -dsimp -implicitDefEqProofs only[go_sem,seval]);(try omega)⟩ ?_;rintro j f2 u2 h2 x2 bb2 H1 ⟨g10,SA,ML⟩;have BO:=zan j (by omega)
  by_cases AN:j<(e.sup 2).length
  ·have Ba:=eq_true AN;obtain⟨c,hc,BI⟩:=zai AN;have Dr:=Ey e Cn 2 (.inl rfl) c BI;have CM:=(zHB 2 e c BI).1;have BA:(zea (mkC (mkC S (e.sup 3)) ((e.sup 2).take j))).length=p.cells.length:=by rw[zH9,zGk,zGk];exact S3
   have Ez:(c.toNat<p.cells.length)=True:=eq_true (by omega);obtain⟨b,hb,_⟩:=zai (show c.toNat<(mkC (mkC S (e.sup 3)) ((e.sup 2).take j)).length by rw[zGk,zGk];omega);have B5:(zea (mkC (mkC S (e.sup 3)) ((e.sup 2).take j)))[c.toNat]? =some [vb b]:=by simp[zea,hb]
   simp -dsimp -implicitDefEqProofs only[go_sem,seval,g10,Ba,hc,SA,CM,Dr,BA,Ez,B5,zJl];refine⟨AN,by simp -dsimp -implicitDefEqProofs only[go_sem,seval,BO],?_,by(try simp -dsimp -implicitDefEqProofs only[go_sem,seval]);(try omega)⟩;simp only[zaC,zaA];rw[zaa,if_pos rfl,zaf hc,zIb]
  have Ba:=eq_false AN;have:j=(e.sup 2).length:=by omega
  subst this;rw[List.take_length]at SA;simp -dsimp -implicitDefEqProofs only[go_sem,seval,g10,Ba,g6];exact⟨AV,by simp -dsimp -implicitDefEqProofs only[go_sem,seval,hw],by rw[SL,mkE];exact SA,by(try simp -dsimp -implicitDefEqProofs only[go_sem,seval]);(try omega)⟩
 have DB:=eq_false AV;have:i=es.length:=by omega
 subst this;rw[List.take_length]at h5;have S3:=zJH es (List.replicate p.cells.length false);rw[List.length_replicate]at S3;have BI:clM p es=mkC (clE es (List.replicate p.cells.length false)) (p.locks.map Lock.cell):=rfl;rw[BI]
 generalize clE es (List.replicate p.cells.length false)=S at *
 simp -dsimp -implicitDefEqProofs only[go_sem,seval,g6,DB,T3];refine zaq 2361111183840784680960 p.locks.length (fun j f h x=>(f 11).v=vi j/\h 5=some (.rows 1 (zea (mkC S ((p.locks.take j).map Lock.cell))) false)/\6<=x) rfl ⟨by simp -dsimp -implicitDefEqProofs only[go_sem,seval],h5,by(try simp -dsimp -implicitDefEqProofs only[go_sem,seval]);(try omega)⟩ ?_;rintro j f2 u2 h2 x2 bb2 H1 ⟨g11,SA,ML⟩;have BO:=zan j (by omega)
 by_cases AN:j<p.locks.length
 ·have Ba:=eq_true AN;obtain⟨k,hk,It⟩:=zai AN;obtain⟨CM,Dr⟩:=SN k It;have BA:(zea (mkC S ((p.locks.take j).map Lock.cell))).length=p.cells.length:=by rw[zH9,zGk];exact S3
  have Ez:(k.cell.toNat<p.cells.length)=True:=eq_true (by omega);obtain⟨b,hb,_⟩:=zai (show k.cell.toNat<(mkC S ((p.locks.take j).map Lock.cell)).length by rw[zGk];omega);have B5:(zea (mkC S ((p.locks.take j).map Lock.cell)))[k.cell.toNat]? =some [vb b]:=by simp only[zea,zJ (l:=mkC S ((p.locks.take j).map Lock.cell)),hb,Option.map_some]
  simp -dsimp -implicitDefEqProofs only[go_sem,seval,g11,Ba,hk,Lock.enc,Expr.enc_eq,SA,CM,Dr,BA,Ez,B5,zJl];refine⟨AN,by simp -dsimp -implicitDefEqProofs only[go_sem,seval,BO],?_,by(try simp -dsimp -implicitDefEqProofs only[go_sem,seval]);(try omega)⟩;simp only[zaC,zaA];rw[zaa,if_pos rfl,zaf hk,List.map_append,List.map_cons,List.map_nil,zIb]
 have Ba:=eq_false AN;have:j=p.locks.length:=by omega
 subst this;rw[List.take_length]at SA;have BA:=zGk (p.locks.map Lock.cell) S;rw[S3]at BA
 generalize mkC S (p.locks.map Lock.cell)=M at *
 simp -dsimp -implicitDefEqProofs only[go_sem,seval,g11,Ba];refine zaq 77366530088853397535993856 p.cells.length (fun i f h x=>(f 13).v=vi i/\h 5=some (.rows 1 (zea M) false)/\zaF h x (f 12).v 1 (zae (zbJ M i))/\zbg (f 12).v 5/\6<=x) rfl ⟨by simp -dsimp -implicitDefEqProofs only[go_sem,seval],?_,.inr ⟨x2+5+0,by simp -dsimp -implicitDefEqProofs only[go_sem,seval];rfl,by(try simp -dsimp -implicitDefEqProofs only[go_sem,seval]);(try omega),by simp only[zaC,zaA];rw[zaa,if_pos rfl];rfl⟩,by simp -dsimp -implicitDefEqProofs only[go_sem,seval];exact za3 (by omega) _ _,by(try simp -dsimp -implicitDefEqProofs only[go_sem,seval]);(try omega)⟩ ?_
 ·simp only[zaC,zaA];rw[zaa,if_neg (by omega)];exact SA
 rintro i f3 u3 h3 x3 bb3 C8 ⟨g13,Mh,hO,Bn,Ty⟩;have Gl:=zan i (by omega)
 have Va:(zbJ M i).length<=i:=by
  unfold zbJ;rw[List.length_map];exact Nat.le_trans (List.length_filter_le _ _) (by simp)
 have Bb:(zea M).length=p.cells.length:=by rw[zH9];exact BA
 by_cases A4:i<p.cells.length
 rotate_left
 ·have EI:((i:Int)<(p.cells.length:Int))=False:=eq_false (by omega);have:i=p.cells.length:=by omega
  subst this;have v1:=hO.valOf;have v6:=hO.reify (es:=(zbJ M p.cells.length).map fun n=>[ti n]) (zbP _);simp only[Rg.reify,toT1]at v6;have Su:(p.cells.length<p.cells.length)=False:=eq_false (by omega);have v5:=hO.resVal;simp only[Rg.resVal]at v5;simp -dsimp -implicitDefEqProofs only[go_sem,seval,g13,EI,Su,Mh,v1,v5];exact v6
 have EI:(i<p.cells.length)=True:=eq_true A4;have hx:M[i]? =some M[i]:=zI (by omega);have gx:M.getD i false=M[i]:=by simp[List.getD,hx]
 have B5:(zea M)[i]? =some [vb M[i]]:=by simp[zea,hx]
 cases hb:M[i]with
 | false=>
   have FY:zbJ M (i+1)=zbJ M i:=by rw[ze4,gx,hb];simp
   rw[hb]at B5;simp -dsimp -implicitDefEqProofs only[go_sem,seval,g13,EI,Mh,Bb,B5];refine⟨A4,by simp -dsimp -implicitDefEqProofs only[go_sem,seval,Gl],by simp -dsimp -implicitDefEqProofs only[go_sem,seval];exact Mh,?_,by simp -dsimp -implicitDefEqProofs only[go_sem,seval];exact Bn,by(try simp -dsimp -implicitDefEqProofs only[go_sem,seval]);(try omega)⟩;simp -dsimp -implicitDefEqProofs only[go_sem,seval,FY]
   exact hO.le (by(try simp -dsimp -implicitDefEqProofs only[go_sem,seval]);(try omega))
 | true=>
   have FY:zbJ M (i+1)=zbJ M i++[(i:Int)]:=by rw[ze4,gx,hb];rfl
   rw[hb]at B5;have v1:=hO.valOf;have v0:=hO.r1;have v2:=hO.r2;have v3:=hO.r3;have v4:=hO.r4;have v5:=hO.r5;simp -dsimp -implicitDefEqProofs only[go_sem,seval,g13,EI,Mh,Bb,B5,v1,v0,v2,v3,v4,v5];refine zav (hO.upd (by omega) _) (by omega) (by rw[zab];omega) (by decide) rfl (zaQ _) ?_;intro v hp hP Bp Aq;have y1:=hP.valOf;simp -dsimp -implicitDefEqProofs only[go_sem,seval,y1,g13];refine⟨A4,by simp -dsimp -implicitDefEqProofs only[go_sem,seval,Gl],?_,?_,by simp -dsimp -implicitDefEqProofs only[go_sem,seval];exact Bp 5 (by omega),by(try simp -dsimp -implicitDefEqProofs only[go_sem,seval]);(try omega)⟩
   ·simp only[zaC,zaA];rw[Aq 5 (by omega) Bn,zaa,if_neg (by omega)];exact Mh
   ·simp -dsimp -implicitDefEqProofs only[go_sem,seval];rw[FY,za4];exact hP.le (by(try simp -dsimp -implicitDefEqProofs only[go_sem,seval]);(try omega))
end Rg
end
section
namespace Rg
open Go
theorem zNe: ∀(es:List Expr) (s:List Bool) (i:Nat),i<s.length->((clE es s).getD i false=true<->s.getD i false=true\/ ∃e∈es,(∃c∈e.sup 3,c.toNat=i)\/ ∃c∈e.sup 2,c.toNat=i)
 | [],s,i,h=>by simp[clE]
 | e::r,s,i,h=>by
   have ih:=zNe r (mkE s e) i (by rw[zG5];exact h);have two:(∃q∈e::r,(∃c∈q.sup 3,c.toNat=i)\/ ∃c∈q.sup 2,c.toNat=i)<->((∃c∈e.sup 3,c.toNat=i)\/ ∃c∈e.sup 2,c.toNat=i)\/ ∃q∈r,(∃c∈q.sup 3,c.toNat=i)\/ ∃c∈q.sup 2,c.toNat=i:=by simp only[List.mem_cons,exists_eq_or_imp]
   show(clE r (mkE s e)).getD i false=true<->_;rw[ih,two,mkE,zGS _ _ _ (by rw[zGk];exact h),zGS _ _ _ h];simp only[or_assoc]
def zNm (p:Prog) (a r:Expr):List Expr:=[a,r]++p.locks.map Lock.inv
theorem zNK {p:Prog} {a r:Expr} {Q:Expr->Prop}:(∃e∈zNm p a r,Q e)<->Q a\/Q r\/ ∃k∈p.locks,Q k.inv:=by
 unfold zNm;simp only[List.cons_append,List.nil_append,List.mem_cons,exists_eq_or_imp,List.mem_map];refine or_congr Iff.rfl (or_congr Iff.rfl ⟨?_,?_⟩)
 ·rintro⟨e,⟨k,hk,rfl⟩,hq⟩;exact⟨k,hk,hq⟩
 ·rintro⟨k,hk,hq⟩;exact⟨_,⟨k,hk,rfl⟩,hq⟩
theorem zPM {p:Prog} {a r:Expr} (O:LOk p (zGv p a r) r) (SN: ∀k∈p.locks,0<=k.cell/\k.cell<32):zbJ (clM p (zNm p a r)) p.cells.length=zGv p a r:=by
 have Ac:(clE (zNm p a r) (List.replicate p.cells.length false)).length=p.cells.length:=by rw[zJH];simp
 have pw: ∀(l:List Bool) (i:Nat),(zbJ l i).Pairwise (· < ·):=fun l i=>by
  unfold zbJ;rw[List.pairwise_map];exact(List.pairwise_lt_range.filter _).imp fun h=>by omega
 have key: ∀i:Nat,(i:Int)∈zbJ (clM p (zNm p a r)) p.cells.length<->(i:Int)∈zGv p a r:=fun i=>by
  rw[zHw];have Aj:(i:Int)∈zGv p a r->i<p.cells.length:=fun h=>by have:=(O.lc _ h).2;omega
  by_cases hi:i<p.cells.length
  rotate_left
  ·exact⟨fun h=>absurd h.1 hi,fun h=>absurd (Aj h) hi⟩
  have ex: ∀(op:Int) (e:Expr),(∃c∈e.sup op,c.toNat=i)<->(i:Int)∈e.sup op:=fun op e=>by
   constructor
   ·rintro⟨c,h1,h2⟩;have:=zHB op e c h1;rwa[show(i:Int)=c by omega]
   ·intro h;exact⟨_,h,by simp⟩
  rw[clM,zGS _ _ _ (by rw[Ac];exact hi),zNe _ _ _ (by simpa using hi),zGF SN];simp only[ex];rw[zNK]
  have h0:((List.replicate p.cells.length false).getD i false=true)=False:=by
   rw[zK,List.getElem?_replicate,if_pos hi];simp
  have h1:(∃c∈p.locks.map Lock.cell,c.toNat=i)<-> ∃k∈p.locks,(i:Int)=k.cell:=by
   constructor
   ·rintro⟨c,hc,hi⟩;obtain⟨k,hk,rfl⟩:=List.mem_map.1 hc;have:=SN k hk;exact⟨k,hk,by omega⟩
   ·rintro⟨k,hk,he⟩;exact⟨_,List.mem_map.2 ⟨k,hk,rfl⟩,by rw[<- he];simp⟩
  rw[h0,h1,false_or];constructor
  ·rintro⟨_,((h | h) | (h | h) | ⟨k,hk,h | h⟩) | ⟨k,hk,h⟩⟩
   ·exact .inr (.inr (.inl h))
   ·exact .inr (.inl h)
   ·exact .inr (.inr (.inr (.inr h)))
   ·exact .inr (.inr (.inr (.inl h)))
   ·exact .inl ⟨k,hk,.inr (.inr h)⟩
   ·exact .inl ⟨k,hk,.inr (.inl h)⟩
   ·exact .inl ⟨k,hk,.inl h⟩
  ·rintro(⟨k,hk,h | h | h⟩ | h | h | h | h)
   ·exact⟨hi,.inr ⟨k,hk,h⟩⟩
   ·exact⟨hi,.inl (.inr (.inr ⟨k,hk,.inr h⟩))⟩
   ·exact⟨hi,.inl (.inr (.inr ⟨k,hk,.inl h⟩))⟩
   ·exact⟨hi,.inl (.inl (.inr h))⟩
   ·exact⟨hi,.inl (.inl (.inl h))⟩
   ·exact⟨hi,.inl (.inr (.inl (.inr h)))⟩
   ·exact⟨hi,.inl (.inr (.inl (.inl h)))⟩
 refine List.Perm.eq_of_pairwise (le:=(· < ·)) (fun a b _ _ h1 h2=>by omega) (pw _ _) (zKK _ _ _) ((List.perm_ext_iff_of_nodup ((pw _ _).imp fun h=>by omega) ((zKK _ _ _).imp fun h=>by omega)).2 fun c=> ?_);constructor
 ·intro h;have h2:=h;unfold zbJ at h2;obtain⟨i,_,rfl⟩:=List.mem_map.1 h2;exact(key i).1 h
 ·intro h;have:=(key c.toNat).2;rw[show((c.toNat:Nat):Int)=c by have:=O.lc c h;omega]at this;exact this h
theorem SmallP.mono {p:Prog} {L M:Int} (h:p.SmallP L) (Tt:L<=M):p.SmallP M:=
 ⟨h.cells,h.modules,h.locks,h.threads,fun m hm=>⟨(h.mods m hm).1,Int.le_trans (h.mods m hm).2.1 Tt,Int.le_trans (h.mods m hm).2.2 Tt⟩,fun l hl=>Int.le_trans (h.lcks l hl) Tt,
  fun t ht=>let q:=h.thr t ht;⟨q.1,q.2.1,q.2.2.1,q.2.2.2.1,fun e he=>Int.le_trans (q.2.2.2.2 e he) Tt⟩,
  fun t ht s hs=>let q:=h.steps t ht s hs;⟨q.1,Int.le_trans q.2.1 Tt,fun a ha=>Int.le_trans (q.2.2 a ha) Tt⟩,fun t ht l hl=>⟨(h.loops t ht l hl).1,Int.le_trans (h.loops t ht l hl).2 Tt⟩⟩
def stP (p:Prog) (t n:Nat) (x:Thread) (e:Expr):Prog:=zGl p t { x with asserts:=x.asserts.set n e }
theorem zPm {p:Prog} (F3:p.SmallP 30) (hl:p.lite7) (G2:p.ok) {t n:Nat} {x:Thread} (hx:p.threads[t]? =some x) {e:Expr} (hf:e.formed=true) (ht:zaR p e false t=true):(stP p t n x e).ok/\(stP p t n x e).sane:=by
 have hm:=zL hx;have h1:=(zkI.1 (zpi.1 G2).lim).2 x hm;have h2:=zgN.1 ((zpi.1 G2).threads t x hx);have hs:=SmallP.mono F3 (show(30:Int)<=600 by decide);have h3:=hs.thr x hm;have AS:(e.size:Int)<=600:=by simp only[Expr.formed,zF,decide_eq_true_eq]at hf;omega
 constructor
 ·refine zMn G2 hx rfl rfl h1 ?_;refine zgN.2 ⟨h2.1,h2.2.1,by simp only[List.length_set];exact h2.2.2.1,h2.2.2.2.1,?_,h2.2.2.2.2.2⟩;rw[zN];intro y hy;rcases List.mem_or_eq_of_mem_set hy with h | rfl
  ·exact zN.1 h2.2.2.2.2.1 y h
  ·exact ht
 ·refine Prog.SmallP.sane (zIj hl hx rfl) (zH3 hs hx ⟨by simp only[List.length_set];exact h3.1,h3.2.1,h3.2.2.1,h3.2.2.2.1,fun y hy=> ?_⟩ (hs.steps x hm) (hs.loops x hm));rcases List.mem_or_eq_of_mem_set hy with h | rfl
  ·exact h3.2.2.2.2 y h
  ·exact AS
theorem zMi {p:Prog} {t n:Nat} {x:Thread} {e:Expr} (hx:p.threads[t]? =some x):(stP p t n x e).threads[t]? =some { x with asserts:=x.asserts.set n e }:=by
 unfold stP;rw[zGQ hx,if_pos rfl]
theorem zJh (p:Prog) (hs:p.sane) (G2:(zbM p).1≠0) (t n:Int):Den Γ G 515 [(zP p),vi t,vi n]=some (.tup [vb false,vi 1]):=by
 have a1:=zeV p hs;have c1:=eq_false G2
 have a2:Den Γ G 560 [(zP p),vi t,vi n]=some (vb false):=by
  (refine zag Γ560 rfl ?_;dsimp only[zPG])
  simp -dsimp -implicitDefEqProofs only[go_sem,seval,a1,c1]
 have a3:Den Γ G 523 [(zP p),vi t,vi n]=some (.tup [zGj [] [] [],.t .nilf,vi 1]):=by
  unfold zGj
  (refine zag Γ523 rfl ?_;dsimp only[zPJ])
  simp -dsimp -implicitDefEqProofs only[go_sem,seval,a2];rfl
 unfold zGj at a3
 (refine zag Γ515 rfl ?_;dsimp only[zPK])
 simp -dsimp -implicitDefEqProofs only[go_sem,seval,a3]
theorem zM9 {p:Prog} {t:Nat} {l:List Int} {T F:List Int->Prop} {e:Expr} (hf:e.formed=true) (D:Des (pC p.cells) l 40 T F e) (hs: ∀c∈l,zjW p t c=true):zaR p e false t=true/\(∀c∈e.sup 2,c∈l)/\e.sup 3=[]:=by
 have F8: ∀x∈e.lv,zb3 p.cells false x=true/\(x.op=2->x.n∈l)/\x.op≠3:=fun x hx=>by
  have:=zHW D.ok hx;simp only[zF,Bool.or_eq_true,Bool.not_eq_true',decide_eq_false_iff_not,List.contains_iff_mem]at this;exact⟨this.1.1,fun h2=>this.1.2.resolve_left fun h=>h h2,this.2⟩
 have hv:e.valid p.cells false=true:=by
  rw[Expr.valid,hf,Bool.true_and,zvP (fun x=>zje p.cells false) 40 _ (zcp hf),zN];exact fun x hx=>(F8 x hx).1
 have h3:e.sup 3=[]:=by
  cases h:e.sup 3 with
  | nil=>rfl
  | cons c r=>
    obtain⟨_,_,x,hx,ho,_⟩:=zrn (e:=e) (op:=3) (c:=c) (by rw[h];simp);exact absurd ho (F8 x hx).2.2
 have h2: ∀c∈e.sup 2,c∈l:=fun c hc=>by
  obtain⟨h0,_,x,hx,ho,hn⟩:=zrn hc;have:=(F8 x hx).2.1 ho;have Tu:=zOS hf hx;rwa[show x.n=c by omega]at this
 refine⟨?_,h2,h3⟩;unfold zaR zbE;rw[hv,D.w,h3];simp only[List.all_nil,Bool.true_and,decide_true,zF,zN];exact fun c hc=>hs c (h2 c hc)
end Rg
end
section
set_option maxRecDepth 100000
namespace Rg
open Go
theorem zME (p:Prog) (hs:p.sane):Den Γ G 176 [(zP p)]=some (vb (decide ((zbM p).1=0))):=by
 (refine zag Γ176 rfl ?_;dsimp only[f176])
 have h1:=zhk p hs;simp -dsimp -implicitDefEqProofs only[go_sem,seval,h1]
theorem zRm {z:Int} {n:Nat} (hz:0<=z) (hn:0<n): ∃i:Nat,z.tmod (n:Int)=i/\i<n:=by
 refine⟨(z.tmod n).toNat,?_,?_⟩
 ·rw[Int.tmod_eq_emod_of_nonneg hz];have:=Int.emod_nonneg z (show(n:Int)≠0 by omega);omega
 ·rw[Int.tmod_eq_emod_of_nonneg hz];have:=Int.emod_lt_of_pos z (show(0:Int)<n by omega);have:=Int.emod_nonneg z (show(n:Int)≠0 by omega);omega
def zNJ (p:Prog) (A r:Expr) (i:Nat):List Expr:=[A,r]++(p.locks.take i).map Lock.inv
theorem zNH {p:Prog} {A r:Expr} {i:Nat} (hi:i<=p.locks.length):(zNJ p A r i).length=2+i:=by simp[zNJ];omega
theorem zMz {p:Prog} {A r:Expr} {i:Nat} {k:Lock} (hk:p.locks[i]? =some k):zNJ p A r (i+1)=zNJ p A r i++[k.inv]:=by rw[zNJ,zaf hk,List.map_append,<- zQ];rfl
theorem zNI {p:Prog} {A r:Expr}:zNJ p A r p.locks.length=zNm p A r:=by rw[zNJ,List.take_length];rfl
def zMf (p:Prog) (l:List Int) (t:Int) (r:Expr) (i:Nat):List Expr:=[zNn (lkE p),lkE p,r]++((l.take i).filter (zar p t)).map (eqE p)
theorem zNs {p:Prog} {l:List Int} {t:Int} {r:Expr} {i:Nat} (hi:i<=l.length):3<=(zMf p l t r i).length/\(zMf p l t r i).length<=3+i:=by
 have:=List.length_filter_le (zar p t) (l.take i);rw[List.length_take]at this;simp[zMf];omega
theorem zJP {p:Prog} {l:List Int} {t:Int} {r:Expr} {i:Nat} {c:Int} (hk:l[i]? =some c):zMf p l t r (i+1)=if zar p t c=true then zMf p l t r i++[eqE p c]else zMf p l t r i:=by
 unfold zMf;rw[zaf hk,List.filter_append,List.filter_cons,List.filter_nil];split
 ·rw[List.map_append,<- zQ];rfl
 ·rw[List.append_nil]
theorem zNt {p:Prog} {l:List Int} {t:Int} {r:Expr}:zMf p l t r l.length=zHV p l t r:=by rw[zMf,List.take_length];rfl
set_option maxHeartbeats 4000000 in
theorem zNS (p:Prog) (hl:p.lite7) (a b:Int) (ha:0<=a/\a<256) (hb:0<=b/\b<256):Den Γ G 501 [(zP p),.t (.int .u8 a),.t (.int .u8 b)]=some (vb true):=by
 have h0:=zKb;have h1:=zLP p 30 (by decide)
 (refine zag Γ501 rfl ?_;dsimp only[zQR])
 cases Ti:zGn 30 p
 ·rw[Ti]at h1;simp -dsimp -implicitDefEqProofs only[go_sem,seval,h0,h1]
 rw[Ti]at h1;have F3:=zJZ Ti;have hs:=F3.sane hl;have h2:=zME p hs
 by_cases G2:(zbM p).1=0
 rotate_left
 ·have:decide ((zbM p).1=0)=false:=decide_eq_false G2;rw[this]at h2;simp -dsimp -implicitDefEqProofs only[go_sem,seval,h0,h1,h2]
 have Uk:decide ((zbM p).1=0)=true:=decide_eq_true G2;rw[Uk]at h2
 by_cases hn:p.threads.length=0
 ·have c1:((p.threads.length:Int)=0)=True:=eq_true (by omega);simp -dsimp -implicitDefEqProofs only[go_sem,seval,h0,h1,h2,c1]
 have c1:((p.threads.length:Int)=0)=False:=eq_false (by omega);have PI:IntKind.i64.wrap a=a:=zaH (by omega);have MO:IntKind.i64.wrap b=b:=zaH (by omega);obtain⟨t,ht,Dd⟩:=zRm ha.1 (show 0<p.threads.length by omega);obtain⟨x,hx,C1⟩:=zai Dd;have UW:=(zgN.1 ((zpi.1 G2).threads t x hx)).2.2.1;have Nt:(x.points=0)=False:=eq_false (by omega);obtain⟨n,Jt,Hx⟩:=zRm hb.1 (show 0<x.points.toNat by omega);rw[show((x.points.toNat:Nat):Int)=x.points by omega]at Jt;obtain⟨A,r,QV,hA,m,c,hm,m0,hc,hr⟩:=zOL G2 hs hx (show(n:Int)<x.points by omega);have hw:Den Γ G 504 [(zP p),vi t,vi n,vi 70]=some (wkR p t A r 70):=zIg QV.pt 70 (by decide);unfold wkR zGj at hw
 by_cases r0:r.op=0
 ·rw[if_pos r0]at hw;simp -dsimp -implicitDefEqProofs only[go_sem,seval,h0,h1,h2,c1,PI,MO,ht,hx,Thread.enc,Nt,Jt,hw]
 rw[if_neg r0]at hw
 by_cases SS:zcD (pC p.cells) (zGv p A r)>6
 ·rw[if_pos SS]at hw;simp -dsimp -implicitDefEqProofs only[go_sem,seval,h0,h1,h2,c1,PI,MO,ht,hx,Thread.enc,Nt,Jt,hw]
 rw[if_neg SS]at hw;obtain⟨O,rw1⟩:=QV.pt.O r0;have P:=O.prs t;have hB:(inL (pC p.cells) (zGv p A r) zGi A).Pairwise (· < ·):=List.Pairwise.filter _ List.pairwise_lt_range;have Uz: ∀z∈inL (pC p.cells) (zGv p A r) zGi A,z<2^zcD (pC p.cells) (zGv p A r):=fun z hz=>(zHo.1 hz).1
 have S7:(2:Nat)^zcD (pC p.cells) (zGv p A r)<=2^6:=Nat.pow_le_pow_right (by omega) (by omega)
 have Vr:(inL (pC p.cells) (zGv p A r) zGi A).length<70:=by
  have:=zHn hB Uz;omega
 obtain⟨s,Gv,Gu,OV,US⟩:=zN9 (show zcD (pC p.cells) (zGv p A r)<=6 by omega) P 70 _ Vr;rw[Gv]at hw;have Gc:c.rely.op=r.op/\c.rely.w=r.w/\c.rely.n=r.n/\c.rely.kids=r.kids:=by rw[hr];exact⟨rfl,rfl,rfl,rfl⟩
 simp -dsimp -implicitDefEqProofs only[go_sem,seval,h0,h1,h2,c1,PI,MO,ht,hx,Thread.enc,Nt,Jt,hw,hm,m0,hc,Contract.enc,hr,hA,Expr.enc_eq];have Vv:=QV.pt.lim;refine zaq 664603856687656110616691556514578432 p.locks.length (fun i f h x=>(f 15).v=vi i/\zaF h x (f 14).v 4 (rwE (zNJ p A r i))) rfl ⟨by simp -dsimp -implicitDefEqProofs only[go_sem,seval],.inr ⟨76,by simp -dsimp -implicitDefEqProofs only[go_sem,seval];rfl,by(try simp -dsimp -implicitDefEqProofs only[go_sem,seval]);(try omega),?_⟩⟩ ?_
 ·simp only[zaC,zaA];rw[zaa,if_pos rfl];simp[rwE,zNJ,Expr.enc_eq]
 rintro i f u h y bb hi ⟨g15,hO⟩;have BF:=zan i (by omega);have TM:=zNH (A:=A) (r:=r) hi
 by_cases AV:i<p.locks.length
 ·have DB:=eq_true AV;obtain⟨k,hk,It⟩:=zai AV;have y1:=hO.valOf;have v0:=hO.r1;have v2:=hO.r2;have v3:=hO.r3;have v4:=hO.r4;have v5:=hO.r5;simp -dsimp -implicitDefEqProofs only[go_sem,seval,g15,DB,hk,Lock.enc,Expr.enc_eq,y1,v0,v2,v3,v4,v5];refine zav (hO.upd (by omega) _) (by omega) (by rw[zGx];omega) (by decide) rfl (zJk _) ?_;intro v hp hP _ _;have z1:=hP.valOf;simp -dsimp -implicitDefEqProofs only[go_sem,seval,z1,g15];refine⟨AV,by simp -dsimp -implicitDefEqProofs only[go_sem,seval,BF],?_⟩;simp -dsimp -implicitDefEqProofs only[go_sem,seval];rw[zMz hk,zJj];exact hP.le (by(try simp -dsimp -implicitDefEqProofs only[go_sem,seval]);(try omega))
 have DB:=eq_false AV;have:i=p.locks.length:=by omega
 subst this;rw[zNI]at hO TM
 obtain⟨k1,C0,A3,DC⟩: ∃k1,(f 14).v= .ms k1 0 (2+p.locks.length)/\k1<y/\h k1=some (.rows 4 (rwE (zNm p A r)) false):=by
  rcases hO with⟨_,e0⟩ | ⟨k1,e1,e2,e3⟩
  ·have:=congrArg List.length e0;rw[zGx,List.length_nil]at this;omega
  ·rw[zGx,TM]at e1;exact⟨k1,e1,e2,e3⟩
 have rwT: ∀(hh:Nat->Option Rg.O) (k m:Nat) (es:List Expr) (fz:Bool),hh k=some (.rows 4 (rwE es) fz)->m=es.length->toT1 hh (.ms k 0 m)=some (.t (.sl (es.map Expr.enc))):=fun hh k m es fz hk hm=>by
  subst hm;simp only[toT1,toT,hk,rd];rw[if_pos (by rw[zGx];omega),List.drop_zero,List.take_of_length_le (by rw[zGx];omega),zC,zD,zOe];rfl
 have t1:=rwT h k1 (2+p.locks.length) (zNm p A r) false DC TM.symm;have UK:=O.c32
 have a5:=zNf p (zNm p A r) (fun e he op Ao c hc=>by
  have By:c∈zGv p A r:=by
   refine(zGF QV.pt.lkc).2 ?_;unfold zNm at he;rcases List.mem_append.1 he with he | he
   ·simp only[List.mem_cons,List.not_mem_nil,or_false]at he;rcases he with rfl | rfl<;>rcases Ao with rfl | rfl
    ·exact .inr (.inl hc)
    ·exact .inr (.inr (.inl hc))
    ·exact .inr (.inr (.inr (.inl hc)))
    ·exact .inr (.inr (.inr (.inr hc)))
   ·obtain⟨k,hk,rfl⟩:=List.mem_map.1 he;rcases Ao with rfl | rfl
    ·exact .inl ⟨k,hk,.inr (.inl hc)⟩
    ·exact .inl ⟨k,hk,.inr (.inr hc)⟩
  exact(O.lc c By).2) (fun k hk=>O.lc _ (O.lk k hk).1) (by rw[TM];omega) (by omega) (by omega)
 rw[zPM O QV.pt.lkc]at a5;have a6:=zMM p (by omega);have a7:=zL9 (lkE p);unfold eV at a6 a7;have Vc:=O.len;have Li:=O.wd;have Mv:=O.lc
 generalize JI:zGv p A r=l at *
 simp -dsimp -implicitDefEqProofs only[go_sem,seval,g15,DB,C0,↓t1,a5,a6,a7];refine zGs (fun _=>True) (fun _ _=>trivial) fun h3 _ _=> ?_
 simp -dsimp -implicitDefEqProofs only[go_sem,seval,a6,a7];refine zaq 383123885216471534024852914910650369155469917010264064 l.length (fun i f h x=>(f 19).v=vi i/\zaF h x (f 18).v 4 (rwE (zMf p l t r i))) rfl ⟨by simp -dsimp -implicitDefEqProofs only[go_sem,seval],.inr ⟨y+5+4+4+4,by simp -dsimp -implicitDefEqProofs only[go_sem,seval];rfl,by(try simp -dsimp -implicitDefEqProofs only[go_sem,seval]);(try omega),?_⟩⟩ ?_
 ·simp only[zaC,zaA];rw[zaa,if_pos rfl];simp[rwE,zMf,Expr.enc_eq]
 rintro i f2 u2 h2 y2 bb2 Cq ⟨g19,Cz⟩;have Tz:=zan i (by omega);have BA:=zNs (p:=p) (t:=(t:Int)) (r:=r) Cq
 by_cases A4:i<l.length
 ·have EI:=eq_true A4;obtain⟨q,hq,PZ⟩:=zai A4;obtain⟨z,hz,z1,z8⟩:=Li q PZ;obtain⟨q0,q1⟩:=Mv q PZ;have Jm:=zb6 (p:=p) (t:=(t:Int)) q0 hz;have UO:wI p q=z.w:=by rw[wI,hz]
  by_cases TD:z.thread=(t:Int)
  ·have Td:=eq_true TD;have b1:=zLX q z.w;have b2:=zvn q z.w;have b3:Den Γ G 63 [vi 11,vi 1,.agg [vi 3,vi z.w,vi q,.t (.sl [])],.agg [vi 2,vi z.w,vi q,.t (.sl [])]]=some (.agg [vi 11,vi 1,vi 0,.t (.sl [[ti 3,ti z.w,ti q,.sl []],[ti 2,ti z.w,ti q,.sl []]])]):=znz 11 1 (.mk 3 z.w q []) (.mk 2 z.w q []);have he:eqE p q= .mk 11 1 0 [.mk 3 z.w q [],.mk 2 z.w q []]:=by rw[eqE,UO]
   have y1:=Cz.valOf;have v0:=Cz.r1;have v2:=Cz.r2;have v3:=Cz.r3;have v4:=Cz.r4;have v5:=Cz.r5;simp -dsimp -implicitDefEqProofs only[go_sem,seval,g19,EI,hq,hz,Cell.enc,q0,Td,b1,b2,b3,y1,v0,v2,v3,v4,v5];refine zav (Cz.upd (by omega) _) (by omega) (by rw[zGx];omega) (by decide) rfl (zJk _) ?_;intro v hp hP _ _;have z1:=hP.valOf;simp -dsimp -implicitDefEqProofs only[go_sem,seval,z1,g19];refine⟨A4,by simp -dsimp -implicitDefEqProofs only[go_sem,seval,Tz],?_⟩;simp -dsimp -implicitDefEqProofs only[go_sem,seval];rw[zJP hq,Jm,if_pos (by simpa using TD),zJj,he];exact hP.le (by(try simp -dsimp -implicitDefEqProofs only[go_sem,seval]);(try omega))
  ·have Td:=eq_false TD;simp -dsimp -implicitDefEqProofs only[go_sem,seval,g19,EI,hq,hz,Cell.enc,q0,Td];refine⟨A4,by simp -dsimp -implicitDefEqProofs only[go_sem,seval,Tz],?_⟩;simp -dsimp -implicitDefEqProofs only[go_sem,seval];rw[zJP hq,Jm,if_neg (by simpa using TD)];exact Cz.le (by(try simp -dsimp -implicitDefEqProofs only[go_sem,seval]);(try omega))
 have EI:=eq_false A4;have:i=l.length:=by omega
 subst this;rw[zNt]at Cz BA
 obtain⟨k2,Ep,AF,Cl⟩: ∃k2,(f2 18).v= .ms k2 0 (zHV p l t r).length/\k2<y2/\h2 k2=some (.rows 4 (rwE (zHV p l t r)) false):=by
  rcases Cz with⟨_,e0⟩ | ⟨k1,e1,e2,e3⟩
  ·have:=congrArg List.length e0;rw[zGx,List.length_nil]at this;omega
  ·rw[zGx]at e1;exact⟨k1,e1,e2,e3⟩
 have t2:=rwT h2 k2 (zHV p l t r).length (zHV p l t r) false Cl rfl;have a8:=zK4 (zHV p l t r) (by omega);have Un: ∀c∈A.sup 2,c∈l:=fun c hc=>by rw[<- JI];exact(zGF QV.pt.lkc).2 (.inr (.inl hc))
 have a9:=zIs p.cells l A O.pw (by omega) O.lc fun _=>Un
 unfold ofR zGj at a9;rw[if_neg (by rw[O.shp];simp),O.sum,if_neg (by omega),if_neg (by rw[QV.pt.av,QV.pt.aw];simp)]at a9
 by_cases z0:(zHc (zHV p l t r)).op=0
 ·have Bu:(zHc (zHV p l t r)).valid p.cells true=false:=by
   cases hv:(zHc (zHV p l t r)).valid p.cells true with
   | false=>rfl
   | true=>
     simp only[Expr.valid,zF]at hv;exact absurd z0 (zIy hv.1)
  have a10:=zIo p.cells l (zHc (zHV p l t r)) O.pw (by omega) O.lc (fun h=>by rw[Bu]at h;cases h);unfold zPv zHy at a10;rw[if_neg (by rw[O.shp];simp),if_neg (by rw[O.sum];omega),if_pos (by rw[Bu];rfl)]at a10;have z0':=eq_true z0
  generalize zHc (zHV p l t r)=al at *
  simp -dsimp -implicitDefEqProofs only[go_sem,seval,g19,EI,Ep,↓t2,a8];refine zGs (fun _=>True) (fun _ _=>trivial) fun h4 _ _=> ?_
  simp -dsimp -implicitDefEqProofs only[go_sem,seval,a9,a10,z0']
 obtain⟨vs,w1,T0⟩:=O.all_ok z0
 have a10:=zIo p.cells l (zHc (zHV p l t r)) O.pw (by omega) O.lc (fun _ c hc=>by
  rcases List.mem_append.1 hc with h | h
  ·exact vs.sup 3 (.inr rfl) c h
  ·exact vs.sup 2 (.inl rfl) c h)
 unfold zPv zHy at a10;rw[if_neg (by rw[O.shp];simp),if_neg (by rw[O.sum];omega),if_neg (by rw[vs.valid,w1];simp),T0]at a10;have S:=O.S (show zcD (pC p.cells) l<=12 by omega);have h6:zGp (wsC p.cells l)<=6:=by rw[O.sum];omega
 have Uw:(zGp (wsC p.cells l)).toNat=zcD (pC p.cells) l:=by rw[O.sum,Int.toNat_natCast]
 have P2:Prs (zGp (wsC p.cells l)).toNat (zIR p l t r):=by rw[Uw];exact P
 have E:Elems (wsC p.cells l) (inL (pC p.cells) l zGi A):=by
  rw[zGw O.lc O.shp]at S⊢;exact zHp S
 have a11:=zK1 S h6 P2;have a12:=zI6 S h6 (zLz (by rw[Uw];omega) P2) E;have Iu:s.Pairwise (· < ·):=hB.sublist OV
 have U6:zHe (zNd (zGp (wsC p.cells l)).toNat (zIR p l t r)) (inL (pC p.cells) l zGi A)=s:=by
  rw[Uw];exact zIS (by omega) P hB Iu Uz (fun z hz=>OV.subset hz) Gu US
 rw[U6]at a12;have Es:Elems (wsC p.cells l) s:=⟨Iu,fun z hz=>E.lt z (OV.subset hz)⟩
 have UR:=Es.len S;have a13:=zI0 l (wsC p.cells l) (nI s) (by omega) (by have:=S.wl;omega) (by simp;omega)
 have By:CL (pC p.cells) l:=fun c hc=>by
  obtain⟨w,hw,g1,g8⟩:=O.wd c hc;have:=O.lc c hc;exact⟨this.1,by omega,w,hw,g1,g8⟩
 have S':Shp l (wsM (pC p.cells) l):=by rw[<- zGw O.lc O.shp];exact S
 have E':Elems (wsM (pC p.cells) l) s:=by rw[<- zGw O.lc O.shp];exact Es
 obtain⟨_,a14,e,rfl,U8⟩:=zM5 S' By E';rw[<- zGw O.lc O.shp]at a14;unfold zGj at a12 a13;unfold zHy at a11 a12;unfold zGj eV at a14;have z0':=eq_false z0
 generalize zHc (zHV p l t r)=al at *
 simp -dsimp -implicitDefEqProofs only[go_sem,seval,g19,EI,Ep,↓t2,a8];refine zGs (fun _=>True) (fun _ _=>trivial) fun h4 _ _=> ?_
 simp -dsimp -implicitDefEqProofs only[go_sem,seval,a9,a10,z0',a11,a12,a13,a14];have TF:n<x.asserts.length:=by omega
 have UQ:=F3.thr x C1
 have AS:(stP p t n x e).sane:=by
  have S6:=SmallP.mono F3 (show(30:Int)<=600 by decide);have BV:=S6.thr x C1;refine Prog.SmallP.sane (zIj hl hx rfl) (zH3 S6 hx ⟨by simp only[List.length_set];exact BV.1,BV.2.1,BV.2.2.1,BV.2.2.2.1,fun y hy=> ?_⟩ (S6.steps x C1) (S6.loops x C1));rcases List.mem_or_eq_of_mem_set hy with h | rfl
  ·exact BV.2.2.2.2 y h
  ·rcases U8 with rfl | ⟨hf,_⟩
   ·decide+kernel
   ·simp only[Expr.formed,zF,decide_eq_true_eq]at hf;omega
 obtain⟨bv,ev,AE,Cf⟩: ∃(bv:Bool) (ev:Int),Den Γ G 515 [(zP (stP p t n x e)),vi t,vi n]=some (.tup [vb bv,vi ev])/\(e.op=0\/ev=2\/(ev=0/\bv=true)):=by
  rcases U8 with rfl | ⟨hf,D⟩
  ·refine⟨false,1,zJh _ AS (fun hq=> ?_) t n,.inl rfl⟩;have h5:=(zgN.1 ((zpi.1 hq).threads t _ (zMi hx))).2.2.2.2.1;have h6:=zN.1 h5 zrE (by rw[List.mem_iff_getElem];exact⟨n,by simpa using TF,by simp⟩);unfold zaR Expr.valid at h6;rw[show zrE.formed=false from rfl]at h6;simp at h6
  ·have SP: ∀c∈l,zjW p t c=true:=by rw[<- JI];exact QV.see r0
   obtain⟨FS,Ud,Uc⟩:=zM9 hf D SP;have Uh:=(zPm F3 hl G2 hx (n:=n) hf FS).1;obtain⟨A',r',QW,Rs,m',c',Fm,m0',Bz,Dz⟩:=zOL Uh AS (zMi hx) (n:=n) (show(n:Int)<x.points by omega)
   have e1:A'=e:=by
    have:(x.asserts.set n e)[n]? =some A':=Rs;rw[List.getElem?_set,if_pos rfl,if_pos TF]at this;exact(Option.some.inj this).symm
   have e2:m'=m:=by
    have:x.modules[n]? =some m':=Fm;rw[hm]at this;exact(Option.some.inj this).symm
   subst e1 e2
   have e3:c'=c:=by
    have:p.modules[m'.toNat]? =some c':=Bz;rw[hc]at this;exact(Option.some.inj this).symm
   subst e3;have e4:r'=r:=by rw[<- Dz,hr]
   subst e4;have Tj:=zLN QW.pt;obtain⟨O2,_⟩:=QW.pt.O r0;have O':LOk p (zGv p A' r') r':=⟨O2.pw,O2.lc,O2.c32,O2.wd,O2.lk,⟨O2.rv.valid,O2.rv.sup⟩⟩
   unfold zQ4 at Tj;rw[if_neg r0]at Tj
   by_cases UB:zcD (pC p.cells) (zGv p A' r')>6
   ·rw[if_pos (show zcD (pC (stP p t n x A').cells) (zGv (stP p t n x A') A' r')>6 from UB)]at Tj;exact⟨_,_,Tj,.inr (.inl rfl)⟩
   ·rw[if_neg (show ¬zcD (pC (stP p t n x A').cells) (zGv (stP p t n x A') A' r')>6 from UB)]at Tj
    have D5: ∀q∈zGv p A' r',q∈l:=fun q hq=>by
     rw[<- JI];refine(zGF QV.pt.lkc).2 ?_;rcases(zGF QV.pt.lkc).1 hq with h | h | h | h | h
     ·exact .inl h
     ·have:=Ud q h;rw[<- JI]at this;exact(zGF QV.pt.lkc).1 this
     ·rw[Uc]at h;simp at h
     ·exact .inr (.inr (.inr (.inl h)))
     ·exact .inr (.inr (.inr (.inr h)))
    have Tp:=zMg O O' D5 (by omega) (by omega) hf D Gu;have Ut:decide (zHe (zIR (stP p t n x A') (zGv (stP p t n x A') A' r') t r') (inL (pC (stP p t n x A').cells) (zGv (stP p t n x A') A' r') zGi A')=inL (pC (stP p t n x A').cells) (zGv (stP p t n x A') A' r') zGi A')=true:=decide_eq_true Tp;rw[Ut]at Tj;exact⟨_,_,Tj,.inr (.inr ⟨rfl,rfl⟩)⟩
 have Aa:(((p.threads.map Thread.enc).map (fun x=>x.map V.t)).all fun r=>decide (r.length=7))=true:=by simp[Thread.enc]
 have UP:=F3.threads;refine zJY (a:=[]) (by rw[zaa,if_pos rfl]) rfl (by simp;omega) (by decide) Aa rfl ?_;intro k hp hk hH AG;clear AG;have e0:updC h4 (y2+4+4+11+11+3+8+9+20+4+3+0) (some (Rg.O.rows 7 [] false))=At h4 [(y2+4+4+11+11+3+8+9+20+4+3+0,Rg.O.rows 7 [] false)]:=by rw[zaC,zaA]
 rw[e0]at hH
 generalize At (At h4 [(y2+4+4+11+11+3+8+9+20+4+3+0,Rg.O.rows 7 [] false)]) hp=H at hH⊢
 clear e0;rw[List.nil_append]at hH⊢;rw[List.length_map,List.length_map];have RI:((p.threads.map Thread.enc).map (fun x=>x.map V.t))[t]? =some [.t (.str x.name),.t (ti x.points),.t (.sl (x.asserts.map Expr.enc)),.t (ints x.modules),.t (.sl (x.steps.map Step.enc)),.t (.sl (x.loops.map Loop.enc)),.t (tb x.asleep)]:=by rw[zJ,zJ,hx];rfl
 have Us:(t<p.threads.length)=True:=eq_true Dd;simp -dsimp -implicitDefEqProofs only[go_sem,seval,hH,hx,Thread.enc];refine zJY (a:=[]) (by rw[zaa,if_pos rfl]) rfl (by simp;omega) (by decide) (zNF Expr.enc zN0 _) rfl ?_;intro q2 D0 AF SM AG;have hT:At (updC H (y2+4+4+11+11+3+8+9+20+4+3+6+3) (some (Rg.O.rows 4 [] false))) D0 k=H k:=by rw[AG k (by omega) (by omega),zaa,if_neg (by omega)]
 have e0:updC H (y2+4+4+11+11+3+8+9+20+4+3+6+3) (some (Rg.O.rows 4 [] false))=At H [(y2+4+4+11+11+3+8+9+20+4+3+6+3,Rg.O.rows 4 [] false)]:=by rw[zaC,zaA]
 rw[hH,e0]at hT;rw[e0,List.nil_append]at SM;clear AG
 generalize At (At H [(y2+4+4+11+11+3+8+9+20+4+3+6+3,Rg.O.rows 4 [] false)]) D0=H2 at SM hT⊢
 clear e0;rw[List.nil_append,List.length_map,List.length_map];have Uq:(q2=k)=False:=eq_false (by omega);have T8:(k=q2)=False:=eq_false (by omega);have Ue:(((p.threads.map Thread.enc).map (fun x=>x.map V.t)).set t [.t (.str x.name),.t (ti x.points),.ms q2 0 x.asserts.length,.t (ints x.modules),.t (.sl (x.steps.map Step.enc)),.t (.sl (x.loops.map Loop.enc)),.t (tb x.asleep)])[t]? =some [.t (.str x.name),.t (ti x.points),.ms q2 0 x.asserts.length,.t (ints x.modules),.t (.sl (x.steps.map Step.enc)),.t (.sl (x.loops.map Loop.enc)),.t (tb x.asleep)]:=by rw[List.getElem?_set];simp[Dd]
 have H1:(n<x.asserts.length)=True:=eq_true TF
 have Cu: ∃r,((x.asserts.map Expr.enc).map (fun x=>x.map V.t))[n]? =some r/\r.length=4:=by
  refine⟨(x.asserts[n].enc).map V.t,by simp[TF],by simp[Expr.enc_eq]⟩
 obtain⟨r',B3,BC⟩:=Cu;have GW:List.drop 4 r'= []:=List.drop_eq_nil_of_le (by omega)
 have E8:((x.asserts.map Expr.enc).map (fun x=>x.map V.t)).set n [.t (ti e.op),.t (ti e.w),.t (ti e.n),.t (.sl (e.kids.map Expr.enc))]=((x.asserts.set n e).map Expr.enc).map (fun x=>x.map V.t):=by
  rw[List.map_set,List.map_set,Expr.enc_eq];rfl
 have Ey:toT (updC (updC H2 k (some (.rows 7 (((p.threads.map Thread.enc).map (fun x=>x.map V.t)).set t [.t (.str x.name),.t (ti x.points),.ms q2 0 x.asserts.length,.t (ints x.modules),.t (.sl (x.steps.map Step.enc)),.t (.sl (x.loops.map Loop.enc)),.t (tb x.asleep)]) false))) q2 (some (.rows 4 (((x.asserts.set n e).map Expr.enc).map (fun x=>x.map V.t)) false))) 999 (.ms q2 0 x.asserts.length)=some (.sl ((x.asserts.set n e).map Expr.enc)):=
  zNN Expr.enc zJ1 _ (d:=998) (by rw[zaa,if_pos rfl]) (by simp)
 have tq:=zMe p t { x with asserts:=x.asserts.set n e } (k:=k) (by rw[zaa,if_neg (by omega),zaa,if_pos rfl]) (row:=[.t (.str x.name),.t (ti x.points),.ms q2 0 x.asserts.length,.t (ints x.modules),.t (.sl (x.steps.map Step.enc)),.t (.sl (x.loops.map Loop.enc)),.t (tb x.asleep)]) (h:=updC (updC H2 k (some (.rows 7 (((p.threads.map Thread.enc).map (fun x=>x.map V.t)).set t [.t (.str x.name),.t (ti x.points),.ms q2 0 x.asserts.length,.t (ints x.modules),.t (.sl (x.steps.map Step.enc)),.t (.sl (x.loops.map Loop.enc)),.t (tb x.asleep)]) false))) q2 (some (.rows 4 (((x.asserts.set n e).map Expr.enc).map (fun x=>x.map V.t)) false)))
  (by simp only[List.mapM_cons,List.mapM_nil,zOx,Ey,Option.pure_def,zC,zD];rfl)
 have Dk:Den Γ G 515 [(zP (zGl p t { x with asserts:=x.asserts.set n e })),vi t,vi n]=some (.tup [vb bv,vi ev]):=AE;simp -dsimp -implicitDefEqProofs only[go_sem,seval,↓tq,hT,SM,RI,Ue,Us,H1,Uq,T8,B3,BC,GW,E8,Dk];refine zGs (fun _=>True) (fun _ _=>trivial) fun h5 _ _=> ?_
 by_cases Ao:e.op=0
 ·have SQ:=eq_true Ao;simp -dsimp -implicitDefEqProofs only[go_sem,seval,SQ]
 ·have SQ:=eq_false Ao;rcases Cf with h | rfl | ⟨rfl,rfl⟩
  ·exact absurd h Ao
  ·simp -dsimp -implicitDefEqProofs only[go_sem,seval,SQ]
  ·simp -dsimp -implicitDefEqProofs only[go_sem,seval,SQ]
end Rg
end

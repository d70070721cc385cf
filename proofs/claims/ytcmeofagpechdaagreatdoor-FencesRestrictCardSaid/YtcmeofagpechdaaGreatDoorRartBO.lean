/- Part of the proof of laws of relyguardlaw31. No condition. -/
import Derived.Test.YtcmeofagpechdaaGreatDoorRartBK
import Derived.Test.YtcmeofagpechdaaGreatDoorRartBL
import Derived.Test.YtcmeofagpechdaaGreatDoorRartBM
import Derived.Test.YtcmeofagpechdaaGreatDoorRartBN
set_option linter.unusedSimpArgs false
set_option linter.unusedVariables false
section
-- APPS
set_option maxRecDepth 100000
namespace Rg
open Go
theorem zBL:sets9.all (fun l=> !zhW (ptB exH l) exH)=true:=by decide+kernel
theorem zBT:sets9.all (fun l=>l.all fun x=>decide (x.1<2)&&decide (x.2<2))=true:=by decide
theorem zA5 {l:List Pl} (hl:l∈sets9):Den Γ G 418 [zxt exH,plV l]=some (.tup [zxt (PI l),vi 0]):=by
 have h1:=List.all_eq_true.1 zBL l hl;have h2:=List.all_eq_true.1 zBT l hl
 have hlen:l.length<2^20:=by
  have:sets9.all (fun l=>decide (l.length<2^20))=true:=by decide
  simpa using List.all_eq_true.1 this l hl
 have:=zfH exH exHK zs4 l hlen (fun x hx=>by
  have:=List.all_eq_true.1 h2 x hx;simp only[zF,decide_eq_true_eq]at this;obtain⟨a,b⟩:=x;obtain⟨ha,hb⟩:=this
  match a,ha with
  | 0,_=>exact⟨zs1 97 0,rfl,hb⟩
  | 1,_=>exact⟨zs1 98 1,rfl,hb⟩)
 rw[insM,show zhW (ptB exH l) exH=false by simpa using h1]at this;exact this
def zBV:List (Nat×List V×V):=(415,[zxt exH],vb true)::(sets9.map (fun l=>(418,[zxt exH,plV l],.tup [zxt (PI l),vi 0]))++((289,[zxt (PI []),vi 0],vb true)::(List.zip sets9 [false,false,false,false,false,false,false,false,false,true]).map fun x=>(289,[zxt (PI x.1),vi 1],vb x.2)))
theorem kMin_ok: ∀e∈zBV,Den Γ G e.1 e.2.1=some e.2.2:=by
 intro e he;rcases List.mem_cons.1 he with rfl | he
 ·exact kVal_ok _ (List.mem_cons_self ..)
 rcases List.mem_append.1 he with he | he
 ·obtain⟨l,hl,rfl⟩:=List.mem_map.1 he;exact zA5 hl
 rcases List.mem_cons.1 he with rfl | he
 ·exact rbS
 simp only[sets9,List.zip_cons_cons,List.zip_nil_left,List.map_cons,List.map_nil,List.mem_cons,List.not_mem_nil,or_false]at he;rcases he with rfl | rfl | rfl | rfl | rfl | rfl | rfl | rfl | rfl | rfl
 ·exact rb0
 ·exact rb1
 ·exact rb2
 ·exact rb3
 ·exact rb4
 ·exact rb5
 ·exact rb6
 ·exact rb7
 ·exact rb8
 ·exact rb9
theorem zBJ:Den Γ G 403 [zxt exH,vi 1]=some (.tup [.t (.sl [[ti 0,ti 1],[ti 1,ti 1]]),vi 0]):=zxs (orcl_ok kMin_ok) 3000 (by kernel_rfl)
theorem zBK:Den Γ G 403 [zxt exH,vi 0]=some (.tup [.t (.sl []),vi 0]):=zxs (orcl_ok kMin_ok) 3000 (by kernel_rfl)
theorem zBM:Den Γ G 404 [zxt exH,.t (.sl [[ti 0,ti 1]])]=some (.tup [zxt exI,vi 0]):=zxs (orcl_ok kMin_ok) 3000 (by kernel_rfl)
def zBp:List (Nat×List V×V):=[(412,[],zxt exH),(403,[zxt exH,vi 1],.tup [.t (.sl [[ti 0,ti 1],[ti 1,ti 1]]),vi 0]),(403,[zxt exH,vi 0],.tup [.t (.sl []),vi 0]),(404,[zxt exH,.t (.sl [[ti 0,ti 1]])],.tup [zxt exI,vi 0]),(289,[zxt exI,vi 1],vb false),(413,[.t (.sl [[ti 0,ti 1],[ti 1,ti 1]]),.t (.sl [[ti 0,ti 1],[ti 1,ti 1]])],vb true)]
theorem head31e_den:Den Γ G 401 []=some (vb true):=by
 refine zxs (orcl_ok (l:=zBp) ?_) 3000 (by kernel_rfl);simp only[zBp,List.mem_cons,List.not_mem_nil,or_false];rintro e (rfl | rfl | rfl | rfl | rfl | rfl)
 ·exact zwn
 ·exact zBJ
 ·exact zBK
 ·exact zBM
 ·exact rb2
 ·exact zww
end Rg
end

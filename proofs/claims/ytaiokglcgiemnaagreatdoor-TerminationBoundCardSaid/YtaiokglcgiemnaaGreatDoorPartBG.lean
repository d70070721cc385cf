/- Part of the proof of the laws of the package relyguardlaw36: an abstract machine for the program's functions, what they compute, and that the machine is the program's. No condition. (H63c) -/
import Derived.Test.YtaiokglcgiemnaaGreatDoorPartBF
section
set_option maxRecDepth 100000
namespace Rg
open Go
def cyc36:V:=.t (.sl [[ti 0,ti 0,ti 0],[ti 0,ti 1,ti 0]])
theorem las36t:Den Γ G 343 [exV true,vi 0,vi 0,vi 0,vi 100]=some (.tup [.t (.sl []),cyc36,vi 0]):=den_ev2 (orcl_ok k36_ok) 3000 (by kernel_rfl)
def h36:List (Nat×List V×V):=[(347,[vb false],exV false),(347,[vb true],exV true),(336,[exV false,vi 0,vi 0],.tup [vi 2,vi 0]),(341,[exV false,vi 0,run36,vi 0,vi 0],.tup [vi 2,vi 0]),
 (343,[exV false,vi 1,vi 0,vi 0,vi 100],.tup [.t (.sl []),.t (.sl []),vi 4]),(343,[exV true,vi 0,vi 0,vi 0,vi 100],.tup [.t (.sl []),cyc36,vi 0])]
theorem head36_den:Den Γ G 334 []=some (vb true):=by
 refine den_ev2 (orcl_ok (l:=h36) ?_) 3000 (by kernel_rfl)
 simp only[h36,List.mem_cons,List.not_mem_nil,or_false]
 rintro e (rfl | rfl | rfl | rfl | rfl | rfl)
 ·exact ex36f
 ·exact ex36t
 ·exact bnd36
 ·exact itr36
 ·exact las36f
 ·exact las36t
end Rg
end

/- Part of the proof of laws of relyguardlaw36. No condition. -/
import Derived.Test.YtaiokglcgiemnaaGreatDoorCartAS
set_option linter.unusedVariables false
set_option linter.unusedSimpArgs false
section
set_option maxRecDepth 100000
namespace Rg
open Go
def zpX:V:=.t (.sl [[ti 0,ti 0,ti 0],[ti 0,ti 1,ti 0]])
theorem zpH:Den Γ G 343 [exV true,vi 0,vi 0,vi 0,vi 100]=some (.tup [.t (.sl []),zpX,vi 0]):=zd4 (zzM zA9) 3000 (by kernel_rfl)
def h36:List (Nat×List V×V):=[(347,[vb false],exV false),(347,[vb true],exV true),(336,[exV false,vi 0,vi 0],.tup [vi 2,vi 0]),(341,[exV false,vi 0,zpn,vi 0,vi 0],.tup [vi 2,vi 0]),
 (343,[exV false,vi 1,vi 0,vi 0,vi 100],.tup [.t (.sl []),.t (.sl []),vi 4]),(343,[exV true,vi 0,vi 0,vi 0,vi 100],.tup [.t (.sl []),zpX,vi 0])]
theorem zBR:Den Γ G 334 []=some (vb true):=by
 refine zd4 (zzM (l:=h36) ?_) 3000 (by kernel_rfl);simp only[h36,List.mem_cons,List.not_mem_nil,or_false];rintro e (rfl | rfl | rfl | rfl | rfl | rfl)
 ·exact zsv
 ·exact zsu
 ·exact zsB
 ·exact zr2
 ·exact zpI
 ·exact zpH
end Rg
end

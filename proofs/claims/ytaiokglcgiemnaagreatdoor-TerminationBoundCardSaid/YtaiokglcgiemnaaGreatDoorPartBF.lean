/- Part of the proof of the laws of the package relyguardlaw36: an abstract machine for the program's functions, what they compute, and that the machine is the program's. No condition. (H63b) -/
import Derived.Test.YtaiokglcgiemnaaGreatDoorPartBE
section
set_option maxRecDepth 100000
namespace Rg
open Go
theorem las36f:Den Γ G 343 [exV false,vi 1,vi 0,vi 0,vi 100]=some (.tup [.t (.sl []),.t (.sl []),vi 4]):=den_ev2 (orcl_ok k36_ok) 3000 (by kernel_rfl)
end Rg
end

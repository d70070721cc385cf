/- Part of the proof of laws of relyguardlaw31. No condition. -/
import Derived.Test.YtcmeofagpechdaaGreatDoorRartBJ
set_option linter.unusedVariables false
set_option linter.unusedSimpArgs false
section
set_option maxRecDepth 100000
namespace Rg
open Go
theorem rb8:Den Γ G 289 [zxt (PI [(0,1),(1,0)]),vi 1]=some (vb false):=zxs (orcl_ok kVal_ok) 3000 (by kernel_rfl)
theorem rb9:Den Γ G 289 [zxt (PI [(0,1),(1,1)]),vi 1]=some (vb true):=zxs (orcl_ok kVal_ok) 3000 (by kernel_rfl)
end Rg
end

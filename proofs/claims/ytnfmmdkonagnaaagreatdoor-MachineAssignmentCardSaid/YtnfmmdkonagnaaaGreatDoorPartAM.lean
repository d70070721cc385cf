/- Part of the proof of the laws of the package relyguardlaw11: an abstract machine for the program's functions, what they compute, and that the machine is the program's. No condition. (FnTab SeatR1 RhA RgBa RgBb RgBc) -/
import Derived.Test.YtnfmmdkonagnaaaGreatDoorPartAK
import Derived.Test.YtnfmmdkonagnaaaGreatDoorPartAL
import Derived.Test.YtnfmmdkonagnaaaGreatDoorRows
import Derived.KernelRfl
import Derived.Test.YtnfmmdkonagnaaaGreatDoorPartAJ
import Derived.ChangeArms
import GoSem.ClaimJoined
import Derived.ChangeSame
import Derived.WideKeyArgs
import Derived.RowKit
import Derived.LaidLaws
import Derived.Stop.Joined
section
/- The table of the functions (printed by a program). -/
namespace Rg
open Go
def tabL : List (Nat × F) := [(4, f4),
 (8, f8),
 (9, f9),
 (12, f12),
 (13, f13),
 (15, f15),
 (16, f16),
 (17, f17),
 (18, f18),
 (19, f19),
 (20, f20),
 (21, f21),
 (22, f22),
 (23, f23),
 (24, f24),
 (25, f25),
 (26, f26),
 (27, f27),
 (32, f32),
 (33, f33),
 (34, f34),
 (35, f35),
 (36, f36),
 (38, f38),
 (39, f39),
 (42, f42),
 (43, f43),
 (44, f44),
 (45, f45),
 (46, f46),
 (47, f47),
 (48, f48),
 (49, f49),
 (50, f50),
 (51, f51),
 (52, f52),
 (53, f53),
 (54, f54),
 (55, f55),
 (56, f56),
 (60, f60),
 (61, f61),
 (62, f62),
 (63, f63),
 (64, f64),
 (65, f65),
 (66, f66),
 (67, f67),
 (68, f68),
 (69, f69),
 (70, f70),
 (71, f71),
 (72, f72),
 (73, f73),
 (76, f76),
 (77, f77),
 (78, f78),
 (79, f79),
 (80, f80),
 (81, f81),
 (82, f82),
 (83, f83),
 (84, f84),
 (85, f85),
 (86, f86),
 (87, f87),
 (88, f88),
 (89, f89),
 (90, f90),
 (91, f91),
 (92, f92),
 (95, f95),
 (96, f96),
 (97, f97),
 (98, f98),
 (99, f99),
 (100, f100),
 (101, f101),
 (102, f102),
 (103, f103),
 (104, f104),
 (105, f105),
 (106, f106),
 (107, f107),
 (108, f108),
 (109, f109),
 (110, f110),
 (111, f111),
 (112, f112),
 (113, f113),
 (114, f114),
 (115, f115),
 (116, f116),
 (117, f117),
 (118, f118),
 (119, f119),
 (131, f131),
 (132, f132),
 (133, f133),
 (134, f134),
 (135, f135),
 (136, f136),
 (137, f137),
 (138, f138),
 (145, f145),
 (146, f146),
 (147, f147),
 (148, f148),
 (149, f149),
 (150, f150),
 (151, f151),
 (152, f152),
 (153, f153),
 (154, f154),
 (155, f155),
 (156, f156),
 (157, f157),
 (158, f158),
 (159, f159),
 (161, f161),
 (162, f162),
 (163, f163),
 (164, f164),
 (165, f165),
 (166, f166)]
def Γ : Nat → Option F := fun k => tabL.lookup k
def G : Nat → List T := fun _ => [.int .i64 0, .int .i64 1, .int .i64 3, .int .i64 7, .int .i64 15, .int .i64 31, .int .i64 63, .int .i64 127, .int .i64 255]
theorem Γ4 : Γ 4 = some f4 := by rfl
theorem Γ8 : Γ 8 = some f8 := by rfl
theorem Γ9 : Γ 9 = some f9 := by rfl
theorem Γ12 : Γ 12 = some f12 := by rfl
theorem Γ13 : Γ 13 = some f13 := by rfl
theorem Γ15 : Γ 15 = some f15 := by rfl
theorem Γ16 : Γ 16 = some f16 := by rfl
theorem Γ17 : Γ 17 = some f17 := by rfl
theorem Γ18 : Γ 18 = some f18 := by rfl
theorem Γ19 : Γ 19 = some f19 := by rfl
theorem Γ20 : Γ 20 = some f20 := by rfl
theorem Γ21 : Γ 21 = some f21 := by rfl
theorem Γ22 : Γ 22 = some f22 := by rfl
theorem Γ23 : Γ 23 = some f23 := by rfl
theorem Γ24 : Γ 24 = some f24 := by rfl
theorem Γ25 : Γ 25 = some f25 := by rfl
theorem Γ26 : Γ 26 = some f26 := by rfl
theorem Γ27 : Γ 27 = some f27 := by rfl
theorem Γ32 : Γ 32 = some f32 := by rfl
theorem Γ33 : Γ 33 = some f33 := by rfl
theorem Γ34 : Γ 34 = some f34 := by rfl
theorem Γ35 : Γ 35 = some f35 := by rfl
theorem Γ36 : Γ 36 = some f36 := by rfl
theorem Γ38 : Γ 38 = some f38 := by rfl
theorem Γ39 : Γ 39 = some f39 := by rfl
theorem Γ42 : Γ 42 = some f42 := by rfl
theorem Γ43 : Γ 43 = some f43 := by rfl
theorem Γ44 : Γ 44 = some f44 := by rfl
theorem Γ45 : Γ 45 = some f45 := by rfl
theorem Γ46 : Γ 46 = some f46 := by rfl
theorem Γ47 : Γ 47 = some f47 := by rfl
theorem Γ48 : Γ 48 = some f48 := by rfl
theorem Γ49 : Γ 49 = some f49 := by rfl
theorem Γ50 : Γ 50 = some f50 := by rfl
theorem Γ51 : Γ 51 = some f51 := by rfl
theorem Γ52 : Γ 52 = some f52 := by rfl
theorem Γ53 : Γ 53 = some f53 := by rfl
theorem Γ54 : Γ 54 = some f54 := by rfl
theorem Γ55 : Γ 55 = some f55 := by rfl
theorem Γ56 : Γ 56 = some f56 := by rfl
theorem Γ60 : Γ 60 = some f60 := by rfl
theorem Γ61 : Γ 61 = some f61 := by rfl
theorem Γ62 : Γ 62 = some f62 := by rfl
theorem Γ63 : Γ 63 = some f63 := by rfl
theorem Γ64 : Γ 64 = some f64 := by rfl
theorem Γ65 : Γ 65 = some f65 := by rfl
theorem Γ66 : Γ 66 = some f66 := by rfl
theorem Γ67 : Γ 67 = some f67 := by rfl
theorem Γ68 : Γ 68 = some f68 := by rfl
theorem Γ69 : Γ 69 = some f69 := by rfl
theorem Γ70 : Γ 70 = some f70 := by rfl
theorem Γ71 : Γ 71 = some f71 := by rfl
theorem Γ72 : Γ 72 = some f72 := by rfl
theorem Γ73 : Γ 73 = some f73 := by rfl
theorem Γ76 : Γ 76 = some f76 := by rfl
theorem Γ77 : Γ 77 = some f77 := by rfl
theorem Γ78 : Γ 78 = some f78 := by rfl
theorem Γ79 : Γ 79 = some f79 := by rfl
theorem Γ80 : Γ 80 = some f80 := by rfl
theorem Γ81 : Γ 81 = some f81 := by rfl
theorem Γ82 : Γ 82 = some f82 := by rfl
theorem Γ83 : Γ 83 = some f83 := by rfl
theorem Γ84 : Γ 84 = some f84 := by rfl
theorem Γ85 : Γ 85 = some f85 := by rfl
theorem Γ86 : Γ 86 = some f86 := by rfl
theorem Γ87 : Γ 87 = some f87 := by rfl
theorem Γ88 : Γ 88 = some f88 := by rfl
theorem Γ89 : Γ 89 = some f89 := by rfl
theorem Γ90 : Γ 90 = some f90 := by rfl
theorem Γ91 : Γ 91 = some f91 := by rfl
theorem Γ92 : Γ 92 = some f92 := by rfl
theorem Γ95 : Γ 95 = some f95 := by rfl
theorem Γ96 : Γ 96 = some f96 := by rfl
theorem Γ97 : Γ 97 = some f97 := by rfl
theorem Γ98 : Γ 98 = some f98 := by rfl
theorem Γ99 : Γ 99 = some f99 := by rfl
theorem Γ100 : Γ 100 = some f100 := by rfl
theorem Γ101 : Γ 101 = some f101 := by rfl
theorem Γ102 : Γ 102 = some f102 := by rfl
theorem Γ103 : Γ 103 = some f103 := by rfl
theorem Γ104 : Γ 104 = some f104 := by rfl
theorem Γ105 : Γ 105 = some f105 := by rfl
theorem Γ106 : Γ 106 = some f106 := by rfl
theorem Γ107 : Γ 107 = some f107 := by rfl
theorem Γ108 : Γ 108 = some f108 := by rfl
theorem Γ109 : Γ 109 = some f109 := by rfl
theorem Γ110 : Γ 110 = some f110 := by rfl
theorem Γ111 : Γ 111 = some f111 := by rfl
theorem Γ112 : Γ 112 = some f112 := by rfl
theorem Γ113 : Γ 113 = some f113 := by rfl
theorem Γ114 : Γ 114 = some f114 := by rfl
theorem Γ115 : Γ 115 = some f115 := by rfl
theorem Γ116 : Γ 116 = some f116 := by rfl
theorem Γ117 : Γ 117 = some f117 := by rfl
theorem Γ118 : Γ 118 = some f118 := by rfl
theorem Γ119 : Γ 119 = some f119 := by rfl
theorem Γ131 : Γ 131 = some f131 := by rfl
theorem Γ132 : Γ 132 = some f132 := by rfl
theorem Γ133 : Γ 133 = some f133 := by rfl
theorem Γ134 : Γ 134 = some f134 := by rfl
theorem Γ135 : Γ 135 = some f135 := by rfl
theorem Γ136 : Γ 136 = some f136 := by rfl
theorem Γ137 : Γ 137 = some f137 := by rfl
theorem Γ138 : Γ 138 = some f138 := by rfl
theorem Γ145 : Γ 145 = some f145 := by rfl
theorem Γ146 : Γ 146 = some f146 := by rfl
theorem Γ147 : Γ 147 = some f147 := by rfl
theorem Γ148 : Γ 148 = some f148 := by rfl
theorem Γ149 : Γ 149 = some f149 := by rfl
theorem Γ150 : Γ 150 = some f150 := by rfl
theorem Γ151 : Γ 151 = some f151 := by rfl
theorem Γ152 : Γ 152 = some f152 := by rfl
theorem Γ153 : Γ 153 = some f153 := by rfl
theorem Γ154 : Γ 154 = some f154 := by rfl
theorem Γ155 : Γ 155 = some f155 := by rfl
theorem Γ156 : Γ 156 = some f156 := by rfl
theorem Γ157 : Γ 157 = some f157 := by rfl
theorem Γ158 : Γ 158 = some f158 := by rfl
theorem Γ159 : Γ 159 = some f159 := by rfl
theorem Γ161 : Γ 161 = some f161 := by rfl
theorem Γ162 : Γ 162 = some f162 := by rfl
theorem Γ163 : Γ 163 = some f163 := by rfl
theorem Γ164 : Γ 164 = some f164 := by rfl
theorem Γ165 : Γ 165 = some f165 := by rfl
theorem Γ166 : Γ 166 = some f166 := by rfl
end Rg
end
section
/- The functions of the abstract machine's table are those of the program (printed by a program). -/
set_option maxRecDepth 100000
namespace Rg
open Go Go.Proofs Go.Proofs.YtnfmmdkonagnaaaGreatDoor
namespace Seat
def tbl : List Nat := [2, 3, 4, 5, 6, 7, 8, 9, 10, 11, 12, 13, 14, 15, 16, 17, 18, 19, 20, 21, 22, 23, 24, 25, 26, 27, 28, 29, 30, 31, 32, 33, 34, 35, 36, 37, 38, 39, 40, 41, 42, 43, 44, 45, 46, 47, 48, 49, 50, 51, 52, 53, 54, 55, 56, 57, 58, 59, 60, 61, 62, 63, 64, 65, 66, 67, 68, 69, 70, 71, 72, 73, 74, 75, 76, 77, 78, 79, 80, 81, 82, 83, 84, 85, 86, 87, 88, 89, 90, 91, 92, 93, 94, 95, 96, 97, 98, 99, 100, 101, 102, 103, 104, 105, 106, 107, 108, 109, 110, 111, 112, 113, 114, 115, 116, 117, 118, 119, 120, 121, 122, 123, 124, 125, 126, 127, 128, 129, 130, 131, 132, 133, 134, 135, 136, 137, 138, 139, 140, 141, 142, 143, 144, 145, 146, 147, 148, 149, 150, 151, 152, 153, 154, 155, 156, 157, 158, 159, 160, 161, 162, 163, 164, 165, 166, 167, 168, 189]
def I : Inv := ⟨fun f => tbl.findIdx? (· == f), fun g => if g = 0 then some 0 else none⟩
def N : Nam := ⟨fun k => tbl.getD k 0, fun _ => 0, G⟩
def raws (s : List Nat) : Raws := ⟨[52, 53, 54, 70, 74, 75, 76, 77, 83, 93, 97, 120, 121, 122, 123, 124, 125, 127, 128, 136, 139, 141, 142, 143, 158, 160], s, [32]⟩
def Ent (q : Nat × F) : Prop := ∃ rf rw L raw, Tryz.prog.funcs[N.nm q.1]? = some rf ∧ compF Tryz.prog I rw L raw rf = some q.2
theorem e4 : Ent (4, f4) := ⟨Tryz.f6, raws [], [15, 13, 12, 10, 7, 4], false, Tryz.func6, by kernel_rfl⟩
theorem e8 : Ent (8, f8) := ⟨Tryz.f10, raws [], [8, 6, 4, 2, 1], false, Tryz.func10, by kernel_rfl⟩
theorem e9 : Ent (9, f9) := ⟨Tryz.f11, raws [], [5, 1], false, Tryz.func11, by kernel_rfl⟩
theorem e12 : Ent (12, f12) := ⟨Tryz.f14, raws [], [3, 2, 1], false, Tryz.func14, by kernel_rfl⟩
theorem e13 : Ent (13, f13) := ⟨Tryz.f15, raws [], [3, 2, 1], false, Tryz.func15, by kernel_rfl⟩
theorem e15 : Ent (15, f15) := ⟨Tryz.f17, raws [], [7, 6, 3], false, Tryz.func17, by kernel_rfl⟩
theorem e16 : Ent (16, f16) := ⟨Tryz.f18, raws [], [1], false, Tryz.func18, by kernel_rfl⟩
theorem e17 : Ent (17, f17) := ⟨Tryz.f19, raws [], [3, 2], false, Tryz.func19, by kernel_rfl⟩
theorem e18 : Ent (18, f18) := ⟨Tryz.f20, raws [], [9, 6, 5, 4, 3], false, Tryz.func20, by kernel_rfl⟩
theorem e19 : Ent (19, f19) := ⟨Tryz.f21, raws [], [3, 2], false, Tryz.func21, by kernel_rfl⟩
theorem e20 : Ent (20, f20) := ⟨Tryz.f22, raws [], [3], false, Tryz.func22, by kernel_rfl⟩
theorem e21 : Ent (21, f21) := ⟨Tryz.f23, raws [], [4, 3], false, Tryz.func23, by kernel_rfl⟩
theorem e22 : Ent (22, f22) := ⟨Tryz.f24, raws [], [3, 2], false, Tryz.func24, by kernel_rfl⟩
theorem e23 : Ent (23, f23) := ⟨Tryz.f25, raws [], [2], false, Tryz.func25, by kernel_rfl⟩
theorem e24 : Ent (24, f24) := ⟨Tryz.f26, raws [], [3], false, Tryz.func26, by kernel_rfl⟩
theorem e25 : Ent (25, f25) := ⟨Tryz.f27, raws [], [3, 2], false, Tryz.func27, by kernel_rfl⟩
theorem e26 : Ent (26, f26) := ⟨Tryz.f28, raws [], [10, 8, 4], false, Tryz.func28, by kernel_rfl⟩
theorem e27 : Ent (27, f27) := ⟨Tryz.f29, raws [], [], false, Tryz.func29, by kernel_rfl⟩
theorem e32 : Ent (32, f32) := ⟨Tryz.f34, raws [], [], true, Tryz.func34, by kernel_rfl⟩
theorem e33 : Ent (33, f33) := ⟨Tryz.f35, raws [], [], false, Tryz.func35, by kernel_rfl⟩
theorem e34 : Ent (34, f34) := ⟨Tryz.f36, raws [], [], false, Tryz.func36, by kernel_rfl⟩
theorem e35 : Ent (35, f35) := ⟨Tryz.f37, raws [], [5, 4, 3, 1, 0], false, Tryz.func37, by kernel_rfl⟩
theorem e36 : Ent (36, f36) := ⟨Tryz.f38, raws [], [1], false, Tryz.func38, by kernel_rfl⟩
theorem e38 : Ent (38, f38) := ⟨Tryz.f40, raws [], [1], false, Tryz.func40, by kernel_rfl⟩
theorem e39 : Ent (39, f39) := ⟨Tryz.f41, raws [], [1], false, Tryz.func41, by kernel_rfl⟩
theorem e42 : Ent (42, f42) := ⟨Tryz.f44, raws [], [9, 8, 6, 5, 4, 3], false, Tryz.func44, by kernel_rfl⟩
theorem e43 : Ent (43, f43) := ⟨Tryz.f45, raws [], [9, 3, 2], false, Tryz.func45, by kernel_rfl⟩
theorem e44 : Ent (44, f44) := ⟨Tryz.f46, raws [], [3, 2], false, Tryz.func46, by kernel_rfl⟩
theorem e45 : Ent (45, f45) := ⟨Tryz.f47, raws [], [10, 8, 7, 6, 5, 4, 3], false, Tryz.func47, by kernel_rfl⟩
theorem e46 : Ent (46, f46) := ⟨Tryz.f48, raws [], [3], false, Tryz.func48, by kernel_rfl⟩
theorem e47 : Ent (47, f47) := ⟨Tryz.f49, raws [], [2], false, Tryz.func49, by kernel_rfl⟩
theorem e48 : Ent (48, f48) := ⟨Tryz.f50, raws [], [1], false, Tryz.func50, by kernel_rfl⟩
theorem e49 : Ent (49, f49) := ⟨Tryz.f51, raws [], [3], false, Tryz.func51, by kernel_rfl⟩
theorem e50 : Ent (50, f50) := ⟨Tryz.f52, raws [], [7, 5, 4], false, Tryz.func52, by kernel_rfl⟩
theorem e51 : Ent (51, f51) := ⟨Tryz.f53, raws [7], [], false, Tryz.func53, by kernel_rfl⟩
theorem e52 : Ent (52, f52) := ⟨Tryz.f54, raws [15], [4], true, Tryz.func54, by kernel_rfl⟩
theorem e53 : Ent (53, f53) := ⟨Tryz.f55, raws [], [5], true, Tryz.func55, by kernel_rfl⟩
theorem e54 : Ent (54, f54) := ⟨Tryz.f56, raws [], [2], true, Tryz.func56, by kernel_rfl⟩
theorem e55 : Ent (55, f55) := ⟨Tryz.f57, raws [], [2], false, Tryz.func57, by kernel_rfl⟩
theorem e56 : Ent (56, f56) := ⟨Tryz.f58, raws [], [7], false, Tryz.func58, by kernel_rfl⟩
theorem e60 : Ent (60, f60) := ⟨Tryz.f62, raws [], [], false, Tryz.func62, by kernel_rfl⟩
theorem e61 : Ent (61, f61) := ⟨Tryz.f63, raws [], [4], false, Tryz.func63, by kernel_rfl⟩
theorem e62 : Ent (62, f62) := ⟨Tryz.f64, raws [], [4], false, Tryz.func64, by kernel_rfl⟩
theorem e63 : Ent (63, f63) := ⟨Tryz.f65, raws [], [8, 7, 6], false, Tryz.func65, by kernel_rfl⟩
theorem e64 : Ent (64, f64) := ⟨Tryz.f66, raws [], [13, 5, 1], false, Tryz.func66, by kernel_rfl⟩
theorem e65 : Ent (65, f65) := ⟨Tryz.f67, raws [], [1], false, Tryz.func67, by kernel_rfl⟩
theorem e66 : Ent (66, f66) := ⟨Tryz.f68, raws [], [], false, Tryz.func68, by kernel_rfl⟩
theorem e67 : Ent (67, f67) := ⟨Tryz.f69, raws [], [9, 5, 4], false, Tryz.func69, by kernel_rfl⟩
theorem e68 : Ent (68, f68) := ⟨Tryz.f70, raws [], [2], false, Tryz.func70, by kernel_rfl⟩
theorem e69 : Ent (69, f69) := ⟨Tryz.f71, raws [], [3], false, Tryz.func71, by kernel_rfl⟩
theorem e70 : Ent (70, f70) := ⟨Tryz.f72, raws [38], [], true, Tryz.func72, by kernel_rfl⟩
theorem e71 : Ent (71, f71) := ⟨Tryz.f73, raws [], [], false, Tryz.func73, by kernel_rfl⟩
theorem e72 : Ent (72, f72) := ⟨Tryz.f74, raws [], [], false, Tryz.func74, by kernel_rfl⟩
theorem e73 : Ent (73, f73) := ⟨Tryz.f75, raws [], [3], false, Tryz.func75, by kernel_rfl⟩
theorem e76 : Ent (76, f76) := ⟨Tryz.f78, raws [13], [], true, Tryz.func78, by kernel_rfl⟩
theorem e77 : Ent (77, f77) := ⟨Tryz.f79, raws [], [], true, Tryz.func79, by kernel_rfl⟩
theorem e78 : Ent (78, f78) := ⟨Tryz.f80, raws [], [1], false, Tryz.func80, by kernel_rfl⟩
theorem e79 : Ent (79, f79) := ⟨Tryz.f81, raws [], [6, 4, 1], false, Tryz.func81, by kernel_rfl⟩
theorem e80 : Ent (80, f80) := ⟨Tryz.f82, raws [], [5, 1], false, Tryz.func82, by kernel_rfl⟩
theorem e81 : Ent (81, f81) := ⟨Tryz.f83, raws [], [5, 1], false, Tryz.func83, by kernel_rfl⟩
theorem e82 : Ent (82, f82) := ⟨Tryz.f84, raws [], [6, 5, 1], false, Tryz.func84, by kernel_rfl⟩
theorem e83 : Ent (83, f83) := ⟨Tryz.f85, raws [], [14, 12], true, Tryz.func85, by kernel_rfl⟩
theorem e84 : Ent (84, f84) := ⟨Tryz.f86, raws [], [5, 1], false, Tryz.func86, by kernel_rfl⟩
theorem e85 : Ent (85, f85) := ⟨Tryz.f87, raws [], [4, 1], false, Tryz.func87, by kernel_rfl⟩
theorem e86 : Ent (86, f86) := ⟨Tryz.f88, raws [], [4, 1], false, Tryz.func88, by kernel_rfl⟩
theorem e87 : Ent (87, f87) := ⟨Tryz.f89, raws [], [4, 1], false, Tryz.func89, by kernel_rfl⟩
theorem e88 : Ent (88, f88) := ⟨Tryz.f90, raws [], [13, 6, 2], false, Tryz.func90, by kernel_rfl⟩
theorem e89 : Ent (89, f89) := ⟨Tryz.f91, raws [], [1], false, Tryz.func91, by kernel_rfl⟩
theorem e90 : Ent (90, f90) := ⟨Tryz.f92, raws [], [3], false, Tryz.func92, by kernel_rfl⟩
theorem e91 : Ent (91, f91) := ⟨Tryz.f93, raws [], [], false, Tryz.func93, by kernel_rfl⟩
theorem e92 : Ent (92, f92) := ⟨Tryz.f94, raws [], [], false, Tryz.func94, by kernel_rfl⟩
theorem e95 : Ent (95, f95) := ⟨Tryz.f97, raws [], [], false, Tryz.func97, by kernel_rfl⟩
theorem e96 : Ent (96, f96) := ⟨Tryz.f98, raws [], [], false, Tryz.func98, by kernel_rfl⟩
theorem e97 : Ent (97, f97) := ⟨Tryz.f99, raws [], [5], true, Tryz.func99, by kernel_rfl⟩
theorem e98 : Ent (98, f98) := ⟨Tryz.f100, raws [], [1], false, Tryz.func100, by kernel_rfl⟩
theorem e99 : Ent (99, f99) := ⟨Tryz.f101, raws [], [5, 4], false, Tryz.func101, by kernel_rfl⟩
theorem e100 : Ent (100, f100) := ⟨Tryz.f102, raws [], [2], false, Tryz.func102, by kernel_rfl⟩
theorem e101 : Ent (101, f101) := ⟨Tryz.f103, raws [], [], false, Tryz.func103, by kernel_rfl⟩
theorem e102 : Ent (102, f102) := ⟨Tryz.f104, raws [], [], false, Tryz.func104, by kernel_rfl⟩
theorem e103 : Ent (103, f103) := ⟨Tryz.f105, raws [], [], false, Tryz.func105, by kernel_rfl⟩
theorem e104 : Ent (104, f104) := ⟨Tryz.f106, raws [], [], false, Tryz.func106, by kernel_rfl⟩
theorem e105 : Ent (105, f105) := ⟨Tryz.f107, raws [], [13, 12, 7, 6, 4], false, Tryz.func107, by kernel_rfl⟩
theorem e106 : Ent (106, f106) := ⟨Tryz.f108, raws [], [], false, Tryz.func108, by kernel_rfl⟩
theorem e107 : Ent (107, f107) := ⟨Tryz.f109, raws [], [], false, Tryz.func109, by kernel_rfl⟩
theorem e108 : Ent (108, f108) := ⟨Tryz.f110, raws [], [2], false, Tryz.func110, by kernel_rfl⟩
theorem e109 : Ent (109, f109) := ⟨Tryz.f111, raws [], [], false, Tryz.func111, by kernel_rfl⟩
theorem e110 : Ent (110, f110) := ⟨Tryz.f112, raws [], [], false, Tryz.func112, by kernel_rfl⟩
theorem e111 : Ent (111, f111) := ⟨Tryz.f113, raws [], [1], false, Tryz.func113, by kernel_rfl⟩
theorem e112 : Ent (112, f112) := ⟨Tryz.f114, raws [], [5, 4], false, Tryz.func114, by kernel_rfl⟩
theorem e113 : Ent (113, f113) := ⟨Tryz.f115, raws [], [], false, Tryz.func115, by kernel_rfl⟩
theorem e114 : Ent (114, f114) := ⟨Tryz.f116, raws [], [5, 3], false, Tryz.func116, by kernel_rfl⟩
theorem e115 : Ent (115, f115) := ⟨Tryz.f117, raws [], [5, 4], false, Tryz.func117, by kernel_rfl⟩
theorem e116 : Ent (116, f116) := ⟨Tryz.f118, raws [], [], false, Tryz.func118, by kernel_rfl⟩
theorem e117 : Ent (117, f117) := ⟨Tryz.f119, raws [], [], false, Tryz.func119, by kernel_rfl⟩
theorem e118 : Ent (118, f118) := ⟨Tryz.f120, raws [], [], false, Tryz.func120, by kernel_rfl⟩
theorem e119 : Ent (119, f119) := ⟨Tryz.f121, raws [], [2], false, Tryz.func121, by kernel_rfl⟩
theorem e131 : Ent (131, f131) := ⟨Tryz.f133, raws [], [], false, Tryz.func133, by kernel_rfl⟩
theorem e132 : Ent (132, f132) := ⟨Tryz.f134, raws [], [], false, Tryz.func134, by kernel_rfl⟩
theorem e133 : Ent (133, f133) := ⟨Tryz.f135, raws [], [], false, Tryz.func135, by kernel_rfl⟩
theorem e134 : Ent (134, f134) := ⟨Tryz.f136, raws [], [], false, Tryz.func136, by kernel_rfl⟩
theorem e135 : Ent (135, f135) := ⟨Tryz.f137, raws [], [0], false, Tryz.func137, by kernel_rfl⟩
theorem e136 : Ent (136, f136) := ⟨Tryz.f138, raws [], [], true, Tryz.func138, by kernel_rfl⟩
theorem e137 : Ent (137, f137) := ⟨Tryz.f139, raws [], [12, 5, 3], false, Tryz.func139, by kernel_rfl⟩
theorem e138 : Ent (138, f138) := ⟨Tryz.f140, raws [], [1], false, Tryz.func140, by kernel_rfl⟩
theorem e145 : Ent (145, f145) := ⟨Tryz.f147, raws [], [], false, Tryz.func147, by kernel_rfl⟩
theorem e146 : Ent (146, f146) := ⟨Tryz.f148, raws [], [], false, Tryz.func148, by kernel_rfl⟩
theorem e147 : Ent (147, f147) := ⟨Tryz.f149, raws [], [5, 3], false, Tryz.func149, by kernel_rfl⟩
theorem e148 : Ent (148, f148) := ⟨Tryz.f150, raws [], [11, 9, 5, 3], false, Tryz.func150, by kernel_rfl⟩
theorem e149 : Ent (149, f149) := ⟨Tryz.f151, raws [], [5], false, Tryz.func151, by kernel_rfl⟩
theorem e150 : Ent (150, f150) := ⟨Tryz.f152, raws [], [5, 3], false, Tryz.func152, by kernel_rfl⟩
theorem e151 : Ent (151, f151) := ⟨Tryz.f153, raws [], [5, 3], false, Tryz.func153, by kernel_rfl⟩
theorem e152 : Ent (152, f152) := ⟨Tryz.f154, raws [], [5, 3], false, Tryz.func154, by kernel_rfl⟩
theorem e153 : Ent (153, f153) := ⟨Tryz.f155, raws [], [5, 3], false, Tryz.func155, by kernel_rfl⟩
theorem e154 : Ent (154, f154) := ⟨Tryz.f156, raws [], [3], false, Tryz.func156, by kernel_rfl⟩
theorem e155 : Ent (155, f155) := ⟨Tryz.f157, raws [], [2], false, Tryz.func157, by kernel_rfl⟩
theorem e156 : Ent (156, f156) := ⟨Tryz.f158, raws [], [3, 2], false, Tryz.func158, by kernel_rfl⟩
theorem e157 : Ent (157, f157) := ⟨Tryz.f159, raws [], [0], false, Tryz.func159, by kernel_rfl⟩
theorem e158 : Ent (158, f158) := ⟨Tryz.f160, raws [], [3], true, Tryz.func160, by kernel_rfl⟩
theorem e159 : Ent (159, f159) := ⟨Tryz.f161, raws [], [], false, Tryz.func161, by kernel_rfl⟩
theorem e161 : Ent (161, f161) := ⟨Tryz.f163, raws [], [6, 2], false, Tryz.func163, by kernel_rfl⟩
theorem e162 : Ent (162, f162) := ⟨Tryz.f164, raws [], [6], false, Tryz.func164, by kernel_rfl⟩
theorem e163 : Ent (163, f163) := ⟨Tryz.f165, raws [], [2], false, Tryz.func165, by kernel_rfl⟩
theorem e164 : Ent (164, f164) := ⟨Tryz.f166, raws [], [], false, Tryz.func166, by kernel_rfl⟩
theorem e165 : Ent (165, f165) := ⟨Tryz.f167, raws [], [1], false, Tryz.func167, by kernel_rfl⟩
theorem e166 : Ent (166, f166) := ⟨Tryz.f168, raws [], [1], false, Tryz.func168, by kernel_rfl⟩
theorem all : ∀ q ∈ tabL, Ent q := by
  unfold tabL
  simp only [List.forall_mem_cons]
  exact ⟨e4, e8, e9, e12, e13, e15, e16, e17, e18, e19, e20, e21, e22, e23, e24, e25, e26, e27, e32, e33, e34, e35, e36, e38, e39, e42, e43, e44, e45, e46, e47, e48, e49, e50, e51, e52, e53, e54, e55, e56, e60, e61, e62, e63, e64, e65, e66, e67, e68, e69, e70, e71, e72, e73, e76, e77, e78, e79, e80, e81, e82, e83, e84, e85, e86, e87, e88, e89, e90, e91, e92, e95, e96, e97, e98, e99, e100, e101, e102, e103, e104, e105, e106, e107, e108, e109, e110, e111, e112, e113, e114, e115, e116, e117, e118, e119, e131, e132, e133, e134, e135, e136, e137, e138, e145, e146, e147, e148, e149, e150, e151, e152, e153, e154, e155, e156, e157, e158, e159, e161, e162, e163, e164, e165, e166, fun _ h => by cases h⟩
end Seat
end Rg
end
section
/- Rh, part A: the data of the program as Lean data, and the trees that stand for them. No condition. -/
set_option linter.unusedSimpArgs false
namespace Rg
open Go
abbrev ti (n : Int) : T := .int .i64 n
abbrev tb (b : Bool) : T := .bool b
abbrev ints (l : List Int) : T := .sl (l.map fun n => [ti n])
@[go_sem] theorem beqI (a b : Int) : (a == b) = decide (a = b) := by by_cases h : a = b <;> simp [h]
@[go_sem] theorem bneI (a b : Int) : (a != b) = decide (¬ a = b) := by by_cases h : a = b <;> simp [h]
@[go_sem] theorem wl_1 : IntKind.i64.wrap 1 = 1 := by rw [IntKind.wrap_i64]; rfl
@[go_sem] theorem wl_2 : IntKind.i64.wrap 2 = 2 := by rw [IntKind.wrap_i64]; rfl
@[go_sem] theorem wl_3 : IntKind.i64.wrap 3 = 3 := by rw [IntKind.wrap_i64]; rfl
inductive Expr where
  | mk (op w n : Int) (kids : List Expr)
  deriving Inhabited
namespace Expr
def op : Expr → Int | .mk o _ _ _ => o
def w : Expr → Int | .mk _ w _ _ => w
def n : Expr → Int | .mk _ _ n _ => n
def kids : Expr → List Expr | .mk _ _ _ k => k
@[go_sem] theorem op_mk (o w n : Int) (k : List Expr) : (Expr.mk o w n k).op = o := rfl
@[go_sem] theorem w_mk (o w n : Int) (k : List Expr) : (Expr.mk o w n k).w = w := rfl
@[go_sem] theorem n_mk (o w n : Int) (k : List Expr) : (Expr.mk o w n k).n = n := rfl
@[go_sem] theorem kids_mk (o w n : Int) (k : List Expr) : (Expr.mk o w n k).kids = k := rfl
mutual
def enc : Expr → List T
  | .mk o w n k => [ti o, ti w, ti n, .sl (encs k)]
def encs : List Expr → List (List T)
  | [] => []
  | e :: r => enc e :: encs r
end
theorem encs_eq : ∀ l : List Expr, encs l = l.map enc
  | [] => rfl
  | e :: r => by rw [encs, encs_eq r]; rfl
theorem enc_eq (e : Expr) : e.enc = [ti e.op, ti e.w, ti e.n, .sl (e.kids.map enc)] := by
  cases e; simp only [enc, encs_eq, op, w, n, kids]
mutual
def size : Expr → Nat
  | .mk _ _ _ k => sizes k + 1
def sizes : List Expr → Nat
  | [] => 0
  | e :: r => size e + sizes r
end
theorem sizes_eq : ∀ l : List Expr, sizes l = (l.map size).sum
  | [] => rfl
  | e :: r => by rw [sizes, sizes_eq r]; rfl
theorem size_eq (e : Expr) : e.size = (e.kids.map size).sum + 1 := by
  cases e; simp only [size, sizes_eq, kids]
theorem size_pos (e : Expr) : 0 < e.size := by rw [size_eq]; omega
theorem size_kid {e k : Expr} (h : k ∈ e.kids) : k.size < e.size := by
  rw [size_eq e]
  have : k.size ≤ (e.kids.map size).sum := by
    generalize e.kids = l at h
    induction l with
    | nil => simp at h
    | cons x r ih =>
      simp only [List.map_cons, List.sum_cons]
      rcases List.mem_cons.1 h with rfl | h
      · omega
      · have := ih h; omega
  omega
/-- Induction over expressions. -/
theorem ind {P : Expr → Prop} (h : ∀ e : Expr, (∀ k ∈ e.kids, P k) → P e) : ∀ e, P e := by
  intro e
  generalize hn : e.size = n
  induction n using Nat.strongRecOn generalizing e with
  | _ n ih => exact h e fun k hk => ih k.size (by have := size_kid hk; omega) k rfl
mutual
/-- All nodes satisfy a condition. -/
def allE (f : Expr → Bool) : Expr → Bool
  | .mk o w n k => f (.mk o w n k) && allEs f k
def allEs (f : Expr → Bool) : List Expr → Bool
  | [] => true
  | e :: r => allE f e && allEs f r
end
theorem allEs_eq (f : Expr → Bool) : ∀ l : List Expr, allEs f l = l.all (allE f)
  | [] => rfl
  | e :: r => by rw [allEs, allEs_eq f r]; rfl
theorem allE_eq (f : Expr → Bool) (e : Expr) : allE f e = (f e && e.kids.all (allE f)) := by
  cases e; simp only [allE, allEs_eq, kids]
theorem allE_self {f : Expr → Bool} {e : Expr} (h : allE f e = true) : f e = true := by
  rw [allE_eq] at h; simp only [Bool.and_eq_true] at h; exact h.1
theorem allE_kid {f : Expr → Bool} {e k : Expr} (h : allE f e = true) (hk : k ∈ e.kids) : allE f k = true := by
  rw [allE_eq] at h; simp only [Bool.and_eq_true, List.all_eq_true] at h; exact h.2 k hk
theorem len_le_size (ks : List Expr) : ks.length ≤ (ks.map size).sum := by
  induction ks with
  | nil => simp
  | cons x r ih => have := size_pos x; simp only [List.length_cons, List.map_cons, List.sum_cons]; omega
theorem take_le_size (ks : List Expr) (i : Nat) : ((ks.take i).map size).sum ≤ (ks.map size).sum := by
  induction ks generalizing i with
  | nil => simp
  | cons x r ih => cases i with
    | zero => simp
    | succ i => have := ih i; simp only [List.take_succ_cons, List.map_cons, List.sum_cons]; omega
/-- The width of a kid. -/
def kw (e : Expr) (i : Nat) : Int := (e.kids.getD i (.mk 0 0 0 [])).w
end Expr
structure Cell where
  name : ByteArray
  w : Int
  init : Int
  thread : Int
  ghost : Bool
  module : Int
  deriving Inhabited
def Cell.enc (c : Cell) : List T := [.str c.name, ti c.w, ti c.init, ti c.thread, tb c.ghost, ti c.module]
structure Assign where
  cell : Int
  to : Expr
  deriving Inhabited
def Assign.enc (a : Assign) : List T := ti a.cell :: a.to.enc
structure Step where
  kind : Int
  fr : Int
  to : Int
  guard : Expr
  set : List Assign
  release : Bool
  target : Int
  module : Int
  deriving Inhabited
def Step.enc (s : Step) : List T := [ti s.kind, ti s.fr, ti s.to] ++ s.guard.enc ++ [.sl (s.set.map Assign.enc), tb s.release, ti s.target, ti s.module]
structure Loop where
  head : Int
  body : List Int
  variant : Expr
  deriving Inhabited
def Loop.enc (l : Loop) : List T := [ti l.head, ints l.body] ++ l.variant.enc
structure Thread where
  name : ByteArray
  points : Int
  asserts : List Expr
  modules : List Int
  steps : List Step
  loops : List Loop
  asleep : Bool
  deriving Inhabited
def Thread.enc (t : Thread) : List T :=
  [.str t.name, ti t.points, .sl (t.asserts.map Expr.enc), ints t.modules, .sl (t.steps.map Step.enc), .sl (t.loops.map Loop.enc), tb t.asleep]
structure Contract where
  name : ByteArray
  owner : ByteArray
  rely : Expr
  guar : Expr
  frame : List Int
  deriving Inhabited
def Contract.enc (c : Contract) : List T := [.str c.name, .str c.owner] ++ c.rely.enc ++ c.guar.enc ++ [ints c.frame]
structure Lock where
  cell : Int
  inv : Expr
  module : Int
  deriving Inhabited
def Lock.enc (l : Lock) : List T := [ti l.cell] ++ l.inv.enc ++ [ti l.module]
structure Prog where
  cells : List Cell
  modules : List Contract
  locks : List Lock
  threads : List Thread
  deriving Inhabited
def Prog.enc (p : Prog) : List T := [.sl (p.cells.map Cell.enc), .sl (p.modules.map Contract.enc), .sl (p.locks.map Lock.enc), .sl (p.threads.map Thread.enc)]
structure Entry where
  cells : List Int
  values : List Int
  deriving Inhabited, DecidableEq
def Entry.enc (e : Entry) : List T := [ints e.cells, ints e.values]
structure Config where
  mem : List Int
  at_ : List Int
  buf : List (List Entry)
  deriving Inhabited, DecidableEq
def Config.enc (c : Config) : List T := [ints c.mem, ints c.at_, .sl (c.buf.map fun b => [.sl (b.map Entry.enc)])]
structure Choice where
  thread : Int
  step : Int
  cell : Int
  deriving Inhabited, DecidableEq
def Choice.enc (c : Choice) : List T := [ti c.thread, ti c.step, ti c.cell]
attribute [go_sem] Expr.enc_eq Cell.enc Assign.enc Step.enc Loop.enc Thread.enc Contract.enc Lock.enc Prog.enc Entry.enc Config.enc Choice.enc
/-- A struct as a value. -/
def ag (l : List T) : V := .agg (l.map V.t)
theorem wrapS (i : Nat) (h : i < 2 ^ 62) : IntKind.i64.wrap ((i : Int) + 1) = ((i + 1 : Nat) : Int) := by rw [wrap64 (by omega)]; omega
theorem take_succ_of {α : Type} {l : List α} {i : Nat} {x : α} (h : l[i]? = some x) : l.take (i + 1) = l.take i ++ [x] := by
  rw [List.take_add_one, h]; rfl
theorem pow2_le {i k : Nat} (h : i ≤ k) : (2 : Int) ^ i ≤ 2 ^ k := by
  have := Nat.pow_le_pow_right (n := 2) (by omega) h
  exact_mod_cast this
theorem pow2_pos (i : Nat) : 0 < (2 : Int) ^ i := Int.pow_pos (by omega)
theorem get_of {α : Type} {l : List α} {i : Nat} (h : i < l.length) : ∃ x, l[i]? = some x ∧ x ∈ l := ⟨l[i], List.getElem?_eq_getElem h, List.getElem_mem h⟩
end Rg
end
section
/- Rg, bridge, part A: what a statement's reading of an argument says: it stands for a tree. No condition. -/
namespace Rg
open Go
section
variable {H : Type} (enc : TypeId × Value → H) (P : Program) (W : World) (nm : Nat → Nat)
/-- A row of trees stands for a row of cells. -/
def Reps (cs : List Value) (xs : List T) : Prop :=
  cs.length = xs.length ∧ ∀ (j : Nat) (x : T), xs[j]? = some x → ∃ v, cs[j]? = some v ∧ RepT W (fun r => r < W.heap.size) nm v x
/-- Whatever is read at a type stands for something of a kind. -/
def Rd {α : Type} (n : Nat) (t : TypeId) (f : α → List T) (good : α → Prop) : Prop :=
  ∀ (cs : List Value) (x : DataW H × List MemPlace), DataW.trod enc P W 0 (fun _ => true) true n t cs = some x → (x.1.weights P t).all (· ≤ reachBytes) = true → ∃ a, good a ∧ Reps W nm cs (f a)
/-- Types, their places among the fields of a struct of 'tot' cells. -/
def RdF {α : Type} (n tot : Nat) (fs : List (TypeId × Nat)) (off : Nat) (f : α → List T) (good : α → Prop) : Prop :=
  ∀ (cs : List Value) (xs : List (DataW H × List MemPlace)), cs.length = tot → xs.length = fs.length →
    (∀ (i : Nat) (fd : TypeId × Nat), fs[i]? = some fd → DataW.trod enc P W 0 (fun _ => true) true n fd.1 ((cs.drop fd.2).take (P.cellsOf fd.1)) = xs[i]?) →
    (DataW.weightsEach P (fs.map (·.1)) (xs.map (·.1))).all (· ≤ reachBytes) = true → ∃ a, good a ∧ Reps W nm (cs.drop off) (f a)
end
section
variable {H : Type} {enc : TypeId × Value → H} {P : Program} {W : World} {nm : Nat → Nat}
theorem Reps.one {v : Value} {x : T} (h : RepT W (fun r => r < W.heap.size) nm v x) : Reps W nm [v] [x] :=
  ⟨rfl, fun j y hj => by
    cases j with
    | zero => simp at hj; subst hj; exact ⟨v, rfl, h⟩
    | succ j => simp at hj⟩
theorem Reps.append {cs ds : List Value} {xs ys : List T} (h : Reps W nm cs xs) (h' : Reps W nm ds ys) : Reps W nm (cs ++ ds) (xs ++ ys) := by
  refine ⟨by simp [h.1, h'.1], fun j x hj => ?_⟩
  rw [List.getElem?_append] at hj ⊢
  rw [h.1]
  split at hj
  · rename_i hlt; rw [if_pos hlt]; exact h.2 j x hj
  · rename_i hlt; rw [if_neg hlt]; exact h'.2 _ x hj
theorem rd_int {k : IntKind} {t : TypeId} (ht : P.underlying t = some (.int k)) (n : Nat) : Rd enc P W nm n t (fun i : Int => [.int k i]) (fun i => (Lit.int k i).wf = true) := by
  intro cs x h _
  obtain ⟨i, rfl, _, hw⟩ := DataW.trod_int ht h
  exact ⟨i, hw, .one (.int k i)⟩
theorem rd_bool {t : TypeId} (ht : P.underlying t = some .bool) (n : Nat) : Rd enc P W nm n t (fun b : Bool => [.bool b]) (fun _ => True) := by
  intro cs x h _
  obtain ⟨b, rfl, _⟩ := DataW.trod_bool ht h
  exact ⟨b, trivial, .one (.bool b)⟩
theorem rd_str {t : TypeId} (ht : P.underlying t = some .string) (n : Nat) : Rd enc P W nm n t (fun s : ByteArray => [.str s]) (fun s => s.size ≤ reachBytes) := by
  intro cs x h hw
  obtain ⟨s, rfl, rfl, _⟩ := DataW.trod_string ht h
  refine ⟨s, ?_, .one (.str s)⟩
  simp only [DataW.weights, List.all_cons, List.all_nil, Bool.and_true, decide_eq_true_eq] at hw
  rw [Array.length_toList] at hw
  exact hw
theorem weightsAll_mem {e : TypeId} : ∀ {l : List (DataW H)}, (DataW.weightsAll P e l).all (· ≤ reachBytes) = true → ∀ d ∈ l, (d.weights P e).all (· ≤ reachBytes) = true
  | [], _, d, hd => by simp at hd
  | x :: r, h, d, hd => by
    rw [DataW.weightsAll, List.all_append, Bool.and_eq_true] at h
    rcases List.mem_cons.1 hd with rfl | hd
    · exact h.1
    · exact weightsAll_mem h.2 d hd
theorem cells?_get {base : Nat} {a : Addr} {n : Nat} {cs : List Value} (h : W.cells? base a n = some cs) : cs.length = n ∧ ∀ j, j < n → W.cell? (a.add j) = cs[j]? := by
  unfold World.cells? at h
  split at h
  · exact ⟨by simpa using mapM_some_length h, fun j hj => by simpa using mapM_some_get h j j (by simp [hj])⟩
  · simp at h
theorem cell?_spot {a : Addr} {v : Value} (h : W.cell? a = some v) : a.spot = none ∧ a.block < W.heap.size := by
  unfold World.cell? at h
  split at h
  · rename_i hb
    split at h
    · simp at h
    · rename_i hs
      refine ⟨by cases hsp : a.spot <;> simp_all, ?_⟩
      have := Array.getElem?_eq_some_iff.1 hb
      exact this.1
  · simp at h
theorem choose_list {α : Type} {Q : Nat → α → Prop} : ∀ (n : Nat), (∀ i, i < n → ∃ a, Q i a) → ∃ l : List α, l.length = n ∧ ∀ (i : Nat) (a : α), l[i]? = some a → Q i a
  | 0, _ => ⟨[], rfl, fun i a h => by simp at h⟩
  | n + 1, h => by
    obtain ⟨l, hl, hq⟩ := choose_list n (fun i hi => h i (by omega))
    obtain ⟨a, ha⟩ := h n (by omega)
    refine ⟨l ++ [a], by simp [hl], fun i b hb => ?_⟩
    rw [List.getElem?_append] at hb
    split at hb
    · exact hq i b hb
    · rename_i hlt
      have : i = n := by
        have := (List.getElem?_eq_some_iff.1 hb).1
        simp at this; omega
      subst this
      simp [hl] at hb
      exact hb ▸ ha
theorem rd_slice {α : Type} {t e : TypeId} {f : α → List T} {good : α → Prop} (ht : P.underlying t = some (.slice e)) (hb : 0 < P.bytesOf e) (hc : 0 < P.cellsOf e) (n : Nat) (h : ∀ m, m < n → Rd enc P W nm m e f good) :
    Rd enc P W nm n t (fun l : List α => [.sl (l.map f)]) (fun l => l.length ≤ reachBytes ∧ ∀ a ∈ l, good a) := by
  intro cs x htr hw
  rcases DataW.trod_slice ht htr with ⟨rfl, _⟩ | ⟨a, len, cap, elems, rest, m, rfl, rfl, rfl, _, hlc, _, hel, hread, _, _⟩
  · exact ⟨[], ⟨by simp, by simp⟩, .one (.sl0 none 0)⟩
  · simp only [DataW.weights, ht, List.all_cons, List.all_append, Bool.and_eq_true, decide_eq_true_eq, List.length_map] at hw
    have hpt : ∀ i, i < len → ∃ b : α, good b ∧ ∃ ci, W.cells? 0 (a.add (i * P.cellsOf e)) (P.cellsOf e) = some ci ∧ Reps W nm ci (f b) := by
      intro i hi
      have h1 := hread i hi
      obtain ⟨z, hz⟩ : ∃ z, elems[i]? = some z := ⟨_, List.getElem?_eq_getElem (by omega)⟩
      rw [hz, Option.bind_eq_some_iff] at h1
      obtain ⟨ci, hci, htz⟩ := h1
      have hwz := weightsAll_mem hw.2.1 z.1 (List.mem_map.2 ⟨z, List.mem_of_getElem? hz, rfl⟩)
      obtain ⟨b, hg, hr⟩ := h m (by omega) ci z htz hwz
      exact ⟨b, hg, ci, hci, hr⟩
    obtain ⟨l, hl, hq⟩ := choose_list len hpt
    refine ⟨l, ⟨?_, fun b hb => ?_⟩, .one ?_⟩
    · have : elems.length * 1 ≤ (elems.length + rest.length) * P.bytesOf e := Nat.mul_le_mul (by omega) hb
      omega
    · obtain ⟨i, hi⟩ := List.getElem?_of_mem hb
      exact (hq i b hi).1
    · by_cases h0 : len = 0
      · subst h0
        have : l = [] := List.length_eq_zero_iff.1 hl
        subst this
        exact .sl0 _ _
      · have hfl : ∀ (i : Nat) (b : α), l[i]? = some b → (f b).length = P.cellsOf e := by
          intro i b hi
          obtain ⟨_, ci, hci, hr⟩ := hq i b hi
          rw [← hr.1, (cells?_get hci).1]
        have hcell : ∀ (i j : Nat) (b : α), l[i]? = some b → j < P.cellsOf e → ∃ v, W.cell? ((a.add (i * P.cellsOf e)).add j) = some v ∧ ∀ x, (f b)[j]? = some x → RepT W (fun r => r < W.heap.size) nm v x := by
          intro i j b hi hj
          obtain ⟨_, ci, hci, hr⟩ := hq i b hi
          have hg := cells?_get hci
          obtain ⟨v, hv⟩ : ∃ v, ci[j]? = some v := ⟨_, List.getElem?_eq_getElem (by omega)⟩
          refine ⟨v, by rw [hg.2 j hj, hv], fun x hx => ?_⟩
          obtain ⟨u, hu, hru⟩ := hr.2 j x hx
          rw [hv] at hu; cases hu; exact hru
        obtain ⟨b0, hb0⟩ : ∃ b, l[0]? = some b := ⟨_, List.getElem?_eq_getElem (by omega)⟩
        obtain ⟨v0, hv0, _⟩ := hcell 0 0 b0 hb0 hc
        have ha0 : (a.add (0 * P.cellsOf e)).add 0 = a := by simp [Addr.add]
        rw [ha0] at hv0
        obtain ⟨hsp, hblk⟩ := cell?_spot hv0
        obtain ⟨r, off, spot⟩ := a
        simp only at hsp hblk
        subst hsp
        have hadd : ∀ i j, ((⟨r, off, none⟩ : Addr).add (i * P.cellsOf e)).add j = ⟨r, off + i * P.cellsOf e + j, none⟩ := by
          intro i j
          unfold Addr.add
          split <;> split <;> simp_all
        have hlen : (l.map f).length = len := by simp [hl]
        rw [show Value.slice (some ⟨r, off, none⟩) len cap = Value.slice (some ⟨r, off, none⟩) (l.map f).length cap by rw [hlen]]
        refine .sl r off cap (P.cellsOf e) (l.map f) (fun i j => (W.cell? ⟨r, off + i * P.cellsOf e + j, none⟩).getD .nilFunc) (by omega) (by omega) hblk ?_ ?_ ?_
        · intro i y hy
          rw [List.getElem?_map, Option.map_eq_some_iff] at hy
          obtain ⟨b, hb, rfl⟩ := hy
          exact hfl i b hb
        · intro i y j x hy hx
          rw [List.getElem?_map, Option.map_eq_some_iff] at hy
          obtain ⟨b, hb, rfl⟩ := hy
          have hj := (List.getElem?_eq_some_iff.1 hx).1
          rw [hfl i b hb] at hj
          obtain ⟨v, hv, _⟩ := hcell i j b hb hj
          rw [hadd] at hv
          rw [hv]; rfl
        · intro i y j x hy hx
          rw [List.getElem?_map, Option.map_eq_some_iff] at hy
          obtain ⟨b, hb, rfl⟩ := hy
          have hj := (List.getElem?_eq_some_iff.1 hx).1
          rw [hfl i b hb] at hj
          obtain ⟨v, hv, hr⟩ := hcell i j b hb hj
          rw [hadd] at hv
          rw [hv]; exact hr x hx
theorem rdF_nil {n tot : Nat} : RdF enc P W nm n tot [] tot (fun _ : Unit => []) (fun _ => True) := by
  intro cs xs hl _ _ _
  refine ⟨(), trivial, ?_⟩
  rw [List.drop_of_length_le (by omega)]
  exact ⟨rfl, fun j x h => by simp at h⟩
theorem rdF_cons {α β : Type} {n tot off sz : Nat} {t : TypeId} {fs : List (TypeId × Nat)} {f : α → List T} {good : α → Prop} {g : β → List T} {good' : β → Prop}
    (hsz : P.cellsOf t = sz) (h : Rd enc P W nm n t f good) (h' : RdF enc P W nm n tot fs (off + sz) g good') :
    RdF enc P W nm n tot ((t, off) :: fs) off (fun q : α × β => f q.1 ++ g q.2) (fun q => good q.1 ∧ good' q.2) := by
  intro cs xs hl hxl hx hw
  cases xs with
  | nil => simp at hxl
  | cons x r =>
    have h0 := hx 0 (t, off) rfl
    simp only [List.getElem?_cons_zero, hsz] at h0
    rw [List.map_cons, List.map_cons, DataW.weightsEach, List.all_append, Bool.and_eq_true] at hw
    obtain ⟨a, ha, hra⟩ := h _ x h0 hw.1
    obtain ⟨b, hb, hrb⟩ := h' cs r hl (by simpa using hxl) (fun i fd hi => by simpa using hx (i + 1) fd (by simpa using hi)) hw.2
    refine ⟨(a, b), ⟨ha, hb⟩, ?_⟩
    have : cs.drop off = (cs.drop off).take sz ++ cs.drop (off + sz) := by rw [← List.drop_drop, List.take_append_drop]
    rw [this]
    exact hra.append hrb
theorem rd_struct {α : Type} {t : TypeId} {fs : List (TypeId × Nat)} {tot : Nat} {f : α → List T} {good : α → Prop}
    (ht : (match P.underlying t with | some (.struct a) => decide (a.toList.map (fun x => (x.type, x.offset)) = fs) | _ => false) = true) (htot : P.cellsOf t = tot) (n : Nat)
    (h : ∀ m, m < n → RdF enc P W nm m tot fs 0 f good) : Rd enc P W nm n t f good := by
  intro cs x htr hw
  split at ht
  · rename_i a hu
    rw [decide_eq_true_eq] at ht
    obtain ⟨xs, m, rfl, rfl, hl, hxl, hx⟩ := DataW.trod_struct hu htr
    subst ht
    have := h m (by omega) cs xs (by omega) (by simp [hxl]) (fun i fd hi => by
      rw [List.getElem?_map, Option.map_eq_some_iff] at hi
      obtain ⟨f', hf', rfl⟩ := hi
      exact hx i f' (by simpa using hf')) (by
      simp only [DataW.weights, hu] at hw
      rw [List.map_map]
      exact hw)
    simpa using this
  · simp at ht
theorem Rd.conv {α β : Type} {t : TypeId} {n : Nat} {f : α → List T} {good : α → Prop} {g : β → List T} {good' : β → Prop} (h : Rd enc P W nm n t f good) (hc : ∀ a, good a → ∃ b, good' b ∧ f a = g b) : Rd enc P W nm n t g good' := by
  intro cs x htr hw
  obtain ⟨a, ha, hr⟩ := h cs x htr hw
  obtain ⟨b, hb, he⟩ := hc a ha
  exact ⟨b, hb, he ▸ hr⟩
end
end Rg
end
section
/- Rg, bridge, part B: the types of the arguments. No condition. -/
namespace Rg
open Go
/-- The numbers of the types in a program. -/
structure Tys where
  int : Nat
  bool : Nat
  str : Nat
  u8 : Nat
  ints : Nat
  bytes : Nat
  expr : Nat
  exprs : Nat
  cell : Nat
  cells : Nat
  assign : Nat
  assigns : Nat
  step : Nat
  steps : Nat
  loop : Nat
  loops : Nat
  thread : Nat
  threads : Nat
  contract : Nat
  contracts : Nat
  lock : Nat
  locks : Nat
  prog : Nat
  entry : Nat
  entries : Nat
  bufs : Nat
  config : Nat
  choice : Nat
def isInt (P : Program) (t : TypeId) (k : IntKind) : Bool := (match P.underlying t with | some (.int k') => decide (k' = k) | _ => false) && decide (P.cellsOf t = 1)
def isBool (P : Program) (t : TypeId) : Bool := (match P.underlying t with | some .bool => true | _ => false) && decide (P.cellsOf t = 1)
def isStr (P : Program) (t : TypeId) : Bool := (match P.underlying t with | some .string => true | _ => false) && decide (P.cellsOf t = 1)
def isSl (P : Program) (t e : TypeId) : Bool := (match P.underlying t with | some (.slice e') => decide (e' = e) | _ => false) && decide (0 < P.bytesOf e) && decide (0 < P.cellsOf e) && decide (P.cellsOf t = 1)
def isSt (P : Program) (t : TypeId) (tot : Nat) (fs : List (TypeId × Nat)) : Bool :=
  (match P.underlying t with | some (.struct a) => decide (a.toList.map (fun x => (x.type, x.offset)) = fs) | _ => false) && decide (P.cellsOf t = tot)
structure Tys.Ok (P : Program) (y : Tys) : Prop where
  int : isInt P y.int .i64 = true
  bool : isBool P y.bool = true
  str : isStr P y.str = true
  u8 : isInt P y.u8 .u8 = true
  ints : isSl P y.ints y.int = true
  bytes : isSl P y.bytes y.u8 = true
  expr : isSt P y.expr 4 [(y.int, 0), (y.int, 1), (y.int, 2), (y.exprs, 3)] = true
  exprs : isSl P y.exprs y.expr = true
  cell : isSt P y.cell 6 [(y.str, 0), (y.int, 1), (y.int, 2), (y.int, 3), (y.bool, 4), (y.int, 5)] = true
  cells : isSl P y.cells y.cell = true
  assign : isSt P y.assign 5 [(y.int, 0), (y.expr, 1)] = true
  assigns : isSl P y.assigns y.assign = true
  step : isSt P y.step 11 [(y.int, 0), (y.int, 1), (y.int, 2), (y.expr, 3), (y.assigns, 7), (y.bool, 8), (y.int, 9), (y.int, 10)] = true
  steps : isSl P y.steps y.step = true
  loop : isSt P y.loop 6 [(y.int, 0), (y.ints, 1), (y.expr, 2)] = true
  loops : isSl P y.loops y.loop = true
  thread : isSt P y.thread 7 [(y.str, 0), (y.int, 1), (y.exprs, 2), (y.ints, 3), (y.steps, 4), (y.loops, 5), (y.bool, 6)] = true
  threads : isSl P y.threads y.thread = true
  contract : isSt P y.contract 11 [(y.str, 0), (y.str, 1), (y.expr, 2), (y.expr, 6), (y.ints, 10)] = true
  contracts : isSl P y.contracts y.contract = true
  lock : isSt P y.lock 6 [(y.int, 0), (y.expr, 1), (y.int, 5)] = true
  locks : isSl P y.locks y.lock = true
  prog : isSt P y.prog 4 [(y.cells, 0), (y.contracts, 1), (y.locks, 2), (y.threads, 3)] = true
  entry : isSt P y.entry 2 [(y.ints, 0), (y.ints, 1)] = true
  entries : isSl P y.entries y.entry = true
  bufs : isSl P y.bufs y.entries = true
  config : isSt P y.config 3 [(y.ints, 0), (y.ints, 1), (y.bufs, 2)] = true
  choice : isSt P y.choice 3 [(y.int, 0), (y.int, 1), (y.int, 2)] = true
section
variable {P : Program} {t e : TypeId} {k : IntKind}
theorem isInt.u (h : isInt P t k = true) : P.underlying t = some (.int k) := by
  simp only [isInt, Bool.and_eq_true] at h
  have h := h.1
  split at h
  · rename_i hu; rw [hu, of_decide_eq_true h]
  · simp at h
theorem isInt.c (h : isInt P t k = true) : P.cellsOf t = 1 := by
  simp only [isInt, Bool.and_eq_true, decide_eq_true_eq] at h; exact h.2
theorem isBool.u (h : isBool P t = true) : P.underlying t = some .bool := by
  simp only [isBool, Bool.and_eq_true] at h
  have h := h.1
  split at h
  · rename_i hu; exact hu
  · simp at h
theorem isBool.c (h : isBool P t = true) : P.cellsOf t = 1 := by
  simp only [isBool, Bool.and_eq_true, decide_eq_true_eq] at h; exact h.2
theorem isStr.u (h : isStr P t = true) : P.underlying t = some .string := by
  simp only [isStr, Bool.and_eq_true] at h
  have h := h.1
  split at h
  · rename_i hu; exact hu
  · simp at h
theorem isStr.c (h : isStr P t = true) : P.cellsOf t = 1 := by
  simp only [isStr, Bool.and_eq_true, decide_eq_true_eq] at h; exact h.2
theorem isSl.u (h : isSl P t e = true) : P.underlying t = some (.slice e) := by
  simp only [isSl, Bool.and_eq_true] at h
  have h := h.1.1.1
  split at h
  · rename_i hu; rw [hu, of_decide_eq_true h]
  · simp at h
theorem isSl.p (h : isSl P t e = true) : 0 < P.bytesOf e ∧ 0 < P.cellsOf e ∧ P.cellsOf t = 1 := by
  simp only [isSl, Bool.and_eq_true, decide_eq_true_eq] at h; exact ⟨h.1.1.2, h.1.2, h.2⟩
theorem isSl.c (h : isSl P t e = true) : P.cellsOf t = 1 := (isSl.p h).2.2
theorem isSt.c {tot : Nat} {fs : List (TypeId × Nat)} (h : isSt P t tot fs = true) : P.cellsOf t = tot := by
  simp only [isSt, Bool.and_eq_true, decide_eq_true_eq] at h; exact h.2
end
section
variable {H : Type} {enc : TypeId × Value → H} {P : Program} {W : World} {nm : Nat → Nat} {y : Tys}
theorem rd_sl {α : Type} {t e : TypeId} {f : α → List T} {good : α → Prop} (h : isSl P t e = true) (n : Nat) (hr : ∀ m, m < n → Rd enc P W nm m e f good) :
    Rd enc P W nm n t (fun l : List α => [.sl (l.map f)]) (fun l => l.length ≤ reachBytes ∧ ∀ a ∈ l, good a) := rd_slice (isSl.u h) (isSl.p h).1 (isSl.p h).2.1 n hr
theorem rd_st {α : Type} {t : TypeId} {fs : List (TypeId × Nat)} {tot : Nat} {f : α → List T} {good : α → Prop} (h : isSt P t tot fs = true) (n : Nat)
    (hr : ∀ m, m < n → RdF enc P W nm m tot fs 0 f good) : Rd enc P W nm n t f good := by
  have hc := isSt.c h
  simp only [isSt, Bool.and_eq_true] at h
  exact rd_struct h.1 hc n hr
theorem rd_i (hy : y.Ok P) (n : Nat) : Rd enc P W nm n y.int (fun i : Int => [ti i]) (fun _ => True) :=
  (rd_int (isInt.u hy.int) n).conv fun i _ => ⟨i, trivial, rfl⟩
theorem rd_b (hy : y.Ok P) (n : Nat) : Rd enc P W nm n y.bool (fun b : Bool => [tb b]) (fun _ => True) := rd_bool (isBool.u hy.bool) n
theorem rd_s (hy : y.Ok P) (n : Nat) : Rd enc P W nm n y.str (fun s : ByteArray => [.str s]) (fun s => s.size ≤ reachBytes) := rd_str (isStr.u hy.str) n
theorem rd_ints (hy : y.Ok P) (n : Nat) : Rd enc P W nm n y.ints (fun l : List Int => [ints l]) (fun _ => True) :=
  (rd_sl hy.ints n fun m _ => rd_i hy m).conv fun l _ => ⟨l, trivial, rfl⟩
theorem rd_u8 (hy : y.Ok P) (n : Nat) : Rd enc P W nm n y.u8 (fun i : Int => [.int .u8 i]) (fun i => 0 ≤ i ∧ i < 256) :=
  (rd_int (isInt.u hy.u8) n).conv fun i h => ⟨i, by simp [Lit.wf, IntKind.min, IntKind.max, IntKind.signed, IntKind.bits] at h; omega, rfl⟩
theorem rd_bytes (hy : y.Ok P) (n : Nat) : Rd enc P W nm n y.bytes (fun l : List Int => [.sl (l.map fun n => [.int .u8 n])]) (fun l => ∀ k ∈ l, 0 ≤ k ∧ k < 256) :=
  (rd_sl hy.bytes n fun m _ => rd_u8 hy m).conv fun l h => ⟨l, h.2, rfl⟩
theorem rd_expr (hy : y.Ok P) (n : Nat) : Rd enc P W nm n y.expr Expr.enc (fun _ => True) := by
  induction n using Nat.strongRecOn with
  | _ n ih =>
    refine (rd_st hy.expr n fun m hm => rdF_cons (isInt.c hy.int) (rd_i hy m) (rdF_cons (isInt.c hy.int) (rd_i hy m) (rdF_cons (isInt.c hy.int) (rd_i hy m) (rdF_cons (isSl.c hy.exprs) (rd_sl hy.exprs m fun j hj => ih j (by omega)) rdF_nil)))).conv ?_
    rintro ⟨op, w, k, ks, u⟩ _
    exact ⟨.mk op w k ks, trivial, (Expr.enc_eq (.mk op w k ks)).symm⟩
theorem rd_exprs (hy : y.Ok P) (n : Nat) : Rd enc P W nm n y.exprs (fun l : List Expr => [.sl (l.map Expr.enc)]) (fun _ => True) :=
  (rd_sl hy.exprs n fun m _ => rd_expr hy m).conv fun l _ => ⟨l, trivial, rfl⟩
theorem rd_cell (hy : y.Ok P) (n : Nat) : Rd enc P W nm n y.cell Cell.enc (fun c => c.name.size ≤ reachBytes) := by
  refine (rd_st hy.cell n fun m hm => rdF_cons (isStr.c hy.str) (rd_s hy m) (rdF_cons (isInt.c hy.int) (rd_i hy m) (rdF_cons (isInt.c hy.int) (rd_i hy m) (rdF_cons (isInt.c hy.int) (rd_i hy m) (rdF_cons (isBool.c hy.bool) (rd_b hy m) (rdF_cons (isInt.c hy.int) (rd_i hy m) rdF_nil)))))).conv ?_
  rintro ⟨a, b, c, d, e, f, u⟩ h
  exact ⟨⟨a, b, c, d, e, f⟩, h.1, rfl⟩
theorem rd_assign (hy : y.Ok P) (n : Nat) : Rd enc P W nm n y.assign Assign.enc (fun _ => True) := by
  refine (rd_st hy.assign n fun m hm => rdF_cons (isInt.c hy.int) (rd_i hy m) (rdF_cons (isSt.c hy.expr) (rd_expr hy m) rdF_nil)).conv ?_
  rintro ⟨a, b, u⟩ h
  exact ⟨⟨a, b⟩, trivial, by simp [Assign.enc]⟩
theorem rd_assigns (hy : y.Ok P) (n : Nat) : Rd enc P W nm n y.assigns (fun l : List Assign => [.sl (l.map Assign.enc)]) (fun _ => True) :=
  (rd_sl hy.assigns n fun m _ => rd_assign hy m).conv fun l _ => ⟨l, trivial, rfl⟩
theorem rd_step (hy : y.Ok P) (n : Nat) : Rd enc P W nm n y.step Step.enc (fun _ => True) := by
  refine (rd_st hy.step n fun m hm => rdF_cons (isInt.c hy.int) (rd_i hy m) (rdF_cons (isInt.c hy.int) (rd_i hy m) (rdF_cons (isInt.c hy.int) (rd_i hy m) (rdF_cons (isSt.c hy.expr) (rd_expr hy m) (rdF_cons (isSl.c hy.assigns) (rd_assigns hy m) (rdF_cons (isBool.c hy.bool) (rd_b hy m)
    (rdF_cons (isInt.c hy.int) (rd_i hy m) (rdF_cons (isInt.c hy.int) (rd_i hy m) rdF_nil)))))))).conv ?_
  rintro ⟨a, b, c, d, e, f, g, i, u⟩ h
  exact ⟨⟨a, b, c, d, e, f, g, i⟩, trivial, by simp [Step.enc]⟩
theorem rd_loop (hy : y.Ok P) (n : Nat) : Rd enc P W nm n y.loop Loop.enc (fun _ => True) := by
  refine (rd_st hy.loop n fun m hm => rdF_cons (isInt.c hy.int) (rd_i hy m) (rdF_cons (isSl.c hy.ints) (rd_ints hy m) (rdF_cons (isSt.c hy.expr) (rd_expr hy m) rdF_nil))).conv ?_
  rintro ⟨a, b, c, u⟩ h
  exact ⟨⟨a, b, c⟩, trivial, by simp [Loop.enc]⟩
theorem rd_thread (hy : y.Ok P) (n : Nat) : Rd enc P W nm n y.thread Thread.enc (fun x => x.name.size ≤ reachBytes ∧ x.steps.length ≤ reachBytes) := by
  refine (rd_st hy.thread n fun m hm => rdF_cons (isStr.c hy.str) (rd_s hy m) (rdF_cons (isInt.c hy.int) (rd_i hy m) (rdF_cons (isSl.c hy.exprs) (rd_exprs hy m) (rdF_cons (isSl.c hy.ints) (rd_ints hy m)
    (rdF_cons (isSl.c hy.steps) (rd_sl hy.steps m fun j _ => rd_step hy j) (rdF_cons (isSl.c hy.loops) (rd_sl hy.loops m fun j _ => rd_loop hy j) (rdF_cons (isBool.c hy.bool) (rd_b hy m) rdF_nil))))))).conv ?_
  rintro ⟨a, b, c, d, e, f, g, u⟩ h
  exact ⟨⟨a, b, c, d, e, f, g⟩, ⟨h.1, h.2.2.2.2.1.1⟩, rfl⟩
theorem rd_contract (hy : y.Ok P) (n : Nat) : Rd enc P W nm n y.contract Contract.enc (fun x => x.name.size ≤ reachBytes ∧ x.owner.size ≤ reachBytes) := by
  refine (rd_st hy.contract n fun m hm => rdF_cons (isStr.c hy.str) (rd_s hy m) (rdF_cons (isStr.c hy.str) (rd_s hy m) (rdF_cons (isSt.c hy.expr) (rd_expr hy m) (rdF_cons (isSt.c hy.expr) (rd_expr hy m) (rdF_cons (isSl.c hy.ints) (rd_ints hy m) rdF_nil))))).conv ?_
  rintro ⟨a, b, c, d, e, u⟩ h
  exact ⟨⟨a, b, c, d, e⟩, ⟨h.1, h.2.1⟩, by simp [Contract.enc]⟩
theorem rd_lock (hy : y.Ok P) (n : Nat) : Rd enc P W nm n y.lock Lock.enc (fun _ => True) := by
  refine (rd_st hy.lock n fun m hm => rdF_cons (isInt.c hy.int) (rd_i hy m) (rdF_cons (isSt.c hy.expr) (rd_expr hy m) (rdF_cons (isInt.c hy.int) (rd_i hy m) rdF_nil))).conv ?_
  rintro ⟨a, b, c, u⟩ h
  exact ⟨⟨a, b, c⟩, trivial, by simp [Lock.enc]⟩
/-- What the size of a statement's input says of a program. -/
structure Prog.inMem (p : Prog) : Prop where
  cells : ∀ c ∈ p.cells, c.name.size ≤ reachBytes
  modules : ∀ m ∈ p.modules, m.name.size ≤ reachBytes ∧ m.owner.size ≤ reachBytes
  threads : ∀ x ∈ p.threads, x.name.size ≤ reachBytes ∧ x.steps.length ≤ reachBytes
theorem rd_prog (hy : y.Ok P) (n : Nat) : Rd enc P W nm n y.prog Prog.enc Prog.inMem := by
  refine (rd_st hy.prog n fun m hm => rdF_cons (isSl.c hy.cells) (rd_sl hy.cells m fun j _ => rd_cell hy j) (rdF_cons (isSl.c hy.contracts) (rd_sl hy.contracts m fun j _ => rd_contract hy j)
    (rdF_cons (isSl.c hy.locks) (rd_sl hy.locks m fun j _ => rd_lock hy j) (rdF_cons (isSl.c hy.threads) (rd_sl hy.threads m fun j _ => rd_thread hy j) rdF_nil)))).conv ?_
  rintro ⟨a, b, c, d, u⟩ h
  exact ⟨⟨a, b, c, d⟩, ⟨h.1.2, h.2.1.2, h.2.2.2.1.2⟩, rfl⟩
end
end Rg
end
section
/- Rg, bridge, part C: from a pure call of the abstract machine to a statement's call. No condition. -/
namespace Rg
open Go Go.ChangeShapes
section
variable {H : Type} {enc : TypeId × Value → H} {P : Program}
/-- The arguments read behind the call as they read before. -/
theorem trodAll_stays {W W' : World} {sp : Nat → Bool} (hl : laidOutB P = true) : ∀ {ts : List TypeId} {vs : List Value} {ds : List (DataW H)} {ps : List MemPlace},
    (∀ t ∈ ts, P.readableRec t = true ∧ t < P.types.size) → DataW.TrodAll enc P W 0 (fun _ => true) true ts vs ds ps → (∀ p ∈ ps, W.sameAt W' p) → (∀ p ∈ ps, sp p.block = true) → DataW.TrodAll enc P W' 0 sp true ts vs ds ps
  | [], [], [], ps, _, h, _, _ => h
  | t :: ts, v :: vs, d :: ds, ps, hr, h, hs, hp => by
    obtain ⟨p, q, h1, h2, rfl⟩ := h
    exact ⟨p, q, WideElems.Trod_stays hl (hr t List.mem_cons_self).1 (hr t List.mem_cons_self).2 h1 (fun x hx => hs x (List.mem_append_left _ hx)) (fun x hx => hp x (List.mem_append_left _ hx)),
      trodAll_stays hl (fun t ht => hr t (List.mem_cons_of_mem _ ht)) h2 (fun x hx => hs x (List.mem_append_right _ hx)) (fun x hx => hp x (List.mem_append_right _ hx)), rfl⟩
  | [], [], _ :: _, _, _, h, _, _ => by cases h
  | [], _ :: _, _, _, _, h, _, _ => by cases h
  | _ :: _, [], _, _, _, h, _, _ => by cases h
  | _ :: _, _ :: _, [], _, _, h, _, _ => by cases h
theorem same_of_heap {W W' : World} (h : ∀ q, q < W.heap.size → W'.heap[q]? = W.heap[q]?) {p : MemPlace} (hp : p.block < W.heap.size) : W.sameAt W' p := by
  cases p with
  | cell b off => exact cell?_eq (h b hp)
  | map b => exact h b hp
theorem kept_of_heap {W W' : World} (ho : W'.os = W.os) (hu : W'.output = W.output) (h : ∀ q, q < W.heap.size → W'.heap[q]? = W.heap[q]?) (may : MemPlace → Prop) : W.keptBut W' may := by
  refine ⟨ho, hu, fun i hi => ?_⟩
  rw [h i hi]
  split
  · rename_i h1 h2
    rw [h1] at h2; cases h2
    exact ⟨rfl, rfl, rfl, fun _ _ => rfl⟩
  · rename_i h1 h2
    rw [h1] at h2; cases h2
    exact .inr ⟨rfl, rfl⟩
  · rfl
/-- A pure call that gives true answers a statement. -/
theorem calls_true {N : Nam} {g f : Nat} {fn : Func} {s : ChangeSpec} {W : World} {args : Array Value} {ds gs : List (DataW H)} {before : List MemPlace} {av : List V} {tb : TypeId}
    (hp : PureOK P N g av (vb true)) (hg : N.nm g = f) (hG : GlobOK N (fun r => r < W.heap.size) W) (ha : RepArgs W (fun r => r < W.heap.size) N.nm (fun _ => 0) (fun _ => none) args av)
    (hl : laidOutB P = true) (hr : ∀ t ∈ fn.params.toList, P.readableRec t = true ∧ t < P.types.size) (hrt : fn.resultTypes = #[tb]) (htb : P.underlying tb = some .bool)
    (hv : s.vars = []) (hW : DataW.Whole enc P fn.params.toList s.vars false W args.toList ds gs before)
    (hs : gs = [] → s.fn H (ds ++ gs) = { results := [.lit (.bool true)], args := ds }) :
    Calls P f args W fun e W' => ∃ v, e = .returned v ∧ s.post enc P fn false true false false W args v W' := by
  subst hg
  refine (hp _ W args (fun r h => h) hG ha).mono fun e W' ⟨v, he, ⟨ho, hu⟩, hsz, hhp, hrv⟩ => ⟨v, he, ?_⟩
  have hvt : v = .bool true := by
    have h1 : RepT W' _ N.nm v (.bool true) := RepV.t_inv hrv
    cases h1; rfl
  subst hvt
  have hlt := hW.lt
  have hW' := hW
  obtain ⟨p, q, hA, hV, rfl, hfz, hnd⟩ := hW'
  have hgs : gs = [] ∧ q = [] := by rw [hv] at hV; exact trodVars_none hV
  obtain ⟨rfl, rfl⟩ := hgs
  refine ⟨ds, [], p ++ [], [], p, [], hW, ?_, ?_, ?_, kept_of_heap ho hu hhp _, fun h => by cases h⟩
  · rw [hs rfl, hrt]
    exact trodAll_mk1 ⟨1, by simp [DataW.trod, htb, Value.cells]⟩
  · rw [hs rfl]
    refine trodAll_stays hl hr hA (fun x hx => same_of_heap hhp (hlt x (by simpa using hx))) (fun x hx => ?_)
    simpa using hlt x (by simpa using hx)
  · rw [hs rfl, hv]; rfl
end
section
variable {W : World} {nm : Nat → Nat} {A : Nat → Prop} {μ : Nat → Nat} {HO : Nat → Option O}
theorem repArgs_list : ∀ {vs : List Value} {xs : List V}, vs.length = xs.length → (∀ (i : Nat) (x : V) (v : Value), xs[i]? = some x → vs[i]? = some v → RepV W A nm μ HO v x) → RepArgs W A nm μ HO vs.toArray xs
  | vs, xs, hl, h => ⟨by simpa using hl, fun i x hx => by
      have : i < vs.length := by rw [hl]; exact (List.getElem?_eq_some_iff.1 hx).1
      exact ⟨vs[i], by simp, h i x _ hx (by simp)⟩⟩
theorem reps_agg {cs : Array Value} {xs : List T} (h : Reps W nm cs.toList xs) : RepV W (fun r => r < W.heap.size) nm μ HO (.agg cs) (.agg (xs.map V.t)) := by
  refine ⟨cs, rfl, by rw [List.length_map]; exact h.1, fun i c hc => ?_⟩
  rw [List.getElem?_map, Option.map_eq_some_iff] at hc
  obtain ⟨x, hx, rfl⟩ := hc
  obtain ⟨v, hv, hr⟩ := h.2 i x hx
  exact ⟨v, hv, .t hr⟩
theorem reps_one {v : Value} {x : T} (h : Reps W nm [v] [x]) : RepV W (fun r => r < W.heap.size) nm μ HO v (.t x) := by
  obtain ⟨u, hu, hr⟩ := h.2 0 x rfl
  simp at hu; subst hu
  exact RepC.toV (.t hr)
end
end Rg
end

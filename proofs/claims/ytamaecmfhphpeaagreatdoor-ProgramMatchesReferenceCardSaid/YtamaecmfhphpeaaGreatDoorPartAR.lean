/- Part of the proof of the laws of the package relyguardlaw07: an abstract machine for the program's functions, what they compute, and that the machine is the program's. No condition. (SeatR3 RhA RgBa RgBb RgBc) -/
import Derived.Test.YtamaecmfhphpeaaGreatDoorRows
import Derived.KernelRfl
import Derived.Test.YtamaecmfhphpeaaGreatDoorPartAP
import Derived.Test.YtamaecmfhphpeaaGreatDoorPartAQ
import Derived.Test.YtamaecmfhphpeaaGreatDoorPartAN
import Derived.ChangeArms
import GoSem.ClaimJoined
import Derived.ChangeSame
import Derived.WideKeyArgs
import Derived.RowKit
import Derived.LaidLaws
import Derived.Stop.Joined
set_option linter.unusedSimpArgs false
section
set_option maxRecDepth 100000
namespace Rg
open Go Go.Proofs Go.Proofs.YtamaecmfhphpeaaGreatDoor
namespace Seat
def tbl:List Nat:=[2,1000001,1000002,1000003,1000004,1000005,1000006,1000007,1000008,1000009,1000010,1000011,1000012,1000013,1000014,1000015,1000016,1000017,1000018,1000019,1000020,1000021,1000022,45,105,1000025,1000026,38,21,1000029,1000030,19,1000032,100,1000034,1000035,1000036,1000037,1000038,1000039,1000040,1000041,1000042,1000043,1000044,1000045,1000046,81,37,132,1000050,83,1000052,1000053,1000054,1000055,84,71,1000058,1000059,70,42,87,43,14,15,1000066,1000067,82,1000069,122,123,124,125,116,117,85,114,115,47,48,49,50,51,52,53,54,55,56,121,1000090,140,141,137,138,88,74,89,60,90,91,92,93,94,95,96,97,40,98,99,75,101,102,103,104,106,139,1000117,1000118,1000119,160,161,162,163,164,165,166,167,168,169,170,126,127,128,129,130,86,131,72,181,182,183,184,185,186,142,143,144,145,146,147,148,149,150,151,152,78,35,118,119,190,171,172,173,174,175,187,216,1000168,1000169,1000170,1000171,1000172,1000173,1000174,1000175,32,1000177,1000178,1000179,1000180,1000181,1000182,1000183,1000184,1000185,1000186,1000187,1000188,1000189,1000190,1000191,1000192,1000193,1000194,1000195,1000196,1000197,1000198,1000199,1000200,1000201,1000202,1000203,1000204,1000205,1000206,1000207,3,4,5,6,7,8,9,10,11,12,13,16,17,18,20,22,23,24,25,26,27,28,29,30,31,33,34,36,39,41,44,46,57,58,59,61,62,63,64,65,66,67,68,69,73,76,77,79,80,107,108,109,110,111,112,113,120,133,134,135,136,153,154,155,156,158,159,176,177,178,179,188,189]
def I:Inv:=⟨fun f=>tbl.findIdx? (· == f),fun g=>if g=1 then some 0 else if g=0 then some 1 else if g=2 then some 2 else none,some 93⟩
def N:Nam:=⟨fun k=>tbl.getD k 0,fun k=>[1,0,2].getD k 0,G,CR Tryz.prog I,93,5⟩
def raws (s:List Nat):Raws:=⟨[52,53,54,57,60,70,74,75,76,77,83,93,97,120,121,122,123,124,125,127,128,136,139,141,142,143,158,160,199,200,202,203,236,241,244,245,246,258,260,261],s,[32,78,198]⟩
def Ent (q:Nat×F):Prop:=(∃ rf rw L raw,Tryz.prog.funcs[N.nm q.1]? = some rf/\compF Tryz.prog I rw L raw rf=some q.2) \/ ∃ e,q.2.body = .ext e/\ExtOK Tryz.prog N q.1 e
theorem e23:Ent (23,f23):=.inl ⟨Tryz.f45,raws [],[2],false,Tryz.func45,by kernel_rfl⟩
theorem e24:Ent (24,f24):=.inl ⟨Tryz.f105,raws [],[3],false,Tryz.func105,by kernel_rfl⟩
theorem e28:Ent (28,f28):=.inl ⟨Tryz.f21,raws [],[5,1],false,Tryz.func21,by kernel_rfl⟩
theorem e31:Ent (31,f31):=.inl ⟨Tryz.f19,raws [],[6,1],false,Tryz.func19,by kernel_rfl⟩
theorem e33:Ent (33,f33):=.inl ⟨Tryz.f100,raws [],[],false,Tryz.func100,by kernel_rfl⟩
theorem e47:Ent (47,f47):=.inl ⟨Tryz.f81,raws [],[2],false,Tryz.func81,by kernel_rfl⟩
theorem e48:Ent (48,f48):=.inl ⟨Tryz.f37,raws [],[1],false,Tryz.func37,by kernel_rfl⟩
theorem e49:Ent (49,f49):=.inl ⟨Tryz.f132,raws [],[3],false,Tryz.func132,by kernel_rfl⟩
theorem e51:Ent (51,f51):=.inl ⟨Tryz.f83,raws [7],[],false,Tryz.func83,by kernel_rfl⟩
theorem e57:Ent (57,f57):=.inl ⟨Tryz.f71,raws [],[],true,Tryz.func71,by kernel_rfl⟩
theorem e60:Ent (60,f60):=.inl ⟨Tryz.f70,raws [],[],true,Tryz.func70,by kernel_rfl⟩
theorem e61:Ent (61,f61):=.inl ⟨Tryz.f42,raws [],[4],false,Tryz.func42,by kernel_rfl⟩
theorem e62:Ent (62,f62):=.inl ⟨Tryz.f87,raws [],[4],false,Tryz.func87,by kernel_rfl⟩
theorem e63:Ent (63,f63):=.inl ⟨Tryz.f43,raws [],[8,7,6],false,Tryz.func43,by kernel_rfl⟩
theorem e64:Ent (64,f64):=.inl ⟨Tryz.f14,raws [],[13,5,1],false,Tryz.func14,by kernel_rfl⟩
theorem e65:Ent (65,f65):=.inl ⟨Tryz.f15,raws [],[1],false,Tryz.func15,by kernel_rfl⟩
theorem e68:Ent (68,f68):=.inl ⟨Tryz.f82,raws [],[2],false,Tryz.func82,by kernel_rfl⟩
theorem e70:Ent (70,f70):=.inl ⟨Tryz.f122,raws [38],[],true,Tryz.func122,by kernel_rfl⟩
theorem e71:Ent (71,f71):=.inl ⟨Tryz.f123,raws [],[],false,Tryz.func123,by kernel_rfl⟩
theorem e74:Ent (74,f74):=.inr ⟨.sortI,rfl,ext_sort Tryz.lays189 (by kernel_rfl) (rf:=Tryz.f116) ⟨Tryz.func116,by kernel_rfl,by kernel_rfl⟩⟩
theorem e75:Ent (75,f75):=.inr ⟨.compactI,rfl,ext_compact Tryz.lays2n20 (by kernel_rfl) (rf:=Tryz.f117) ⟨Tryz.func117,by kernel_rfl,by kernel_rfl⟩⟩
theorem e76:Ent (76,f76):=.inl ⟨Tryz.f85,raws [13],[],true,Tryz.func85,by kernel_rfl⟩
theorem e77:Ent (77,f77):=.inl ⟨Tryz.f114,raws [],[],true,Tryz.func114,by kernel_rfl⟩
theorem e78:Ent (78,f78):=.inl ⟨Tryz.f115,raws [],[1],true,Tryz.func115,by kernel_rfl⟩
theorem e79:Ent (79,f79):=.inl ⟨Tryz.f47,raws [],[6,4,1],false,Tryz.func47,by kernel_rfl⟩
theorem e80:Ent (80,f80):=.inl ⟨Tryz.f48,raws [],[5,1],false,Tryz.func48,by kernel_rfl⟩
theorem e81:Ent (81,f81):=.inl ⟨Tryz.f49,raws [],[5,1],false,Tryz.func49,by kernel_rfl⟩
theorem e82:Ent (82,f82):=.inl ⟨Tryz.f50,raws [],[6,5,1],false,Tryz.func50,by kernel_rfl⟩
theorem e83:Ent (83,f83):=.inl ⟨Tryz.f51,raws [],[14,12],true,Tryz.func51,by kernel_rfl⟩
theorem e84:Ent (84,f84):=.inl ⟨Tryz.f52,raws [],[5,1],false,Tryz.func52,by kernel_rfl⟩
theorem e85:Ent (85,f85):=.inl ⟨Tryz.f53,raws [],[4,1],false,Tryz.func53,by kernel_rfl⟩
theorem e86:Ent (86,f86):=.inl ⟨Tryz.f54,raws [],[4,1],false,Tryz.func54,by kernel_rfl⟩
theorem e87:Ent (87,f87):=.inl ⟨Tryz.f55,raws [],[4,1],false,Tryz.func55,by kernel_rfl⟩
theorem e88:Ent (88,f88):=.inl ⟨Tryz.f56,raws [],[13,6,2],false,Tryz.func56,by kernel_rfl⟩
theorem e89:Ent (89,f89):=.inl ⟨Tryz.f121,raws [],[1],false,Tryz.func121,by kernel_rfl⟩
theorem e91:Ent (91,f91):=.inl ⟨Tryz.f140,raws [],[],false,Tryz.func140,by kernel_rfl⟩
theorem e95:Ent (95,f95):=.inl ⟨Tryz.f88,raws [],[],false,Tryz.func88,by kernel_rfl⟩
theorem e96:Ent (96,f96):=.inl ⟨Tryz.f74,raws [],[],false,Tryz.func74,by kernel_rfl⟩
theorem e97:Ent (97,f97):=.inl ⟨Tryz.f89,raws [],[5],true,Tryz.func89,by kernel_rfl⟩
theorem e98:Ent (98,f98):=.inl ⟨Tryz.f60,raws [],[1],false,Tryz.func60,by kernel_rfl⟩
theorem e99:Ent (99,f99):=.inl ⟨Tryz.f90,raws [],[5,4],false,Tryz.func90,by kernel_rfl⟩
theorem e100:Ent (100,f100):=.inl ⟨Tryz.f91,raws [],[2],false,Tryz.func91,by kernel_rfl⟩
theorem e101:Ent (101,f101):=.inl ⟨Tryz.f92,raws [],[],false,Tryz.func92,by kernel_rfl⟩
theorem e102:Ent (102,f102):=.inl ⟨Tryz.f93,raws [],[],false,Tryz.func93,by kernel_rfl⟩
theorem e103:Ent (103,f103):=.inl ⟨Tryz.f94,raws [],[],false,Tryz.func94,by kernel_rfl⟩
theorem e104:Ent (104,f104):=.inl ⟨Tryz.f95,raws [],[],false,Tryz.func95,by kernel_rfl⟩
theorem e105:Ent (105,f105):=.inl ⟨Tryz.f96,raws [],[13,12,7,6,4],false,Tryz.func96,by kernel_rfl⟩
theorem e106:Ent (106,f106):=.inl ⟨Tryz.f97,raws [],[],false,Tryz.func97,by kernel_rfl⟩
theorem e107:Ent (107,f107):=.inl ⟨Tryz.f40,raws [],[],false,Tryz.func40,by kernel_rfl⟩
theorem e108:Ent (108,f108):=.inl ⟨Tryz.f98,raws [],[2],false,Tryz.func98,by kernel_rfl⟩
theorem e109:Ent (109,f109):=.inl ⟨Tryz.f99,raws [],[],false,Tryz.func99,by kernel_rfl⟩
theorem e110:Ent (110,f110):=.inl ⟨Tryz.f75,raws [],[],false,Tryz.func75,by kernel_rfl⟩
theorem e111:Ent (111,f111):=.inl ⟨Tryz.f101,raws [],[1],false,Tryz.func101,by kernel_rfl⟩
theorem e112:Ent (112,f112):=.inl ⟨Tryz.f102,raws [],[5,4],false,Tryz.func102,by kernel_rfl⟩
theorem e113:Ent (113,f113):=.inl ⟨Tryz.f103,raws [],[],false,Tryz.func103,by kernel_rfl⟩
theorem e114:Ent (114,f114):=.inl ⟨Tryz.f104,raws [],[5,3],false,Tryz.func104,by kernel_rfl⟩
theorem e115:Ent (115,f115):=.inl ⟨Tryz.f106,raws [],[5,4],false,Tryz.func106,by kernel_rfl⟩
theorem e116:Ent (116,f116):=.inl ⟨Tryz.f139,raws [],[],false,Tryz.func139,by kernel_rfl⟩
theorem e131:Ent (131,f131):=.inl ⟨Tryz.f126,raws [],[],false,Tryz.func126,by kernel_rfl⟩
theorem e132:Ent (132,f132):=.inl ⟨Tryz.f127,raws [],[],false,Tryz.func127,by kernel_rfl⟩
theorem e133:Ent (133,f133):=.inl ⟨Tryz.f128,raws [],[],false,Tryz.func128,by kernel_rfl⟩
theorem e134:Ent (134,f134):=.inl ⟨Tryz.f129,raws [],[],false,Tryz.func129,by kernel_rfl⟩
theorem e135:Ent (135,f135):=.inl ⟨Tryz.f130,raws [],[0],false,Tryz.func130,by kernel_rfl⟩
theorem e136:Ent (136,f136):=.inl ⟨Tryz.f86,raws [],[],true,Tryz.func86,by kernel_rfl⟩
theorem e137:Ent (137,f137):=.inl ⟨Tryz.f131,raws [],[12,5,3],false,Tryz.func131,by kernel_rfl⟩
theorem e138:Ent (138,f138):=.inl ⟨Tryz.f72,raws [],[1],false,Tryz.func72,by kernel_rfl⟩
theorem e145:Ent (145,f145):=.inl ⟨Tryz.f142,raws [],[],false,Tryz.func142,by kernel_rfl⟩
theorem e146:Ent (146,f146):=.inl ⟨Tryz.f143,raws [],[],false,Tryz.func143,by kernel_rfl⟩
theorem e147:Ent (147,f147):=.inl ⟨Tryz.f144,raws [],[5,3],false,Tryz.func144,by kernel_rfl⟩
theorem e148:Ent (148,f148):=.inl ⟨Tryz.f145,raws [],[11,9,5,3],false,Tryz.func145,by kernel_rfl⟩
theorem e149:Ent (149,f149):=.inl ⟨Tryz.f146,raws [],[5],false,Tryz.func146,by kernel_rfl⟩
theorem e150:Ent (150,f150):=.inl ⟨Tryz.f147,raws [],[5,3],false,Tryz.func147,by kernel_rfl⟩
theorem e151:Ent (151,f151):=.inl ⟨Tryz.f148,raws [],[5,3],false,Tryz.func148,by kernel_rfl⟩
theorem e152:Ent (152,f152):=.inl ⟨Tryz.f149,raws [],[5,3],false,Tryz.func149,by kernel_rfl⟩
theorem e153:Ent (153,f153):=.inl ⟨Tryz.f150,raws [],[5,3],false,Tryz.func150,by kernel_rfl⟩
theorem e154:Ent (154,f154):=.inl ⟨Tryz.f151,raws [],[3],false,Tryz.func151,by kernel_rfl⟩
theorem e155:Ent (155,f155):=.inl ⟨Tryz.f152,raws [],[2],false,Tryz.func152,by kernel_rfl⟩
theorem e156:Ent (156,f156):=.inl ⟨Tryz.f78,raws [],[3,2],false,Tryz.func78,by kernel_rfl⟩
theorem e157:Ent (157,f157):=.inl ⟨Tryz.f35,raws [],[0],false,Tryz.func35,by kernel_rfl⟩
theorem e158:Ent (158,f158):=.inl ⟨Tryz.f118,raws [],[3],true,Tryz.func118,by kernel_rfl⟩
theorem e159:Ent (159,f159):=.inl ⟨Tryz.f119,raws [],[],false,Tryz.func119,by kernel_rfl⟩
theorem e161:Ent (161,f161):=.inl ⟨Tryz.f171,raws [],[6,2],false,Tryz.func171,by kernel_rfl⟩
theorem e162:Ent (162,f162):=.inl ⟨Tryz.f172,raws [],[6],false,Tryz.func172,by kernel_rfl⟩
theorem e163:Ent (163,f163):=.inl ⟨Tryz.f173,raws [],[2],false,Tryz.func173,by kernel_rfl⟩
theorem e164:Ent (164,f164):=.inl ⟨Tryz.f174,raws [],[],false,Tryz.func174,by kernel_rfl⟩
theorem e165:Ent (165,f165):=.inl ⟨Tryz.f175,raws [],[1],false,Tryz.func175,by kernel_rfl⟩
theorem e166:Ent (166,f166):=.inl ⟨Tryz.f187,raws [],[1],false,Tryz.func187,by kernel_rfl⟩
theorem e176:Ent (176,f176):=.inl ⟨Tryz.f32,raws [],[1],false,Tryz.func32,by kernel_rfl⟩
theorem e208:Ent (208,f208):=.inl ⟨Tryz.f3,raws [],[5,4],false,Tryz.func3,by kernel_rfl⟩
theorem e209:Ent (209,f209):=.inl ⟨Tryz.f4,raws [],[8,1],false,Tryz.func4,by kernel_rfl⟩
theorem e216:Ent (216,f216):=.inl ⟨Tryz.f11,raws [],[4,3,1],false,Tryz.func11,by kernel_rfl⟩
theorem e217:Ent (217,f217):=.inl ⟨Tryz.f12,raws [],[6,2],false,Tryz.func12,by kernel_rfl⟩
theorem e218:Ent (218,f218):=.inl ⟨Tryz.f13,raws [],[2],false,Tryz.func13,by kernel_rfl⟩
theorem e219:Ent (219,f219):=.inl ⟨Tryz.f16,raws [],[16,14,11,9,1],false,Tryz.func16,by kernel_rfl⟩
theorem e220:Ent (220,f220):=.inl ⟨Tryz.f17,raws [],[9,7,5,1],false,Tryz.func17,by kernel_rfl⟩
theorem e221:Ent (221,f221):=.inl ⟨Tryz.f18,raws [],[],false,Tryz.func18,by kernel_rfl⟩
theorem e222:Ent (222,f222):=.inl ⟨Tryz.f20,raws [],[1],false,Tryz.func20,by kernel_rfl⟩
theorem e223:Ent (223,f223):=.inl ⟨Tryz.f22,raws [],[1],false,Tryz.func22,by kernel_rfl⟩
theorem e224:Ent (224,f224):=.inl ⟨Tryz.f23,raws [],[9,3],false,Tryz.func23,by kernel_rfl⟩
theorem e225:Ent (225,f225):=.inl ⟨Tryz.f24,raws [],[3],false,Tryz.func24,by kernel_rfl⟩
theorem e226:Ent (226,f226):=.inl ⟨Tryz.f25,raws [],[2],false,Tryz.func25,by kernel_rfl⟩
theorem e227:Ent (227,f227):=.inl ⟨Tryz.f26,raws [],[2],false,Tryz.func26,by kernel_rfl⟩
theorem e228:Ent (228,f228):=.inl ⟨Tryz.f27,raws [],[1],false,Tryz.func27,by kernel_rfl⟩
theorem e229:Ent (229,f229):=.inl ⟨Tryz.f28,raws [],[1],false,Tryz.func28,by kernel_rfl⟩
theorem e230:Ent (230,f230):=.inl ⟨Tryz.f29,raws [],[2],false,Tryz.func29,by kernel_rfl⟩
theorem e231:Ent (231,f231):=.inl ⟨Tryz.f30,raws [],[],false,Tryz.func30,by kernel_rfl⟩
theorem e235:Ent (235,f235):=.inl ⟨Tryz.f36,raws [],[4],false,Tryz.func36,by kernel_rfl⟩
theorem e236:Ent (236,f236):=.inl ⟨Tryz.f39,raws [],[2,1,0],true,Tryz.func39,by kernel_rfl⟩
theorem e237:Ent (237,f237):=.inl ⟨Tryz.f41,raws [],[4],false,Tryz.func41,by kernel_rfl⟩
theorem e238:Ent (238,f238):=.inl ⟨Tryz.f44,raws [],[4],false,Tryz.func44,by kernel_rfl⟩
theorem e239:Ent (239,f239):=.inl ⟨Tryz.f46,raws [],[2],false,Tryz.func46,by kernel_rfl⟩
theorem e240:Ent (240,f240):=.inr ⟨.itoa,rfl,ext_itoa Tryz.laysM171 (by kernel_rfl) (q:=2) (j:=2) (by kernel_rfl) rfl (by kernel_rfl) (rf:=Tryz.f57) ⟨Tryz.func57,by kernel_rfl,by kernel_rfl⟩⟩
theorem e241:Ent (241,f241):=.inl ⟨Tryz.f58,raws [],[],true,Tryz.func58,by kernel_rfl⟩
theorem e242:Ent (242,f242):=.inl ⟨Tryz.f59,raws [],[],false,Tryz.func59,by kernel_rfl⟩
theorem e243:Ent (243,f243):=.inl ⟨Tryz.f61,raws [10],[],false,Tryz.func61,by kernel_rfl⟩
theorem e244:Ent (244,f244):=.inl ⟨Tryz.f62,raws [],[],true,Tryz.func62,by kernel_rfl⟩
theorem e245:Ent (245,f245):=.inl ⟨Tryz.f63,raws [],[13,11,8,6,3],true,Tryz.func63,by kernel_rfl⟩
theorem e246:Ent (246,f246):=.inr ⟨.bldG,rfl,ext_bldG { Tryz.lays156 with } Tryz.bx156 (by kernel_rfl) (by kernel_rfl) (by kernel_rfl) (rf:=Tryz.f64) ⟨Tryz.func64,by kernel_rfl,by kernel_rfl⟩⟩
theorem e247:Ent (247,f247):=.inl ⟨Tryz.f65,raws [],[],false,Tryz.func65,by kernel_rfl⟩
theorem e248:Ent (248,f248):=.inl ⟨Tryz.f66,raws [],[],false,Tryz.func66,by kernel_rfl⟩
theorem e249:Ent (249,f249):=.inl ⟨Tryz.f67,raws [],[],false,Tryz.func67,by kernel_rfl⟩
theorem e250:Ent (250,f250):=.inl ⟨Tryz.f68,raws [],[1],false,Tryz.func68,by kernel_rfl⟩
theorem e251:Ent (251,f251):=.inl ⟨Tryz.f69,raws [],[9,6,1],false,Tryz.func69,by kernel_rfl⟩
theorem e252:Ent (252,f252):=.inl ⟨Tryz.f73,raws [],[],false,Tryz.func73,by kernel_rfl⟩
theorem e253:Ent (253,f253):=.inl ⟨Tryz.f76,raws [],[7,2],false,Tryz.func76,by kernel_rfl⟩
theorem e254:Ent (254,f254):=.inl ⟨Tryz.f77,raws [],[2],false,Tryz.func77,by kernel_rfl⟩
theorem e258:Ent (258,f258):=.inr ⟨.bldS,rfl,ext_bldS { Tryz.lays156 with } Tryz.bx156 (by kernel_rfl) (by kernel_rfl) (by kernel_rfl) (rf:=Tryz.f108) ⟨Tryz.func108,by kernel_rfl,by kernel_rfl⟩⟩
theorem e259:Ent (259,f259):=.inr ⟨.joinS,rfl,ext_join Tryz.lays156 Tryz.bx156 (by kernel_rfl) (rf:=Tryz.f109) ⟨Tryz.func109,by kernel_rfl,by kernel_rfl⟩⟩
theorem e260:Ent (260,f260):=.inr ⟨.bldB,rfl,ext_bldB Tryz.lays167 Tryz.bx156 (by kernel_rfl) (by kernel_rfl) (by kernel_rfl) (rf:=Tryz.f110) ⟨Tryz.func110,by kernel_rfl,by kernel_rfl⟩⟩
theorem e261:Ent (261,f261):=.inl ⟨Tryz.f111,raws [58],[],true,Tryz.func111,by kernel_rfl⟩
theorem e262:Ent (262,f262):=.inl ⟨Tryz.f112,raws [],[],false,Tryz.func112,by kernel_rfl⟩
theorem e263:Ent (263,f263):=.inl ⟨Tryz.f113,raws [],[1],false,Tryz.func113,by kernel_rfl⟩
theorem e268:Ent (268,f268):=.inl ⟨Tryz.f136,raws [],[1],false,Tryz.func136,by kernel_rfl⟩
theorem e274:Ent (274,f274):=.inl ⟨Tryz.f159,raws [],[],false,Tryz.func159,by kernel_rfl⟩
theorem all : ∀ q∈tabL,Ent q:=by
 unfold tabL
 simp only [List.forall_mem_cons]
 exact ⟨e23,e24,e28,e31,e33,e47,e48,e49,e51,e57,e60,e61,e62,e63,e64,e65,e68,e70,e71,e74,e75,e76,e77,e78,e79,e80,e81,e82,e83,e84,e85,e86,e87,e88,e89,e91,e95,e96,e97,e98,e99,e100,e101,e102,e103,e104,e105,e106,e107,e108,e109,e110,e111,e112,e113,e114,e115,e116,e131,e132,e133,e134,e135,e136,e137,e138,e145,e146,e147,e148,e149,e150,e151,e152,e153,e154,e155,e156,e157,e158,e159,e161,e162,e163,e164,e165,e166,e176,e208,e209,e216,e217,e218,e219,e220,e221,e222,e223,e224,e225,e226,e227,e228,e229,e230,e231,e235,e236,e237,e238,e239,e240,e241,e242,e243,e244,e245,e246,e247,e248,e249,e250,e251,e252,e253,e254,e258,e259,e260,e261,e262,e263,e268,e274,fun _ h=>by cases h⟩
end Seat
end Rg
end
section
namespace Rg
open Go
abbrev ti (n:Int):T:=.int .i64 n
abbrev tb (b:Bool):T:=.bool b
abbrev ints (l:List Int):T:=.sl (l.map fun n=>[ti n])
@[go_sem] theorem beqI (a b:Int):(a==b)=decide (a=b):=by by_cases h:a=b <;> simp [h]
@[go_sem] theorem bneI (a b:Int):(a != b)=decide (¬ a=b):=by by_cases h:a=b <;> simp [h]
@[go_sem] theorem wl_1:IntKind.i64.wrap 1=1:=by rw [IntKind.wrap_i64]; rfl
@[go_sem] theorem wl_2:IntKind.i64.wrap 2=2:=by rw [IntKind.wrap_i64]; rfl
@[go_sem] theorem wl_3:IntKind.i64.wrap 3=3:=by rw [IntKind.wrap_i64]; rfl
inductive Expr where
 | mk (op w n:Int) (kids:List Expr)
 deriving Inhabited
namespace Expr
def op:Expr->Int | .mk o _ _ _=>o
def w:Expr->Int | .mk _ w _ _=>w
def n:Expr->Int | .mk _ _ n _=>n
def kids:Expr->List Expr | .mk _ _ _ k=>k
@[go_sem] theorem op_mk (o w n:Int) (k:List Expr):(Expr.mk o w n k).op=o:=rfl
@[go_sem] theorem w_mk (o w n:Int) (k:List Expr):(Expr.mk o w n k).w=w:=rfl
@[go_sem] theorem n_mk (o w n:Int) (k:List Expr):(Expr.mk o w n k).n=n:=rfl
@[go_sem] theorem kids_mk (o w n:Int) (k:List Expr):(Expr.mk o w n k).kids=k:=rfl
mutual
def enc:Expr->List T
 | .mk o w n k=>[ti o,ti w,ti n, .sl (encs k)]
def encs:List Expr->List (List T)
 | []=>[]
 | e::r=>enc e::encs r
end
theorem encs_eq : ∀ l:List Expr,encs l=l.map enc
 | []=>rfl
 | e::r=>by rw [encs,encs_eq r]; rfl
theorem enc_eq (e:Expr):e.enc=[ti e.op,ti e.w,ti e.n, .sl (e.kids.map enc)]:=by
 cases e; simp only [enc,encs_eq,op,w,n,kids]
mutual
def size:Expr->Nat
 | .mk _ _ _ k=>sizes k+1
def sizes:List Expr->Nat
 | []=>0
 | e::r=>size e+sizes r
end
theorem sizes_eq : ∀ l:List Expr,sizes l=(l.map size).sum
 | []=>rfl
 | e::r=>by rw [sizes,sizes_eq r]; rfl
theorem size_eq (e:Expr):e.size=(e.kids.map size).sum+1:=by
 cases e; simp only [size,sizes_eq,kids]
theorem size_pos (e:Expr):0<e.size:=by rw [size_eq]; omega
theorem size_kid {e k:Expr} (h:k∈e.kids):k.size<e.size:=by
 rw [size_eq e]
 have:k.size<=(e.kids.map size).sum:=by
  generalize e.kids=l at h
  induction l with
  | nil=>simp at h
  | cons x r ih =>
   simp only [List.map_cons,List.sum_cons]
   rcases List.mem_cons.1 h with rfl | h
   ·omega
   ·have:=ih h; omega
 omega
theorem ind {P:Expr->Prop} (h : ∀ e:Expr,(∀ k∈e.kids,P k)->P e) : ∀ e,P e:=by
 intro e
 generalize hn:e.size=n
 induction n using Nat.strongRecOn generalizing e with
 | _ n ih=>exact h e fun k hk=>ih k.size (by have:=size_kid hk; omega) k rfl
mutual
def allE (f:Expr->Bool):Expr->Bool
 | .mk o w n k=>f (.mk o w n k)&&allEs f k
def allEs (f:Expr->Bool):List Expr->Bool
 | []=>true
 | e::r=>allE f e&&allEs f r
end
theorem allEs_eq (f:Expr->Bool) : ∀ l:List Expr,allEs f l=l.all (allE f)
 | []=>rfl
 | e::r=>by rw [allEs,allEs_eq f r]; rfl
theorem allE_eq (f:Expr->Bool) (e:Expr):allE f e=(f e&&e.kids.all (allE f)):=by
 cases e; simp only [allE,allEs_eq,kids]
theorem allE_self {f:Expr->Bool} {e:Expr} (h:allE f e=true):f e=true:=by
 rw [allE_eq] at h; simp only [Bool.and_eq_true] at h; exact h.1
theorem allE_kid {f:Expr->Bool} {e k:Expr} (h:allE f e=true) (hk:k∈e.kids):allE f k=true:=by
 rw [allE_eq] at h; simp only [Bool.and_eq_true,List.all_eq_true] at h; exact h.2 k hk
theorem len_le_size (ks:List Expr):ks.length<=(ks.map size).sum:=by
 induction ks with
 | nil=>simp
 | cons x r ih=>have:=size_pos x; simp only [List.length_cons,List.map_cons,List.sum_cons]; omega
theorem take_le_size (ks:List Expr) (i:Nat):((ks.take i).map size).sum<=(ks.map size).sum:=by
 induction ks generalizing i with
 | nil=>simp
 | cons x r ih=>cases i with
  | zero=>simp
  | succ i=>have:=ih i; simp only [List.take_succ_cons,List.map_cons,List.sum_cons]; omega
def kw (e:Expr) (i:Nat):Int:=(e.kids.getD i (.mk 0 0 0 [])).w
end Expr
structure Cell where
 name:ByteArray
 w:Int
 init:Int
 thread:Int
 ghost:Bool
 module:Int
 deriving Inhabited
def Cell.enc (c:Cell):List T:=[.str c.name,ti c.w,ti c.init,ti c.thread,tb c.ghost,ti c.module]
structure Assign where
 cell:Int
 to:Expr
 deriving Inhabited
def Assign.enc (a:Assign):List T:=ti a.cell::a.to.enc
structure Step where
 kind:Int
 fr:Int
 to:Int
 guard:Expr
 set:List Assign
 release:Bool
 target:Int
 module:Int
 deriving Inhabited
def Step.enc (s:Step):List T:=[ti s.kind,ti s.fr,ti s.to]++s.guard.enc++[.sl (s.set.map Assign.enc),tb s.release,ti s.target,ti s.module]
structure Loop where
 head:Int
 body:List Int
 variant:Expr
 deriving Inhabited
def Loop.enc (l:Loop):List T:=[ti l.head,ints l.body]++l.variant.enc
structure Thread where
 name:ByteArray
 points:Int
 asserts:List Expr
 modules:List Int
 steps:List Step
 loops:List Loop
 asleep:Bool
 deriving Inhabited
def Thread.enc (t:Thread):List T :=
 [.str t.name,ti t.points, .sl (t.asserts.map Expr.enc),ints t.modules, .sl (t.steps.map Step.enc), .sl (t.loops.map Loop.enc),tb t.asleep]
structure Contract where
 name:ByteArray
 owner:ByteArray
 rely:Expr
 guar:Expr
 frame:List Int
 deriving Inhabited
def Contract.enc (c:Contract):List T:=[.str c.name, .str c.owner]++c.rely.enc++c.guar.enc++[ints c.frame]
structure Lock where
 cell:Int
 inv:Expr
 module:Int
 deriving Inhabited
def Lock.enc (l:Lock):List T:=[ti l.cell]++l.inv.enc++[ti l.module]
structure Prog where
 cells:List Cell
 modules:List Contract
 locks:List Lock
 threads:List Thread
 deriving Inhabited
def Prog.enc (p:Prog):List T:=[.sl (p.cells.map Cell.enc), .sl (p.modules.map Contract.enc), .sl (p.locks.map Lock.enc), .sl (p.threads.map Thread.enc)]
structure Entry where
 cells:List Int
 values:List Int
 deriving Inhabited,DecidableEq
def Entry.enc (e:Entry):List T:=[ints e.cells,ints e.values]
structure Config where
 mem:List Int
 at_:List Int
 buf:List (List Entry)
 deriving Inhabited,DecidableEq
def Config.enc (c:Config):List T:=[ints c.mem,ints c.at_, .sl (c.buf.map fun b=>[.sl (b.map Entry.enc)])]
structure Choice where
 thread:Int
 step:Int
 cell:Int
 deriving Inhabited,DecidableEq
def Choice.enc (c:Choice):List T:=[ti c.thread,ti c.step,ti c.cell]
attribute [go_sem] Expr.enc_eq Cell.enc Assign.enc Step.enc Loop.enc Thread.enc Contract.enc Lock.enc Prog.enc Entry.enc Config.enc Choice.enc
def ag (l:List T):V:=.agg (l.map V.t)
theorem wrapS (i:Nat) (h:i<2^62):IntKind.i64.wrap ((i:Int)+1)=((i+1:Nat):Int):=by rw [wrap64 (by omega)]; omega
theorem take_succ_of {α:Type} {l:List α} {i:Nat} {x:α} (h:l[i]? = some x):l.take (i+1)=l.take i++[x]:=by
 rw [List.take_add_one,h]; rfl
theorem pow2_le {i k:Nat} (h:i<=k):(2:Int)^i<=2^k:=by
 have:=Nat.pow_le_pow_right (n:=2) (by omega) h
 exact_mod_cast this
theorem pow2_pos (i:Nat):0<(2:Int)^i:=Int.pow_pos (by omega)
theorem get_of {α:Type} {l:List α} {i:Nat} (h:i<l.length) : ∃ x,l[i]? = some x/\x∈l:=⟨l[i],List.getElem?_eq_getElem h,List.getElem_mem h⟩
end Rg
end
section
namespace Rg
open Go
section
variable {H:Type} (enc:TypeId×Value->H) (P:Program) (W:World) (nm:Nat->Nat)
def Reps (cs:List Value) (xs:List T):Prop :=
 cs.length=xs.length /\ ∀ (j:Nat) (x:T),xs[j]? = some x -> ∃ v,cs[j]? = some v/\RepT W (fun r=>r<W.heap.size) nm v x
def Rd {α:Type} (n:Nat) (t:TypeId) (f:α->List T) (good:α->Prop):Prop :=
 ∀ (cs:List Value) (x:DataW H×List MemPlace),DataW.trod enc P W 0 (fun _=>true) true n t cs=some x->(x.1.weights P t).all (· <= reachBytes)=true -> ∃ a,good a/\Reps W nm cs (f a)
def RdF {α:Type} (n tot:Nat) (fs:List (TypeId×Nat)) (off:Nat) (f:α->List T) (good:α->Prop):Prop :=
 ∀ (cs:List Value) (xs:List (DataW H×List MemPlace)),cs.length=tot->xs.length=fs.length ->
  (∀ (i:Nat) (fd:TypeId×Nat),fs[i]? = some fd->DataW.trod enc P W 0 (fun _=>true) true n fd.1 ((cs.drop fd.2).take (P.cellsOf fd.1))=xs[i]?) ->
  (DataW.weightsEach P (fs.map (·.1)) (xs.map (·.1))).all (· <= reachBytes)=true -> ∃ a,good a/\Reps W nm (cs.drop off) (f a)
end
section
variable {H:Type} {enc:TypeId×Value->H} {P:Program} {W:World} {nm:Nat->Nat}
theorem Reps.one {v:Value} {x:T} (h:RepT W (fun r=>r<W.heap.size) nm v x):Reps W nm [v] [x] :=
 ⟨rfl,fun j y hj=>by
   cases j with
   | zero=>simp at hj; subst hj; exact ⟨v,rfl,h⟩
   | succ j=>simp at hj⟩
theorem Reps.append {cs ds:List Value} {xs ys:List T} (h:Reps W nm cs xs) (h' : Reps W nm ds ys):Reps W nm (cs++ds) (xs++ys):=by
 refine ⟨by simp [h.1,h'.1],fun j x hj => ?_⟩
 rw [List.getElem?_append] at hj ⊢
 rw [h.1]
 split at hj
 ·rename_i hlt; rw [if_pos hlt]; exact h.2 j x hj
 ·rename_i hlt; rw [if_neg hlt]; exact h'.2 _ x hj
theorem rd_int {k:IntKind} {t:TypeId} (ht:P.underlying t=some (.int k)) (n:Nat):Rd enc P W nm n t (fun i:Int=>[.int k i]) (fun i=>(Lit.int k i).wf=true):=by
 intro cs x h _
 obtain ⟨i,rfl,_,hw⟩:=DataW.trod_int ht h
 exact ⟨i,hw, .one (.int k i)⟩
theorem rd_bool {t:TypeId} (ht:P.underlying t=some .bool) (n:Nat):Rd enc P W nm n t (fun b:Bool=>[.bool b]) (fun _=>True):=by
 intro cs x h _
 obtain ⟨b,rfl,_⟩:=DataW.trod_bool ht h
 exact ⟨b,trivial, .one (.bool b)⟩
theorem rd_str {t:TypeId} (ht:P.underlying t=some .string) (n:Nat):Rd enc P W nm n t (fun s:ByteArray=>[.str s]) (fun s=>s.size<=reachBytes):=by
 intro cs x h hw
 obtain ⟨s,rfl,rfl,_⟩:=DataW.trod_string ht h
 refine ⟨s, ?_, .one (.str s)⟩
 simp only [DataW.weights,List.all_cons,List.all_nil,Bool.and_true,decide_eq_true_eq] at hw
 rw [Array.length_toList] at hw
 exact hw
theorem weightsAll_mem {e:TypeId} : ∀ {l:List (DataW H)},(DataW.weightsAll P e l).all (· <= reachBytes)=true -> ∀ d∈l,(d.weights P e).all (· <= reachBytes)=true
 | [],_,d,hd=>by simp at hd
 | x::r,h,d,hd=>by
  rw [DataW.weightsAll,List.all_append,Bool.and_eq_true] at h
  rcases List.mem_cons.1 hd with rfl | hd
  ·exact h.1
  ·exact weightsAll_mem h.2 d hd
theorem cells?_get {base:Nat} {a:Addr} {n:Nat} {cs:List Value} (h:W.cells? base a n=some cs):cs.length=n /\ ∀ j,j<n->W.cell? (a.add j)=cs[j]? := by
 unfold World.cells? at h
 split at h
 ·exact ⟨by simpa using mapM_some_length h,fun j hj=>by simpa using mapM_some_get h j j (by simp [hj])⟩
 ·simp at h
theorem cell?_spot {a:Addr} {v:Value} (h:W.cell? a=some v):a.spot=none/\a.block<W.heap.size:=by
 unfold World.cell? at h
 split at h
 ·rename_i hb
  split at h
  ·simp at h
  ·rename_i hs
   refine ⟨by cases hsp:a.spot <;> simp_all, ?_⟩
   have:=Array.getElem?_eq_some_iff.1 hb
   exact this.1
 ·simp at h
theorem choose_list {α:Type} {Q:Nat->α->Prop} : ∀ (n:Nat),(∀ i,i<n -> ∃ a,Q i a) -> ∃ l:List α,l.length=n /\ ∀ (i:Nat) (a:α),l[i]? = some a->Q i a
 | 0,_=>⟨[],rfl,fun i a h=>by simp at h⟩
 | n+1,h=>by
  obtain ⟨l,hl,hq⟩:=choose_list n (fun i hi=>h i (by omega))
  obtain ⟨a,ha⟩:=h n (by omega)
  refine ⟨l++[a],by simp [hl],fun i b hb => ?_⟩
  rw [List.getElem?_append] at hb
  split at hb
  ·exact hq i b hb
  ·rename_i hlt
   have:i=n:=by
    have:=(List.getElem?_eq_some_iff.1 hb).1
    simp at this; omega
   subst this
   simp [hl] at hb
   exact hb ▸ ha
theorem rd_slice {α:Type} {t e:TypeId} {f:α->List T} {good:α->Prop} (ht:P.underlying t=some (.slice e)) (hb:0<P.bytesOf e) (hc:0<P.cellsOf e) (n:Nat) (h : ∀ m,m<n->Rd enc P W nm m e f good) :
 Rd enc P W nm n t (fun l:List α=>[.sl (l.map f)]) (fun l=>l.length<=reachBytes /\ ∀ a∈l,good a):=by
 intro cs x htr hw
 rcases DataW.trod_slice ht htr with ⟨rfl,_⟩ | ⟨a,len,cap,elems,rest,m,rfl,rfl,rfl,_,hlc,_,hel,hread,_,_⟩
 ·exact ⟨[],⟨by simp,by simp⟩, .one (.sl0 none 0)⟩
 ·simp only [DataW.weights,ht,List.all_cons,List.all_append,Bool.and_eq_true,decide_eq_true_eq,List.length_map] at hw
  have hpt : ∀ i,i<len -> ∃ b:α,good b /\ ∃ ci,W.cells? 0 (a.add (i*P.cellsOf e)) (P.cellsOf e)=some ci/\Reps W nm ci (f b):=by
   intro i hi
   have h1:=hread i hi
   obtain ⟨z,hz⟩ : ∃ z,elems[i]? = some z:=⟨_,List.getElem?_eq_getElem (by omega)⟩
   rw [hz,Option.bind_eq_some_iff] at h1
   obtain ⟨ci,hci,htz⟩:=h1
   have hwz:=weightsAll_mem hw.2.1 z.1 (List.mem_map.2 ⟨z,List.mem_of_getElem? hz,rfl⟩)
   obtain ⟨b,hg,hr⟩:=h m (by omega) ci z htz hwz
   exact ⟨b,hg,ci,hci,hr⟩
  obtain ⟨l,hl,hq⟩:=choose_list len hpt
  refine ⟨l,⟨?_,fun b hb => ?_⟩, .one ?_⟩
  ·have:elems.length*1<=(elems.length+rest.length)*P.bytesOf e:=Nat.mul_le_mul (by omega) hb
   omega
  ·obtain ⟨i,hi⟩:=List.getElem?_of_mem hb
   exact (hq i b hi).1
  ·by_cases h0:len=0
   ·subst h0
    have:l=[]:=List.length_eq_zero_iff.1 hl
    subst this
    exact .sl0 _ _
   ·have hfl : ∀ (i:Nat) (b:α),l[i]? = some b->(f b).length=P.cellsOf e:=by
     intro i b hi
     obtain ⟨_,ci,hci,hr⟩:=hq i b hi
     rw [<- hr.1,(cells?_get hci).1]
    have hcell : ∀ (i j:Nat) (b:α),l[i]? = some b->j<P.cellsOf e -> ∃ v,W.cell? ((a.add (i*P.cellsOf e)).add j)=some v /\ ∀ x,(f b)[j]? = some x->RepT W (fun r=>r<W.heap.size) nm v x:=by
     intro i j b hi hj
     obtain ⟨_,ci,hci,hr⟩:=hq i b hi
     have hg:=cells?_get hci
     obtain ⟨v,hv⟩ : ∃ v,ci[j]? = some v:=⟨_,List.getElem?_eq_getElem (by omega)⟩
     refine ⟨v,by rw [hg.2 j hj,hv],fun x hx => ?_⟩
     obtain ⟨u,hu,hru⟩:=hr.2 j x hx
     rw [hv] at hu; cases hu; exact hru
    obtain ⟨b0,hb0⟩ : ∃ b,l[0]? = some b:=⟨_,List.getElem?_eq_getElem (by omega)⟩
    obtain ⟨v0,hv0,_⟩:=hcell 0 0 b0 hb0 hc
    have ha0:(a.add (0*P.cellsOf e)).add 0=a:=by simp [Addr.add]
    rw [ha0] at hv0
    obtain ⟨hsp,hblk⟩:=cell?_spot hv0
    obtain ⟨r,off,spot⟩:=a
    simp only at hsp hblk
    subst hsp
    have hadd : ∀ i j,((⟨r,off,none⟩:Addr).add (i*P.cellsOf e)).add j=⟨r,off+i*P.cellsOf e+j,none⟩:=by
     intro i j
     unfold Addr.add
     split <;> split <;> simp_all
    have hlen:(l.map f).length=len:=by simp [hl]
    rw [show Value.slice (some ⟨r,off,none⟩) len cap=Value.slice (some ⟨r,off,none⟩) (l.map f).length cap by rw [hlen]]
    refine .sl r off cap (P.cellsOf e) (l.map f) (fun i j=>(W.cell? ⟨r,off+i*P.cellsOf e+j,none⟩).getD .nilFunc) (by omega) (by omega) hblk ?_ ?_ ?_
    ·intro i y hy
     rw [List.getElem?_map,Option.map_eq_some_iff] at hy
     obtain ⟨b,hb,rfl⟩:=hy
     exact hfl i b hb
    ·intro i y j x hy hx
     rw [List.getElem?_map,Option.map_eq_some_iff] at hy
     obtain ⟨b,hb,rfl⟩:=hy
     have hj:=(List.getElem?_eq_some_iff.1 hx).1
     rw [hfl i b hb] at hj
     obtain ⟨v,hv,_⟩:=hcell i j b hb hj
     rw [hadd] at hv
     rw [hv]; rfl
    ·intro i y j x hy hx
     rw [List.getElem?_map,Option.map_eq_some_iff] at hy
     obtain ⟨b,hb,rfl⟩:=hy
     have hj:=(List.getElem?_eq_some_iff.1 hx).1
     rw [hfl i b hb] at hj
     obtain ⟨v,hv,hr⟩:=hcell i j b hb hj
     rw [hadd] at hv
     rw [hv]; exact hr x hx
theorem rdF_nil {n tot:Nat}:RdF enc P W nm n tot [] tot (fun _:Unit=>[]) (fun _=>True):=by
 intro cs xs hl _ _ _
 refine ⟨(),trivial, ?_⟩
 rw [List.drop_of_length_le (by omega)]
 exact ⟨rfl,fun j x h=>by simp at h⟩
theorem rdF_cons {α β:Type} {n tot off sz:Nat} {t:TypeId} {fs:List (TypeId×Nat)} {f:α->List T} {good:α->Prop} {g:β->List T} {good' : β->Prop}
 (hsz:P.cellsOf t=sz) (h:Rd enc P W nm n t f good) (h' : RdF enc P W nm n tot fs (off+sz) g good') :
 RdF enc P W nm n tot ((t,off)::fs) off (fun q:α×β=>f q.1++g q.2) (fun q=>good q.1/\good' q.2):=by
 intro cs xs hl hxl hx hw
 cases xs with
 | nil=>simp at hxl
 | cons x r =>
  have h0:=hx 0 (t,off) rfl
  simp only [List.getElem?_cons_zero,hsz] at h0
  rw [List.map_cons,List.map_cons,DataW.weightsEach,List.all_append,Bool.and_eq_true] at hw
  obtain ⟨a,ha,hra⟩:=h _ x h0 hw.1
  obtain ⟨b,hb,hrb⟩:=h' cs r hl (by simpa using hxl) (fun i fd hi=>by simpa using hx (i+1) fd (by simpa using hi)) hw.2
  refine ⟨(a,b),⟨ha,hb⟩, ?_⟩
  have:cs.drop off=(cs.drop off).take sz++cs.drop (off+sz):=by rw [<- List.drop_drop,List.take_append_drop]
  rw [this]
  exact hra.append hrb
theorem rd_struct {α:Type} {t:TypeId} {fs:List (TypeId×Nat)} {tot:Nat} {f:α->List T} {good:α->Prop}
 (ht:(match P.underlying t with | some (.struct a)=>decide (a.toList.map (fun x=>(x.type,x.offset))=fs) | _=>false)=true) (htot:P.cellsOf t=tot) (n:Nat)
 (h : ∀ m,m<n->RdF enc P W nm m tot fs 0 f good):Rd enc P W nm n t f good:=by
 intro cs x htr hw
 split at ht
 ·rename_i a hu
  rw [decide_eq_true_eq] at ht
  obtain ⟨xs,m,rfl,rfl,hl,hxl,hx⟩:=DataW.trod_struct hu htr
  subst ht
  have:=h m (by omega) cs xs (by omega) (by simp [hxl]) (fun i fd hi=>by
   rw [List.getElem?_map,Option.map_eq_some_iff] at hi
   obtain ⟨f',hf',rfl⟩:=hi
   exact hx i f' (by simpa using hf')) (by
   simp only [DataW.weights,hu] at hw
   rw [List.map_map]
   exact hw)
  simpa using this
 ·simp at ht
theorem Rd.conv {α β:Type} {t:TypeId} {n:Nat} {f:α->List T} {good:α->Prop} {g:β->List T} {good' : β->Prop} (h:Rd enc P W nm n t f good) (hc : ∀ a,good a -> ∃ b,good' b/\f a=g b):Rd enc P W nm n t g good' := by
 intro cs x htr hw
 obtain ⟨a,ha,hr⟩:=h cs x htr hw
 obtain ⟨b,hb,he⟩:=hc a ha
 exact ⟨b,hb,he ▸ hr⟩
end
end Rg
end
section
namespace Rg
open Go
structure Tys where
 int:Nat
 bool:Nat
 str:Nat
 u8:Nat
 ints:Nat
 bytes:Nat
 expr:Nat
 exprs:Nat
 cell:Nat
 cells:Nat
 assign:Nat
 assigns:Nat
 step:Nat
 steps:Nat
 loop:Nat
 loops:Nat
 thread:Nat
 threads:Nat
 contract:Nat
 contracts:Nat
 lock:Nat
 locks:Nat
 prog:Nat
 entry:Nat
 entries:Nat
 bufs:Nat
 config:Nat
 choice:Nat
def isInt (P:Program) (t:TypeId) (k:IntKind):Bool:=(match P.underlying t with | some (.int k')=>decide (k' = k) | _=>false)&&decide (P.cellsOf t=1)
def isBool (P:Program) (t:TypeId):Bool:=(match P.underlying t with | some .bool=>true | _=>false)&&decide (P.cellsOf t=1)
def isStr (P:Program) (t:TypeId):Bool:=(match P.underlying t with | some .string=>true | _=>false)&&decide (P.cellsOf t=1)
def isSl (P:Program) (t e:TypeId):Bool:=(match P.underlying t with | some (.slice e')=>decide (e' = e) | _=>false)&&decide (0<P.bytesOf e)&&decide (0<P.cellsOf e)&&decide (P.cellsOf t=1)
def isSt (P:Program) (t:TypeId) (tot:Nat) (fs:List (TypeId×Nat)):Bool :=
 (match P.underlying t with | some (.struct a)=>decide (a.toList.map (fun x=>(x.type,x.offset))=fs) | _=>false)&&decide (P.cellsOf t=tot)
structure Tys.OkP (P:Program) (y:Tys):Prop where
 int:isInt P y.int .i64=true
 bool:isBool P y.bool=true
 str:isStr P y.str=true
 u8:isInt P y.u8 .u8=true
 ints:isSl P y.ints y.int=true
 bytes:isSl P y.bytes y.u8=true
 expr:isSt P y.expr 4 [(y.int,0),(y.int,1),(y.int,2),(y.exprs,3)]=true
 exprs:isSl P y.exprs y.expr=true
 cell:isSt P y.cell 6 [(y.str,0),(y.int,1),(y.int,2),(y.int,3),(y.bool,4),(y.int,5)]=true
 cells:isSl P y.cells y.cell=true
 assign:isSt P y.assign 5 [(y.int,0),(y.expr,1)]=true
 assigns:isSl P y.assigns y.assign=true
 step:isSt P y.step 11 [(y.int,0),(y.int,1),(y.int,2),(y.expr,3),(y.assigns,7),(y.bool,8),(y.int,9),(y.int,10)]=true
 steps:isSl P y.steps y.step=true
 loop:isSt P y.loop 6 [(y.int,0),(y.ints,1),(y.expr,2)]=true
 loops:isSl P y.loops y.loop=true
 thread:isSt P y.thread 7 [(y.str,0),(y.int,1),(y.exprs,2),(y.ints,3),(y.steps,4),(y.loops,5),(y.bool,6)]=true
 threads:isSl P y.threads y.thread=true
 contract:isSt P y.contract 11 [(y.str,0),(y.str,1),(y.expr,2),(y.expr,6),(y.ints,10)]=true
 contracts:isSl P y.contracts y.contract=true
 lock:isSt P y.lock 6 [(y.int,0),(y.expr,1),(y.int,5)]=true
 locks:isSl P y.locks y.lock=true
 prog:isSt P y.prog 4 [(y.cells,0),(y.contracts,1),(y.locks,2),(y.threads,3)]=true
structure Tys.Ok (P:Program) (y:Tys):Prop extends y.OkP P where
 entry:isSt P y.entry 2 [(y.ints,0),(y.ints,1)]=true
 entries:isSl P y.entries y.entry=true
 bufs:isSl P y.bufs y.entries=true
 config:isSt P y.config 3 [(y.ints,0),(y.ints,1),(y.bufs,2)]=true
 choice:isSt P y.choice 3 [(y.int,0),(y.int,1),(y.int,2)]=true
section
variable {P:Program} {t e:TypeId} {k:IntKind}
theorem isInt.u (h:isInt P t k=true):P.underlying t=some (.int k):=by
 simp only [isInt,Bool.and_eq_true] at h
 have h:=h.1
 split at h
 ·rename_i hu; rw [hu,of_decide_eq_true h]
 ·simp at h
theorem isInt.c (h:isInt P t k=true):P.cellsOf t=1:=by
 simp only [isInt,Bool.and_eq_true,decide_eq_true_eq] at h; exact h.2
theorem isBool.u (h:isBool P t=true):P.underlying t=some .bool:=by
 simp only [isBool,Bool.and_eq_true] at h
 have h:=h.1
 split at h
 ·rename_i hu; exact hu
 ·simp at h
theorem isBool.c (h:isBool P t=true):P.cellsOf t=1:=by
 simp only [isBool,Bool.and_eq_true,decide_eq_true_eq] at h; exact h.2
theorem isStr.u (h:isStr P t=true):P.underlying t=some .string:=by
 simp only [isStr,Bool.and_eq_true] at h
 have h:=h.1
 split at h
 ·rename_i hu; exact hu
 ·simp at h
theorem isStr.c (h:isStr P t=true):P.cellsOf t=1:=by
 simp only [isStr,Bool.and_eq_true,decide_eq_true_eq] at h; exact h.2
theorem isSl.u (h:isSl P t e=true):P.underlying t=some (.slice e):=by
 simp only [isSl,Bool.and_eq_true] at h
 have h:=h.1.1.1
 split at h
 ·rename_i hu; rw [hu,of_decide_eq_true h]
 ·simp at h
theorem isSl.p (h:isSl P t e=true):0<P.bytesOf e/\0<P.cellsOf e/\P.cellsOf t=1:=by
 simp only [isSl,Bool.and_eq_true,decide_eq_true_eq] at h; exact ⟨h.1.1.2,h.1.2,h.2⟩
theorem isSl.c (h:isSl P t e=true):P.cellsOf t=1:=(isSl.p h).2.2
theorem isSt.c {tot:Nat} {fs:List (TypeId×Nat)} (h:isSt P t tot fs=true):P.cellsOf t=tot:=by
 simp only [isSt,Bool.and_eq_true,decide_eq_true_eq] at h; exact h.2
end
section
variable {H:Type} {enc:TypeId×Value->H} {P:Program} {W:World} {nm:Nat->Nat} {y:Tys}
theorem rd_sl {α:Type} {t e:TypeId} {f:α->List T} {good:α->Prop} (h:isSl P t e=true) (n:Nat) (hr : ∀ m,m<n->Rd enc P W nm m e f good) :
 Rd enc P W nm n t (fun l:List α=>[.sl (l.map f)]) (fun l=>l.length<=reachBytes /\ ∀ a∈l,good a):=rd_slice (isSl.u h) (isSl.p h).1 (isSl.p h).2.1 n hr
theorem rd_st {α:Type} {t:TypeId} {fs:List (TypeId×Nat)} {tot:Nat} {f:α->List T} {good:α->Prop} (h:isSt P t tot fs=true) (n:Nat)
 (hr : ∀ m,m<n->RdF enc P W nm m tot fs 0 f good):Rd enc P W nm n t f good:=by
 have hc:=isSt.c h
 simp only [isSt,Bool.and_eq_true] at h
 exact rd_struct h.1 hc n hr
theorem rd_i (hy:y.OkP P) (n:Nat):Rd enc P W nm n y.int (fun i:Int=>[ti i]) (fun _=>True) :=
 (rd_int (isInt.u hy.int) n).conv fun i _=>⟨i,trivial,rfl⟩
theorem rd_b (hy:y.OkP P) (n:Nat):Rd enc P W nm n y.bool (fun b:Bool=>[tb b]) (fun _=>True):=rd_bool (isBool.u hy.bool) n
theorem rd_s (hy:y.OkP P) (n:Nat):Rd enc P W nm n y.str (fun s:ByteArray=>[.str s]) (fun s=>s.size<=reachBytes):=rd_str (isStr.u hy.str) n
theorem rd_ints (hy:y.OkP P) (n:Nat):Rd enc P W nm n y.ints (fun l:List Int=>[ints l]) (fun _=>True) :=
 (rd_sl hy.ints n fun m _=>rd_i hy m).conv fun l _=>⟨l,trivial,rfl⟩
theorem rd_u8 (hy:y.OkP P) (n:Nat):Rd enc P W nm n y.u8 (fun i:Int=>[.int .u8 i]) (fun i=>0<=i/\i<256) :=
 (rd_int (isInt.u hy.u8) n).conv fun i h=>⟨i,by simp [Lit.wf,IntKind.min,IntKind.max,IntKind.signed,IntKind.bits] at h; omega,rfl⟩
theorem rd_bytes (hy:y.OkP P) (n:Nat):Rd enc P W nm n y.bytes (fun l:List Int=>[.sl (l.map fun n=>[.int .u8 n])]) (fun l => ∀ k∈l,0<=k/\k<256) :=
 (rd_sl hy.bytes n fun m _=>rd_u8 hy m).conv fun l h=>⟨l,h.2,rfl⟩
theorem rd_expr (hy:y.OkP P) (n:Nat):Rd enc P W nm n y.expr Expr.enc (fun _=>True):=by
 induction n using Nat.strongRecOn with
 | _ n ih =>
  refine (rd_st hy.expr n fun m hm=>rdF_cons (isInt.c hy.int) (rd_i hy m) (rdF_cons (isInt.c hy.int) (rd_i hy m) (rdF_cons (isInt.c hy.int) (rd_i hy m) (rdF_cons (isSl.c hy.exprs) (rd_sl hy.exprs m fun j hj=>ih j (by omega)) rdF_nil)))).conv ?_
  rintro ⟨op,w,k,ks,u⟩ _
  exact ⟨.mk op w k ks,trivial,(Expr.enc_eq (.mk op w k ks)).symm⟩
theorem rd_exprs (hy:y.OkP P) (n:Nat):Rd enc P W nm n y.exprs (fun l:List Expr=>[.sl (l.map Expr.enc)]) (fun _=>True) :=
 (rd_sl hy.exprs n fun m _=>rd_expr hy m).conv fun l _=>⟨l,trivial,rfl⟩
theorem rd_cell (hy:y.OkP P) (n:Nat):Rd enc P W nm n y.cell Cell.enc (fun c=>c.name.size<=reachBytes):=by
 refine (rd_st hy.cell n fun m hm=>rdF_cons (isStr.c hy.str) (rd_s hy m) (rdF_cons (isInt.c hy.int) (rd_i hy m) (rdF_cons (isInt.c hy.int) (rd_i hy m) (rdF_cons (isInt.c hy.int) (rd_i hy m) (rdF_cons (isBool.c hy.bool) (rd_b hy m) (rdF_cons (isInt.c hy.int) (rd_i hy m) rdF_nil)))))).conv ?_
 rintro ⟨a,b,c,d,e,f,u⟩ h
 exact ⟨⟨a,b,c,d,e,f⟩,h.1,rfl⟩
theorem rd_assign (hy:y.OkP P) (n:Nat):Rd enc P W nm n y.assign Assign.enc (fun _=>True):=by
 refine (rd_st hy.assign n fun m hm=>rdF_cons (isInt.c hy.int) (rd_i hy m) (rdF_cons (isSt.c hy.expr) (rd_expr hy m) rdF_nil)).conv ?_
 rintro ⟨a,b,u⟩ h
 exact ⟨⟨a,b⟩,trivial,by simp [Assign.enc]⟩
theorem rd_assigns (hy:y.OkP P) (n:Nat):Rd enc P W nm n y.assigns (fun l:List Assign=>[.sl (l.map Assign.enc)]) (fun _=>True) :=
 (rd_sl hy.assigns n fun m _=>rd_assign hy m).conv fun l _=>⟨l,trivial,rfl⟩
theorem rd_step (hy:y.OkP P) (n:Nat):Rd enc P W nm n y.step Step.enc (fun _=>True):=by
 refine (rd_st hy.step n fun m hm=>rdF_cons (isInt.c hy.int) (rd_i hy m) (rdF_cons (isInt.c hy.int) (rd_i hy m) (rdF_cons (isInt.c hy.int) (rd_i hy m) (rdF_cons (isSt.c hy.expr) (rd_expr hy m) (rdF_cons (isSl.c hy.assigns) (rd_assigns hy m) (rdF_cons (isBool.c hy.bool) (rd_b hy m)
  (rdF_cons (isInt.c hy.int) (rd_i hy m) (rdF_cons (isInt.c hy.int) (rd_i hy m) rdF_nil)))))))).conv ?_
 rintro ⟨a,b,c,d,e,f,g,i,u⟩ h
 exact ⟨⟨a,b,c,d,e,f,g,i⟩,trivial,by simp [Step.enc]⟩
theorem rd_loop (hy:y.OkP P) (n:Nat):Rd enc P W nm n y.loop Loop.enc (fun _=>True):=by
 refine (rd_st hy.loop n fun m hm=>rdF_cons (isInt.c hy.int) (rd_i hy m) (rdF_cons (isSl.c hy.ints) (rd_ints hy m) (rdF_cons (isSt.c hy.expr) (rd_expr hy m) rdF_nil))).conv ?_
 rintro ⟨a,b,c,u⟩ h
 exact ⟨⟨a,b,c⟩,trivial,by simp [Loop.enc]⟩
theorem rd_thread (hy:y.OkP P) (n:Nat):Rd enc P W nm n y.thread Thread.enc (fun x=>x.name.size<=reachBytes/\x.steps.length<=reachBytes):=by
 refine (rd_st hy.thread n fun m hm=>rdF_cons (isStr.c hy.str) (rd_s hy m) (rdF_cons (isInt.c hy.int) (rd_i hy m) (rdF_cons (isSl.c hy.exprs) (rd_exprs hy m) (rdF_cons (isSl.c hy.ints) (rd_ints hy m)
  (rdF_cons (isSl.c hy.steps) (rd_sl hy.steps m fun j _=>rd_step hy j) (rdF_cons (isSl.c hy.loops) (rd_sl hy.loops m fun j _=>rd_loop hy j) (rdF_cons (isBool.c hy.bool) (rd_b hy m) rdF_nil))))))).conv ?_
 rintro ⟨a,b,c,d,e,f,g,u⟩ h
 exact ⟨⟨a,b,c,d,e,f,g⟩,⟨h.1,h.2.2.2.2.1.1⟩,rfl⟩
theorem rd_contract (hy:y.OkP P) (n:Nat):Rd enc P W nm n y.contract Contract.enc (fun x=>x.name.size<=reachBytes/\x.owner.size<=reachBytes):=by
 refine (rd_st hy.contract n fun m hm=>rdF_cons (isStr.c hy.str) (rd_s hy m) (rdF_cons (isStr.c hy.str) (rd_s hy m) (rdF_cons (isSt.c hy.expr) (rd_expr hy m) (rdF_cons (isSt.c hy.expr) (rd_expr hy m) (rdF_cons (isSl.c hy.ints) (rd_ints hy m) rdF_nil))))).conv ?_
 rintro ⟨a,b,c,d,e,u⟩ h
 exact ⟨⟨a,b,c,d,e⟩,⟨h.1,h.2.1⟩,by simp [Contract.enc]⟩
theorem rd_lock (hy:y.OkP P) (n:Nat):Rd enc P W nm n y.lock Lock.enc (fun _=>True):=by
 refine (rd_st hy.lock n fun m hm=>rdF_cons (isInt.c hy.int) (rd_i hy m) (rdF_cons (isSt.c hy.expr) (rd_expr hy m) (rdF_cons (isInt.c hy.int) (rd_i hy m) rdF_nil))).conv ?_
 rintro ⟨a,b,c,u⟩ h
 exact ⟨⟨a,b,c⟩,trivial,by simp [Lock.enc]⟩
structure Prog.inMem (p:Prog):Prop where
 cells : ∀ c∈p.cells,c.name.size<=reachBytes
 modules : ∀ m∈p.modules,m.name.size<=reachBytes/\m.owner.size<=reachBytes
 threads : ∀ x∈p.threads,x.name.size<=reachBytes/\x.steps.length<=reachBytes
theorem rd_prog (hy:y.OkP P) (n:Nat):Rd enc P W nm n y.prog Prog.enc Prog.inMem:=by
 refine (rd_st hy.prog n fun m hm=>rdF_cons (isSl.c hy.cells) (rd_sl hy.cells m fun j _=>rd_cell hy j) (rdF_cons (isSl.c hy.contracts) (rd_sl hy.contracts m fun j _=>rd_contract hy j)
  (rdF_cons (isSl.c hy.locks) (rd_sl hy.locks m fun j _=>rd_lock hy j) (rdF_cons (isSl.c hy.threads) (rd_sl hy.threads m fun j _=>rd_thread hy j) rdF_nil)))).conv ?_
 rintro ⟨a,b,c,d,u⟩ h
 exact ⟨⟨a,b,c,d⟩,⟨h.1.2,h.2.1.2,h.2.2.2.1.2⟩,rfl⟩
end
end Rg
end
section
namespace Rg
open Go Go.ChangeShapes
section
variable {H:Type} {enc:TypeId×Value->H} {P:Program}
theorem trodAll_stays {W W' : World} {sp:Nat->Bool} (hl:laidOutB P=true) : ∀ {ts:List TypeId} {vs:List Value} {ds:List (DataW H)} {ps:List MemPlace},
 (∀ t∈ts,P.readableRec t=true/\t<P.types.size)->DataW.TrodAll enc P W 0 (fun _=>true) true ts vs ds ps->(∀ p∈ps,W.sameAt W' p)->(∀ p∈ps,sp p.block=true)->DataW.TrodAll enc P W' 0 sp true ts vs ds ps
 | [],[],[],ps,_,h,_,_=>h
 | t::ts,v::vs,d::ds,ps,hr,h,hs,hp=>by
  obtain ⟨p,q,h1,h2,rfl⟩:=h
  exact ⟨p,q,WideElems.Trod_stays hl (hr t List.mem_cons_self).1 (hr t List.mem_cons_self).2 h1 (fun x hx=>hs x (List.mem_append_left _ hx)) (fun x hx=>hp x (List.mem_append_left _ hx)),
   trodAll_stays hl (fun t ht=>hr t (List.mem_cons_of_mem _ ht)) h2 (fun x hx=>hs x (List.mem_append_right _ hx)) (fun x hx=>hp x (List.mem_append_right _ hx)),rfl⟩
 | [],[],_::_,_,_,h,_,_=>by cases h
 | [],_::_,_,_,_,h,_,_=>by cases h
 | _::_,[],_,_,_,h,_,_=>by cases h
 | _::_,_::_,[],_,_,h,_,_=>by cases h
theorem same_of_heap {W W' : World} (h : ∀ q,q<W.heap.size->W'.heap[q]? = W.heap[q]?) {p:MemPlace} (hp:p.block<W.heap.size):W.sameAt W' p:=by
 cases p with
 | cell b off=>exact cell?_eq (h b hp)
 | map b=>exact h b hp
theorem kept_of_heap {W W' : World} (ho:W'.os=W.os) (hu:W'.output=W.output) (h : ∀ q,q<W.heap.size->W'.heap[q]? = W.heap[q]?) (may:MemPlace->Prop):W.keptBut W' may:=by
 refine ⟨ho,hu,fun i hi => ?_⟩
 rw [h i hi]
 split
 ·rename_i h1 h2
  rw [h1] at h2; cases h2
  exact ⟨rfl,rfl,rfl,fun _ _=>rfl⟩
 ·rename_i h1 h2
  rw [h1] at h2; cases h2
  exact .inr ⟨rfl,rfl⟩
 ·rfl
theorem calls_true {N:Nam} {g f:Nat} {fn:Func} {s:ChangeSpec} {W:World} {args:Array Value} {ds gs:List (DataW H)} {before:List MemPlace} {av:List V} {tb:TypeId}
 (hp:PureOK P N g av (vb true)) (hg:N.nm g=f) (hG:GlobOK N (fun r=>r<W.heap.size) W) (ha:RepArgs W (fun r=>r<W.heap.size) N.nm (fun _=>0) (fun _=>none) args av)
 (hl:laidOutB P=true) (hr : ∀ t∈fn.params.toList,P.readableRec t=true/\t<P.types.size) (hrt:fn.resultTypes = #[tb]) (htb:P.underlying tb=some .bool)
 (hv:s.vars=[]) (hW:DataW.Whole enc P fn.params.toList s.vars false W args.toList ds gs before)
 (hs:gs=[]->s.fn H (ds++gs) = { results:=[.lit (.bool true)],args:=ds }) :
 Calls P f args W fun e W' => ∃ v,e = .returned v/\s.post enc P fn false true false false W args v W' := by
 subst hg
 refine (hp _ W args (fun r h=>h) hG ha).mono fun e W' ⟨v,he,⟨ho,hu⟩,hsz,hhp,hrv⟩=>⟨v,he, ?_⟩
 have hvt:v = .bool true:=by
  have h1:RepT W' _ N.nm v (.bool true):=RepV.t_inv hrv
  cases h1; rfl
 subst hvt
 have hlt:=hW.lt
 have hW' := hW
 obtain ⟨p,q,hA,hV,rfl,hfz,hnd⟩:=hW'
 have hgs:gs=[]/\q=[]:=by rw [hv] at hV; exact trodVars_none hV
 obtain ⟨rfl,rfl⟩:=hgs
 refine ⟨ds,[],p++[],[],p,[],hW, ?_, ?_, ?_,kept_of_heap ho hu hhp _,fun h=>by cases h⟩
 ·rw [hs rfl,hrt]
  exact trodAll_mk1 ⟨1,by simp [DataW.trod,htb,Value.cells]⟩
 ·rw [hs rfl]
  refine trodAll_stays hl hr hA (fun x hx=>same_of_heap hhp (hlt x (by simpa using hx))) (fun x hx => ?_)
  simpa using hlt x (by simpa using hx)
 ·rw [hs rfl,hv]; rfl
end
section
variable {W:World} {nm:Nat->Nat} {A:Nat->Prop} {μ:Nat->Nat} {HO:Nat->Option O}
theorem repArgs_list : ∀ {vs:List Value} {xs:List V},vs.length=xs.length->(∀ (i:Nat) (x:V) (v:Value),xs[i]? = some x->vs[i]? = some v->RepV W A nm μ HO v x)->RepArgs W A nm μ HO vs.toArray xs
 | vs,xs,hl,h=>⟨by simpa using hl,fun i x hx=>by
  have:i<vs.length:=by rw [hl]; exact (List.getElem?_eq_some_iff.1 hx).1
  exact ⟨vs[i],by simp,h i x _ hx (by simp)⟩⟩
theorem reps_agg {cs:Array Value} {xs:List T} (h:Reps W nm cs.toList xs):RepV W (fun r=>r<W.heap.size) nm μ HO (.agg cs) (.agg (xs.map V.t)):=by
 refine ⟨cs,rfl,by rw [List.length_map]; exact h.1,fun i c hc => ?_⟩
 rw [List.getElem?_map,Option.map_eq_some_iff] at hc
 obtain ⟨x,hx,rfl⟩:=hc
 obtain ⟨v,hv,hr⟩:=h.2 i x hx
 exact ⟨v,hv, .t hr⟩
theorem reps_one {v:Value} {x:T} (h:Reps W nm [v] [x]):RepV W (fun r=>r<W.heap.size) nm μ HO v (.t x):=by
 obtain ⟨u,hu,hr⟩:=h.2 0 x rfl
 simp at hu; subst hu
 exact RepC.toV (.t hr)
end
end Rg
end

/- Part of the proof of laws of relyguardlaw31. No condition. -/
import Derived.Test.YtcmeofagpechdaaGreatDoorRows
import Derived.KernelRfl
import Derived.Test.YtcmeofagpechdaaGreatDoorRartAP
import Derived.Test.YtcmeofagpechdaaGreatDoorRartAN
import Derived.ChangeArms
import GoSem.ClaimJoined
set_option linter.unusedVariables false
set_option linter.unusedSimpArgs false
section
set_option maxRecDepth 100000
namespace Rg
open Go Go.Proofs Go.Proofs.YtcmeofagpechdaaGreatDoor
namespace Seat
def tbl:List Nat:=[2,1000001,1000002,1000003,1000004,1000005,1000006,1000007,1000008,42,1000010,55,20,1000013,1000014,1000015,1000016,56,23,45,51,97,1000022,89,140,21,1000026,100,125,1000029,1000030,124,53,134,101,1000035,88,102,44,19,1000040,1000041,24,48,49,50,95,132,142,178,46,144,1000052,1000053,1000054,1000055,145,174,1000058,1000059,173,63,64,1000063,65,43,52,99,180,96,184,185,186,187,70,71,193,201,202,110,111,112,113,114,90,91,92,93,94,209,143,210,211,117,118,147,98,148,149,150,151,152,153,154,155,156,157,158,159,133,135,136,137,138,139,141,222,181,182,183,160,161,162,163,164,165,166,167,168,169,170,188,189,190,191,192,194,177,179,195,196,197,198,199,200,212,213,214,215,216,217,218,219,220,203,204,205,206,207,208,221,223,224,225,226,227,228,249,1000168,1000169,1000170,1000171,1000172,1000173,1000174,1000175,1000176,1000177,1000178,26,27,1000181,1000182,1000183,1000184,1000185,1000186,57,58,59,60,61,62,1000193,1000194,103,104,1000197,74,105,106,107,108,109,1000204,146,122,172,1000208,1000209,1000210,1000211,1000212,1000213,1000214,1000215,1000216,1000217,1000218,1000219,1000220,1000221,1000222,1000223,47,1000225,1000226,1000227,126,1000229,1000230,1000231,1000232,1000233,1000234,1000235,1000236,1000237,1000238,1000239,1000240,1000241,1000242,1000243,1000244,1000245,1000246,1000247,1000248,1000249,1000250,1000251,1000252,175,1000254,1000255,1000256,1000257,1000258,1000259,1000260,1000261,1000262,1000263,1000264,1000265,1000266,1000267,1000268,1000269,1000270,1000271,1000272,1000273,1000274,1000275,1000276,1000277,1000278,1000279,1000280,1000281,1000282,1000283,1000284,1000285,1000286,1000287,1000288,12,1000290,1000291,1000292,1000293,1000294,1000295,1000296,1000297,1000298,36,37,38,1000302,1000303,1000304,1000305,1000306,76,1000308,77,78,79,80,81,82,83,84,1000317,127,128,129,130,131,1000323,1000324,176,1000326,1000327,1000328,1000329,1000330,1000331,1000332,1000333,1000334,1000335,1000336,1000337,1000338,1000339,1000340,1000341,1000342,1000343,1000344,1000345,1000346,1000347,1000348,1000349,1000350,1000351,1000352,1000353,1000354,1000355,1000356,1000357,1000358,1000359,1000360,1000361,1000362,1000363,1000364,1000365,1000366,1000367,1000368,1000369,1000370,1000371,1000372,1000373,1000374,1000375,1000376,1000377,1000378,1000379,1000380,1000381,1000382,1000383,1000384,1000385,1000386,1000387,1000388,1000389,1000390,1000391,1000392,1000393,1000394,3,4,5,6,7,8,9,10,11,13,14,15,16,17,18,22,25,28,29,30,31,32,33,34,35,39,40,41,54,66,67,68,69,72,73,75,85,86,87,115,116,119,120,121,123,171]
def I:Inv:=⟨fun f=>tbl.findIdx? (· ==f),fun g=>if g=0 then some 0 else none,none⟩
def N:Nam:=⟨fun k=>tbl.getD k 0,fun k=>[0].getD k 0,G,CR Tryz.prog I,0,0⟩
def zap (s:List Nat):Raws:=⟨[52,53,54,57,60,70,74,75,76,77,83,93,97,120,121,122,123,124,125,127,128,136,139,141,142,143,158,160,199,200,202,203,236,241,244,245,246,258,260,261,295,300,301,302,310,315,317,322,323,324,326,425,426],s,[32,78,198]⟩
def Ent (q:Nat×F):Prop:=(∃rf rw L raw,Tryz.prog.funcs[N.nm q.1]? =some rf/\zig Tryz.prog I rw L raw rf=some q.2)\/ ∃e,q.2.body= .ext e/\zjY Tryz.prog N q.1 e
theorem e9:Ent (9,f9):=.inl ⟨Tryz.f42,zap [],[5,1],false,Tryz.func42,by kernel_rfl⟩
theorem e11:Ent (11,f11):=.inl ⟨Tryz.f55,zap [],[3,2],false,Tryz.func55,by kernel_rfl⟩
theorem e12:Ent (12,f12):=.inl ⟨Tryz.f20,zap [],[3,2,1],false,Tryz.func20,by kernel_rfl⟩
theorem e17:Ent (17,f17):=.inl ⟨Tryz.f56,zap [],[3,2],false,Tryz.func56,by kernel_rfl⟩
theorem e18:Ent (18,f18):=.inl ⟨Tryz.f23,zap [],[9,6,5,4,3],false,Tryz.func23,by kernel_rfl⟩
theorem e23:Ent (23,f23):=.inl ⟨Tryz.f89,zap [],[2],false,Tryz.func89,by kernel_rfl⟩
theorem e24:Ent (24,f24):=.inl ⟨Tryz.f140,zap [],[3],false,Tryz.func140,by kernel_rfl⟩
theorem e27:Ent (27,f27):=.inl ⟨Tryz.f100,zap [],[],false,Tryz.func100,by kernel_rfl⟩
theorem e28:Ent (28,f28):=.inl ⟨Tryz.f125,zap [],[5,1],false,Tryz.func125,by kernel_rfl⟩
theorem e31:Ent (31,f31):=.inl ⟨Tryz.f124,zap [],[6,1],false,Tryz.func124,by kernel_rfl⟩
theorem e33:Ent (33,f33):=.inl ⟨Tryz.f134,zap [],[],false,Tryz.func134,by kernel_rfl⟩
theorem e34:Ent (34,f34):=.inl ⟨Tryz.f101,zap [],[],false,Tryz.func101,by kernel_rfl⟩
theorem e36:Ent (36,f36):=.inl ⟨Tryz.f88,zap [],[1],false,Tryz.func88,by kernel_rfl⟩
theorem e37:Ent (37,f37):=.inl ⟨Tryz.f102,zap [],[],false,Tryz.func102,by kernel_rfl⟩
theorem e38:Ent (38,f38):=.inl ⟨Tryz.f44,zap [],[1],false,Tryz.func44,by kernel_rfl⟩
theorem e39:Ent (39,f39):=.inl ⟨Tryz.f19,zap [],[1],false,Tryz.func19,by kernel_rfl⟩
theorem e43:Ent (43,f43):=.inl ⟨Tryz.f48,zap [],[9,3,2],false,Tryz.func48,by kernel_rfl⟩
theorem e44:Ent (44,f44):=.inl ⟨Tryz.f49,zap [],[3,2],false,Tryz.func49,by kernel_rfl⟩
theorem e45:Ent (45,f45):=.inl ⟨Tryz.f50,zap [],[10,8,7,6,5,4,3],false,Tryz.func50,by kernel_rfl⟩
theorem e47:Ent (47,f47):=.inl ⟨Tryz.f132,zap [],[2],false,Tryz.func132,by kernel_rfl⟩
theorem e48:Ent (48,f48):=.inl ⟨Tryz.f142,zap [],[1],false,Tryz.func142,by kernel_rfl⟩
theorem e49:Ent (49,f49):=.inl ⟨Tryz.f178,zap [],[3],false,Tryz.func178,by kernel_rfl⟩
theorem e51:Ent (51,f51):=.inl ⟨Tryz.f144,zap [7],[],false,Tryz.func144,by kernel_rfl⟩
theorem e56:Ent (56,f56):=.inl ⟨Tryz.f145,zap [],[7],false,Tryz.func145,by kernel_rfl⟩
theorem e57:Ent (57,f57):=.inl ⟨Tryz.f174,zap [],[],true,Tryz.func174,by kernel_rfl⟩
theorem e60:Ent (60,f60):=.inl ⟨Tryz.f173,zap [],[],true,Tryz.func173,by kernel_rfl⟩
theorem e61:Ent (61,f61):=.inl ⟨Tryz.f63,zap [],[4],false,Tryz.func63,by kernel_rfl⟩
theorem e62:Ent (62,f62):=.inl ⟨Tryz.f64,zap [],[4],false,Tryz.func64,by kernel_rfl⟩
theorem e64:Ent (64,f64):=.inl ⟨Tryz.f65,zap [],[13,5,1],false,Tryz.func65,by kernel_rfl⟩
theorem e65:Ent (65,f65):=.inl ⟨Tryz.f43,zap [],[1],false,Tryz.func43,by kernel_rfl⟩
theorem e67:Ent (67,f67):=.inl ⟨Tryz.f99,zap [],[9,5,4],false,Tryz.func99,by kernel_rfl⟩
theorem e68:Ent (68,f68):=.inl ⟨Tryz.f180,zap [],[2],false,Tryz.func180,by kernel_rfl⟩
theorem e70:Ent (70,f70):=.inl ⟨Tryz.f184,zap [38],[],true,Tryz.func184,by kernel_rfl⟩
theorem e71:Ent (71,f71):=.inl ⟨Tryz.f185,zap [],[],false,Tryz.func185,by kernel_rfl⟩
theorem e72:Ent (72,f72):=.inl ⟨Tryz.f186,zap [],[],false,Tryz.func186,by kernel_rfl⟩
theorem e73:Ent (73,f73):=.inl ⟨Tryz.f187,zap [],[3],false,Tryz.func187,by kernel_rfl⟩
theorem e74:Ent (74,f74):=.inr ⟨.sortI,rfl,znj Tryz.lays189 (by kernel_rfl) (rf:=Tryz.f70) ⟨Tryz.func70,by kernel_rfl,by kernel_rfl⟩⟩
theorem e75:Ent (75,f75):=.inr ⟨.compactI,rfl,zh9 Tryz.lays2n20 (by kernel_rfl) (rf:=Tryz.f71) ⟨Tryz.func71,by kernel_rfl,by kernel_rfl⟩⟩
theorem e76:Ent (76,f76):=.inl ⟨Tryz.f193,zap [13],[],true,Tryz.func193,by kernel_rfl⟩
theorem e77:Ent (77,f77):=.inl ⟨Tryz.f201,zap [],[],true,Tryz.func201,by kernel_rfl⟩
theorem e78:Ent (78,f78):=.inl ⟨Tryz.f202,zap [],[1],true,Tryz.func202,by kernel_rfl⟩
theorem e79:Ent (79,f79):=.inl ⟨Tryz.f110,zap [],[6,4,1],false,Tryz.func110,by kernel_rfl⟩
theorem e80:Ent (80,f80):=.inl ⟨Tryz.f111,zap [],[5,1],false,Tryz.func111,by kernel_rfl⟩
theorem e81:Ent (81,f81):=.inl ⟨Tryz.f112,zap [],[5,1],false,Tryz.func112,by kernel_rfl⟩
theorem e82:Ent (82,f82):=.inl ⟨Tryz.f113,zap [],[6,5,1],false,Tryz.func113,by kernel_rfl⟩
theorem e83:Ent (83,f83):=.inl ⟨Tryz.f114,zap [],[14,12],true,Tryz.func114,by kernel_rfl⟩
theorem e84:Ent (84,f84):=.inl ⟨Tryz.f90,zap [],[5,1],false,Tryz.func90,by kernel_rfl⟩
theorem e85:Ent (85,f85):=.inl ⟨Tryz.f91,zap [],[4,1],false,Tryz.func91,by kernel_rfl⟩
theorem e86:Ent (86,f86):=.inl ⟨Tryz.f92,zap [],[4,1],false,Tryz.func92,by kernel_rfl⟩
theorem e87:Ent (87,f87):=.inl ⟨Tryz.f93,zap [],[4,1],false,Tryz.func93,by kernel_rfl⟩
theorem e88:Ent (88,f88):=.inl ⟨Tryz.f94,zap [],[13,6,2],false,Tryz.func94,by kernel_rfl⟩
theorem e89:Ent (89,f89):=.inl ⟨Tryz.f209,zap [],[1],false,Tryz.func209,by kernel_rfl⟩
theorem e91:Ent (91,f91):=.inl ⟨Tryz.f210,zap [],[],false,Tryz.func210,by kernel_rfl⟩
theorem e92:Ent (92,f92):=.inl ⟨Tryz.f211,zap [],[],false,Tryz.func211,by kernel_rfl⟩
theorem e95:Ent (95,f95):=.inl ⟨Tryz.f147,zap [],[],false,Tryz.func147,by kernel_rfl⟩
theorem e96:Ent (96,f96):=.inl ⟨Tryz.f98,zap [],[],false,Tryz.func98,by kernel_rfl⟩
theorem e97:Ent (97,f97):=.inl ⟨Tryz.f148,zap [],[5],true,Tryz.func148,by kernel_rfl⟩
theorem e98:Ent (98,f98):=.inl ⟨Tryz.f149,zap [],[1],false,Tryz.func149,by kernel_rfl⟩
theorem e99:Ent (99,f99):=.inl ⟨Tryz.f150,zap [],[5,4],false,Tryz.func150,by kernel_rfl⟩
theorem zvW:Ent (100,f100):=.inl ⟨Tryz.f151,zap [],[2],false,Tryz.func151,by kernel_rfl⟩
theorem zvV:Ent (101,f101):=.inl ⟨Tryz.f152,zap [],[],false,Tryz.func152,by kernel_rfl⟩
theorem zvU:Ent (102,f102):=.inl ⟨Tryz.f153,zap [],[],false,Tryz.func153,by kernel_rfl⟩
theorem zvT:Ent (103,f103):=.inl ⟨Tryz.f154,zap [],[],false,Tryz.func154,by kernel_rfl⟩
theorem zvS:Ent (104,f104):=.inl ⟨Tryz.f155,zap [],[],false,Tryz.func155,by kernel_rfl⟩
theorem zvR:Ent (105,f105):=.inl ⟨Tryz.f156,zap [],[13,12,7,6,4],false,Tryz.func156,by kernel_rfl⟩
theorem zvQ:Ent (106,f106):=.inl ⟨Tryz.f157,zap [],[],false,Tryz.func157,by kernel_rfl⟩
theorem zvP:Ent (107,f107):=.inl ⟨Tryz.f158,zap [],[],false,Tryz.func158,by kernel_rfl⟩
theorem zvO:Ent (108,f108):=.inl ⟨Tryz.f159,zap [],[2],false,Tryz.func159,by kernel_rfl⟩
theorem zvN:Ent (109,f109):=.inl ⟨Tryz.f133,zap [],[],false,Tryz.func133,by kernel_rfl⟩
theorem zvM:Ent (110,f110):=.inl ⟨Tryz.f135,zap [],[],false,Tryz.func135,by kernel_rfl⟩
theorem zvL:Ent (111,f111):=.inl ⟨Tryz.f136,zap [],[1],false,Tryz.func136,by kernel_rfl⟩
theorem zvK:Ent (112,f112):=.inl ⟨Tryz.f137,zap [],[5,4],false,Tryz.func137,by kernel_rfl⟩
theorem zvJ:Ent (113,f113):=.inl ⟨Tryz.f138,zap [],[],false,Tryz.func138,by kernel_rfl⟩
theorem zvI:Ent (114,f114):=.inl ⟨Tryz.f139,zap [],[5,3],false,Tryz.func139,by kernel_rfl⟩
theorem zvH:Ent (115,f115):=.inl ⟨Tryz.f141,zap [],[5,4],false,Tryz.func141,by kernel_rfl⟩
theorem zvG:Ent (116,f116):=.inl ⟨Tryz.f222,zap [],[],false,Tryz.func222,by kernel_rfl⟩
theorem zvF:Ent (126,f126):=.inl ⟨Tryz.f166,zap [],[],false,Tryz.func166,by kernel_rfl⟩
theorem zvE:Ent (131,f131):=.inl ⟨Tryz.f188,zap [],[],false,Tryz.func188,by kernel_rfl⟩
theorem zvD:Ent (132,f132):=.inl ⟨Tryz.f189,zap [],[],false,Tryz.func189,by kernel_rfl⟩
theorem zvC:Ent (133,f133):=.inl ⟨Tryz.f190,zap [],[],false,Tryz.func190,by kernel_rfl⟩
theorem zvB:Ent (134,f134):=.inl ⟨Tryz.f191,zap [],[],false,Tryz.func191,by kernel_rfl⟩
theorem zvA:Ent (135,f135):=.inl ⟨Tryz.f192,zap [],[0],false,Tryz.func192,by kernel_rfl⟩
theorem zvz:Ent (136,f136):=.inl ⟨Tryz.f194,zap [],[],true,Tryz.func194,by kernel_rfl⟩
theorem zvy:Ent (137,f137):=.inl ⟨Tryz.f177,zap [],[12,5,3],false,Tryz.func177,by kernel_rfl⟩
theorem zvx:Ent (138,f138):=.inl ⟨Tryz.f179,zap [],[1],false,Tryz.func179,by kernel_rfl⟩
theorem zvw:Ent (144,f144):=.inl ⟨Tryz.f200,zap [],[],false,Tryz.func200,by kernel_rfl⟩
theorem zvv:Ent (145,f145):=.inl ⟨Tryz.f212,zap [],[],false,Tryz.func212,by kernel_rfl⟩
theorem zvu:Ent (146,f146):=.inl ⟨Tryz.f213,zap [],[],false,Tryz.func213,by kernel_rfl⟩
theorem zvt:Ent (147,f147):=.inl ⟨Tryz.f214,zap [],[5,3],false,Tryz.func214,by kernel_rfl⟩
theorem zvs:Ent (148,f148):=.inl ⟨Tryz.f215,zap [],[11,9,5,3],false,Tryz.func215,by kernel_rfl⟩
theorem zvr:Ent (149,f149):=.inl ⟨Tryz.f216,zap [],[5],false,Tryz.func216,by kernel_rfl⟩
theorem zvq:Ent (150,f150):=.inl ⟨Tryz.f217,zap [],[5,3],false,Tryz.func217,by kernel_rfl⟩
theorem zvp:Ent (151,f151):=.inl ⟨Tryz.f218,zap [],[5,3],false,Tryz.func218,by kernel_rfl⟩
theorem zvo:Ent (152,f152):=.inl ⟨Tryz.f219,zap [],[5,3],false,Tryz.func219,by kernel_rfl⟩
theorem zvn:Ent (153,f153):=.inl ⟨Tryz.f220,zap [],[5,3],false,Tryz.func220,by kernel_rfl⟩
theorem zvm:Ent (154,f154):=.inl ⟨Tryz.f203,zap [],[3],false,Tryz.func203,by kernel_rfl⟩
theorem zvl:Ent (155,f155):=.inl ⟨Tryz.f204,zap [],[2],false,Tryz.func204,by kernel_rfl⟩
theorem zvk:Ent (156,f156):=.inl ⟨Tryz.f205,zap [],[3,2],false,Tryz.func205,by kernel_rfl⟩
theorem zvj:Ent (157,f157):=.inl ⟨Tryz.f206,zap [],[0],false,Tryz.func206,by kernel_rfl⟩
theorem zvi:Ent (158,f158):=.inl ⟨Tryz.f207,zap [],[3],true,Tryz.func207,by kernel_rfl⟩
theorem zvh:Ent (159,f159):=.inl ⟨Tryz.f208,zap [],[],false,Tryz.func208,by kernel_rfl⟩
theorem zvg:Ent (161,zrO):=.inl ⟨Tryz.f223,zap [],[6,2],false,Tryz.func223,by kernel_rfl⟩
theorem zvf:Ent (162,zrN):=.inl ⟨Tryz.f224,zap [],[6],false,Tryz.func224,by kernel_rfl⟩
theorem zve:Ent (163,zrM):=.inl ⟨Tryz.f225,zap [],[2],false,Tryz.func225,by kernel_rfl⟩
theorem zvd:Ent (164,zrL):=.inl ⟨Tryz.f226,zap [],[],false,Tryz.func226,by kernel_rfl⟩
theorem zvc:Ent (165,zrK):=.inl ⟨Tryz.f227,zap [],[1],false,Tryz.func227,by kernel_rfl⟩
theorem zvb:Ent (166,f166):=.inl ⟨Tryz.f228,zap [],[1],false,Tryz.func228,by kernel_rfl⟩
theorem zCh:Ent (179,f179):=.inl ⟨Tryz.f26,zap [],[7,5,3],false,Tryz.func26,by kernel_rfl⟩
theorem zCg:Ent (180,f180):=.inl ⟨Tryz.f27,zap [],[6,4],false,Tryz.func27,by kernel_rfl⟩
theorem zCf:Ent (187,f187):=.inl ⟨Tryz.f57,zap [],[6,5,3],false,Tryz.func57,by kernel_rfl⟩
theorem zCe:Ent (188,f188):=.inl ⟨Tryz.f58,zap [],[7,2],false,Tryz.func58,by kernel_rfl⟩
theorem zCd:Ent (189,f189):=.inl ⟨Tryz.f59,zap [],[9,4],false,Tryz.func59,by kernel_rfl⟩
theorem zCc:Ent (190,f190):=.inl ⟨Tryz.f60,zap [],[],false,Tryz.func60,by kernel_rfl⟩
theorem zCb:Ent (191,f191):=.inl ⟨Tryz.f61,zap [],[7,6,3],false,Tryz.func61,by kernel_rfl⟩
theorem zCa:Ent (192,f192):=.inl ⟨Tryz.f62,zap [],[11,9,8,7,6,4,3],false,Tryz.func62,by kernel_rfl⟩
theorem zB9:Ent (195,zBD):=.inl ⟨Tryz.f103,zap [],[1],false,Tryz.func103,by kernel_rfl⟩
theorem zB8:Ent (196,zBC):=.inl ⟨Tryz.f104,zap [],[11,9,3,2],false,Tryz.func104,by kernel_rfl⟩
theorem zva:Ent (198,zs0):=.inr ⟨.cloneI,rfl,zlC Tryz.lays2n15 (by kernel_rfl) (rf:=Tryz.f74) ⟨Tryz.func74,by kernel_rfl,by kernel_rfl⟩⟩
theorem zB7:Ent (199,zBu):=.inl ⟨Tryz.f105,zap [],[3],true,Tryz.func105,by kernel_rfl⟩
theorem zB6:Ent (200,f200):=.inl ⟨Tryz.f106,zap [37],[6],true,Tryz.func106,by kernel_rfl⟩
theorem zB5:Ent (201,f201):=.inl ⟨Tryz.f107,zap [],[6,3],false,Tryz.func107,by kernel_rfl⟩
theorem zB4:Ent (202,f202):=.inl ⟨Tryz.f108,zap [],[7,3,2,1],true,Tryz.func108,by kernel_rfl⟩
theorem zB3:Ent (203,f203):=.inl ⟨Tryz.f109,zap [],[],true,Tryz.func109,by kernel_rfl⟩
theorem zB2:Ent (205,f205):=.inl ⟨Tryz.f146,zap [],[7,3,2],false,Tryz.func146,by kernel_rfl⟩
theorem zu9:Ent (206,f206):=.inl ⟨Tryz.f122,zap [],[],false,Tryz.func122,by kernel_rfl⟩
theorem zu8:Ent (207,f207):=.inl ⟨Tryz.f172,zap [],[],false,Tryz.func172,by kernel_rfl⟩
theorem zu7:Ent (228,f228):=.inl ⟨Tryz.f126,zap [],[1],false,Tryz.func126,by kernel_rfl⟩
theorem zu6:Ent (253,zrJ):=.inl ⟨Tryz.f175,zap [],[7,2],false,Tryz.func175,by kernel_rfl⟩
theorem zu5:Ent (289,zrI):=.inl ⟨Tryz.f12,zap [],[2],false,Tryz.func12,by kernel_rfl⟩
theorem zu4:Ent (299,f299):=.inl ⟨Tryz.f36,zap [],[1],false,Tryz.func36,by kernel_rfl⟩
theorem zu3:Ent (300,f300):=.inl ⟨Tryz.f37,zap [],[10,7,2],true,Tryz.func37,by kernel_rfl⟩
theorem zu2:Ent (301,f301):=.inl ⟨Tryz.f38,zap [],[7],true,Tryz.func38,by kernel_rfl⟩
theorem zu1:Ent (307,zrH):=.inl ⟨Tryz.f76,zap [],[7,5,1],false,Tryz.func76,by kernel_rfl⟩
theorem zu0:Ent (309,zrG):=.inl ⟨Tryz.f77,zap [],[],false,Tryz.func77,by kernel_rfl⟩
theorem zuZ:Ent (310,zqg):=.inl ⟨Tryz.f78,zap [],[4,3],true,Tryz.func78,by kernel_rfl⟩
theorem zuY:Ent (311,zrF):=.inl ⟨Tryz.f79,zap [],[11,9,7,5,4],false,Tryz.func79,by kernel_rfl⟩
theorem zuX:Ent (312,zrE):=.inl ⟨Tryz.f80,zap [],[1],false,Tryz.func80,by kernel_rfl⟩
theorem zuW:Ent (313,zrD):=.inl ⟨Tryz.f81,zap [],[1],false,Tryz.func81,by kernel_rfl⟩
theorem zuV:Ent (314,zrC):=.inl ⟨Tryz.f82,zap [],[6],false,Tryz.func82,by kernel_rfl⟩
theorem zuU:Ent (315,zqf):=.inl ⟨Tryz.f83,zap [],[11],true,Tryz.func83,by kernel_rfl⟩
theorem zuT:Ent (316,zrB):=.inl ⟨Tryz.f84,zap [],[],false,Tryz.func84,by kernel_rfl⟩
theorem zuS:Ent (318,zrA):=.inl ⟨Tryz.f127,zap [],[3],false,Tryz.func127,by kernel_rfl⟩
theorem zuR:Ent (319,zrz):=.inl ⟨Tryz.f128,zap [],[5,3],false,Tryz.func128,by kernel_rfl⟩
theorem zuQ:Ent (320,zry):=.inl ⟨Tryz.f129,zap [],[5],false,Tryz.func129,by kernel_rfl⟩
theorem zuP:Ent (321,zrx):=.inl ⟨Tryz.f130,zap [],[],false,Tryz.func130,by kernel_rfl⟩
theorem zuO:Ent (322,zrw):=.inl ⟨Tryz.f131,zap [],[],true,Tryz.func131,by kernel_rfl⟩
theorem zuN:Ent (325,zrv):=.inl ⟨Tryz.f176,zap [],[7],false,Tryz.func176,by kernel_rfl⟩
theorem zBZ:Ent (400,zBA):=.inl ⟨Tryz.f8,zap [],[23,21,20,17,16,13,11,4],false,Tryz.func8,by kernel_rfl⟩
theorem zuK:Ent (401,zsZ):=.inl ⟨Tryz.f9,zap [],[8,6,1],false,Tryz.func9,by kernel_rfl⟩
theorem zuI:Ent (403,zrr):=.inl ⟨Tryz.f11,zap [],[11],false,Tryz.func11,by kernel_rfl⟩
theorem zuH:Ent (404,zrq):=.inl ⟨Tryz.f13,zap [],[7,4,2],false,Tryz.func13,by kernel_rfl⟩
theorem zxh:Ent (406,zw4):=.inl ⟨Tryz.f15,zap [],[2],false,Tryz.func15,by kernel_rfl⟩
theorem zxf:Ent (408,zw2):=.inl ⟨Tryz.f17,zap [],[9,7,4,2],false,Tryz.func17,by kernel_rfl⟩
theorem zuF:Ent (409,zro):=.inl ⟨Tryz.f18,zap [],[1],false,Tryz.func18,by kernel_rfl⟩
theorem zBX:Ent (411,zBy):=.inl ⟨Tryz.f25,zap [],[7,6,4],false,Tryz.func25,by kernel_rfl⟩
theorem zuE:Ent (412,zsY):=.inl ⟨Tryz.f28,zap [],[6,5,2,1,0],false,Tryz.func28,by kernel_rfl⟩
theorem zuD:Ent (413,zsX):=.inl ⟨Tryz.f29,zap [],[],false,Tryz.func29,by kernel_rfl⟩
theorem zuB:Ent (415,zrm):=.inl ⟨Tryz.f31,zap [],[1],false,Tryz.func31,by kernel_rfl⟩
theorem zuA:Ent (416,zrl):=.inl ⟨Tryz.f32,zap [],[7,5,1],false,Tryz.func32,by kernel_rfl⟩
theorem zuz:Ent (417,zrk):=.inl ⟨Tryz.f33,zap [],[],false,Tryz.func33,by kernel_rfl⟩
theorem zuy:Ent (418,zrj):=.inl ⟨Tryz.f34,zap [],[17,15,13,11,10,8,4,2],false,Tryz.func34,by kernel_rfl⟩
theorem zux:Ent (419,zsW):=.inr ⟨.cloneT 2,rfl,zfN Tryz.lays41_35 rfl rfl rfl rfl rfl (by decide) (fun _=>rfl) (by decide) (by kernel_rfl) (rf:=Tryz.f35) ⟨Tryz.func35,by kernel_rfl,by kernel_rfl⟩⟩
theorem zxe:Ent (420,zw1):=.inl ⟨Tryz.f39,zap [],[3],false,Tryz.func39,by kernel_rfl⟩
theorem zxd:Ent (421,zw0):=.inl ⟨Tryz.f40,zap [],[3,2],false,Tryz.func40,by kernel_rfl⟩
theorem zxc:Ent (422,zwZ):=.inl ⟨Tryz.f41,zap [],[8,5,4,2],false,Tryz.func41,by kernel_rfl⟩
theorem zBW:Ent (423,zBx):=.inl ⟨Tryz.f54,zap [],[],false,Tryz.func54,by kernel_rfl⟩
theorem zuw:Ent (424,zri):=.inl ⟨Tryz.f66,zap [],[2],false,Tryz.func66,by kernel_rfl⟩
theorem zuv:Ent (425,zrh):=.inl ⟨Tryz.f67,zap [7],[],true,Tryz.func67,by kernel_rfl⟩
theorem zuu:Ent (426,zqe):=.inl ⟨Tryz.f68,zap [16,35],[],true,Tryz.func68,by kernel_rfl⟩
theorem zut:Ent (427,zrg):=.inl ⟨Tryz.f69,zap [],[],false,Tryz.func69,by kernel_rfl⟩
theorem zus:Ent (428,zsV):=.inr ⟨.cloneT 6,rfl,zfN Tryz.lays41_72 rfl rfl rfl rfl rfl (by decide) (fun _=>rfl) (by decide) (by kernel_rfl) (rf:=Tryz.f72) ⟨Tryz.func72,by kernel_rfl,by kernel_rfl⟩⟩
theorem zur:Ent (429,zrf):=.inl ⟨Tryz.f73,zap [],[5,2,1],false,Tryz.func73,by kernel_rfl⟩
theorem zuq:Ent (430,zre):=.inl ⟨Tryz.f75,zap [],[15,10,7,4,2],false,Tryz.func75,by kernel_rfl⟩
theorem zxb:Ent (431,zwY):=.inl ⟨Tryz.f85,zap [],[],false,Tryz.func85,by kernel_rfl⟩
theorem zxa:Ent (432,zwX):=.inl ⟨Tryz.f86,zap [],[4,2],false,Tryz.func86,by kernel_rfl⟩
theorem zw9:Ent (433,zwW):=.inl ⟨Tryz.f87,zap [],[5,4,2],false,Tryz.func87,by kernel_rfl⟩
theorem zup:Ent (434,zrd):=.inl ⟨Tryz.f115,zap [],[],false,Tryz.func115,by kernel_rfl⟩
theorem zuo:Ent (435,zrc):=.inl ⟨Tryz.f116,zap [],[2],false,Tryz.func116,by kernel_rfl⟩
theorem zun:Ent (436,zrb):=.inl ⟨Tryz.f119,zap [],[],false,Tryz.func119,by kernel_rfl⟩
theorem zum:Ent (437,zra):=.inl ⟨Tryz.f120,zap [],[],false,Tryz.func120,by kernel_rfl⟩
theorem zul:Ent (438,zq9):=.inl ⟨Tryz.f121,zap [],[],false,Tryz.func121,by kernel_rfl⟩
theorem zuk:Ent (439,zq8):=.inl ⟨Tryz.f123,zap [],[5],false,Tryz.func123,by kernel_rfl⟩
theorem zuj:Ent (440,zq7):=.inl ⟨Tryz.f171,zap [],[],false,Tryz.func171,by kernel_rfl⟩
theorem all: ∀q∈zst,Ent q:=by
 unfold zst;simp only[List.forall_mem_cons];exact⟨e9,e11,e12,e17,e18,e23,e24,e27,e28,e31,e33,e34,e36,e37,e38,e39,e43,e44,e45,e47,e48,e49,e51,e56,e57,e60,e61,e62,e64,e65,e67,e68,e70,e71,e72,e73,e74,e75,e76,e77,e78,e79,e80,e81,e82,e83,e84,e85,e86,e87,e88,e89,e91,e92,e95,e96,e97,e98,e99,zvW,zvV,zvU,zvT,zvS,zvR,zvQ,zvP,zvO,zvN,zvM,zvL,zvK,zvJ,zvI,zvH,zvG,zvF,zvE,zvD,zvC,zvB,zvA,zvz,zvy,zvx,zvw,zvv,zvu,zvt,zvs,zvr,zvq,zvp,zvo,zvn,zvm,zvl,zvk,zvj,zvi,zvh,zvg,zvf,zve,zvd,zvc,zvb,zCh,zCg,zCf,zCe,zCd,zCc,zCb,zCa,zB9,zB8,zva,zB7,zB6,zB5,zB4,zB3,zB2,zu9,zu8,zu7,zu6,zu5,zu4,zu3,zu2,zu1,zu0,zuZ,zuY,zuX,zuW,zuV,zuU,zuT,zuS,zuR,zuQ,zuP,zuO,zuN,zBZ,zuK,zuI,zuH,zxh,zxf,zuF,zBX,zuE,zuD,zuB,zuA,zuz,zuy,zux,zxe,zxd,zxc,zBW,zuw,zuv,zuu,zut,zus,zur,zuq,zxb,zxa,zw9,zup,zuo,zun,zum,zul,zuk,zuj,fun _ h=>by cases h⟩
end Seat
end Rg
end
section
namespace Rg
open Go
abbrev ti (n:Int):T:=.int .i64 n
abbrev tb (b:Bool):T:=.bool b
abbrev ints (l:List Int):T:=.sl (l.map fun n=>[ti n])
@[go_sem]theorem zvX (a b:Int):(a==b)=decide (a=b):=by by_cases h:a=b<;>simp[h]
@[go_sem]theorem zv6 (a b:Int):(a != b)=decide (¬a=b):=by by_cases h:a=b<;>simp[h]
@[go_sem]theorem zxj:IntKind.i64.wrap 0=0:=by rw[IntKind.wrap_i64];rfl
@[go_sem]theorem zv3:IntKind.i64.wrap 1=1:=by rw[IntKind.wrap_i64];rfl
@[go_sem]theorem zv2:IntKind.i64.wrap 2=2:=by rw[IntKind.wrap_i64];rfl
@[go_sem]theorem zv1:IntKind.i64.wrap 3=3:=by rw[IntKind.wrap_i64];rfl
inductive Expr where
 | mk (op w n:Int) (kids:List Expr)
 deriving Inhabited
namespace Expr
def op:Expr->Int | .mk o _ _ _=>o
def w:Expr->Int | .mk _ w _ _=>w
def n:Expr->Int | .mk _ _ n _=>n
def kids:Expr->List Expr | .mk _ _ _ k=>k
@[go_sem]theorem op_mk (o w n:Int) (k:List Expr):(Expr.mk o w n k).op=o:=rfl
@[go_sem]theorem w_mk (o w n:Int) (k:List Expr):(Expr.mk o w n k).w=w:=rfl
@[go_sem]theorem n_mk (o w n:Int) (k:List Expr):(Expr.mk o w n k).n=n:=rfl
@[go_sem]theorem kids_mk (o w n:Int) (k:List Expr):(Expr.mk o w n k).kids=k:=rfl
mutual
def enc:Expr->List T
 | .mk o w n k=>[ti o,ti w,ti n,.sl (encs k)]
def encs:List Expr->List (List T)
 | []=>[]
 | e::r=>enc e::encs r
end
theorem zlL: ∀l:List Expr,encs l=l.map enc
 | []=>rfl
 | e::r=>by rw[encs,zlL r];rfl
theorem enc_eq (e:Expr):e.enc=[ti e.op,ti e.w,ti e.n,.sl (e.kids.map enc)]:=by
 cases e;simp only[enc,zlL,op,w,n,kids]
mutual
def size:Expr->Nat
 | .mk _ _ _ k=>zmq k+1
def zmq:List Expr->Nat
 | []=>0
 | e::r=>size e+zmq r
end
theorem ziu: ∀l:List Expr,zmq l=(l.map size).sum
 | []=>rfl
 | e::r=>by rw[zmq,ziu r];rfl
theorem size_eq (e:Expr):e.size=(e.kids.map size).sum+1:=by
 cases e;simp only[size,ziu,kids]
theorem size_pos (e:Expr):0<e.size:=by rw[size_eq];omega
theorem size_kid {e k:Expr} (h:k∈e.kids):k.size<e.size:=by
 rw[size_eq e]
 have:k.size<=(e.kids.map size).sum:=by
  generalize e.kids=l at h
  induction l with
  | nil=>simp at h
  | cons x r ih=>
    simp only[List.map_cons,List.sum_cons];rcases List.mem_cons.1 h with rfl | h
    ·omega
    ·have:=ih h;omega
 omega
theorem ind {P:Expr->Prop} (h: ∀e:Expr,(∀k∈e.kids,P k)->P e): ∀e,P e:=by
 intro e
 generalize hn:e.size=n
 induction n using Nat.strongRecOn generalizing e with
 | _ n ih=>exact h e fun k hk=>ih k.size (by have:=size_kid hk;omega) k rfl
mutual
def allE (f:Expr->Bool):Expr->Bool
 | .mk o w n k=>f (.mk o w n k)&&znK f k
def znK (f:Expr->Bool):List Expr->Bool
 | []=>true
 | e::r=>allE f e&&znK f r
end
theorem zi9 (f:Expr->Bool): ∀l:List Expr,znK f l=l.all (allE f)
 | []=>rfl
 | e::r=>by rw[znK,zi9 f r];rfl
theorem allE_eq (f:Expr->Bool) (e:Expr):allE f e=(f e&&e.kids.all (allE f)):=by
 cases e;simp only[allE,zi9,kids]
theorem allE_self {f:Expr->Bool} {e:Expr} (h:allE f e=true):f e=true:=by
 rw[allE_eq]at h;simp only[zF]at h;exact h.1
theorem allE_kid {f:Expr->Bool} {e k:Expr} (h:allE f e=true) (hk:k∈e.kids):allE f k=true:=by
 rw[allE_eq]at h;simp only[zF,List.all_eq_true]at h;exact h.2 k hk
theorem len_le_size (ks:List Expr):ks.length<=(ks.map size).sum:=by
 induction ks with
 | nil=>simp
 | cons x r ih=>have:=size_pos x;simp only[List.length_cons,List.map_cons,List.sum_cons];omega
theorem take_le_size (ks:List Expr) (i:Nat):((ks.take i).map size).sum<=(ks.map size).sum:=by
 induction ks generalizing i with
 | nil=>simp
 | cons x r ih=>cases i with
   | zero=>simp
   | succ i=>have:=ih i;simp only[List.take_succ_cons,List.map_cons,List.sum_cons];omega
def kw (e:Expr) (i:Nat):Int:=(e.kids.getD i (.mk 0 0 0 [])).w
end Expr
structure Cell where
 name:ByteArray
 w:Int
 init:Int
 thread:Int
 ghost:Bool
 module:Int
 deriving Inhabited
def Cell.enc (c:Cell):List T:=[.str c.name,ti c.w,ti c.init,ti c.thread,tb c.ghost,ti c.module]
structure Assign where
 cell:Int
 to:Expr
 deriving Inhabited
def Assign.enc (a:Assign):List T:=ti a.cell::a.to.enc
structure Step where
 kind:Int
 fr:Int
 to:Int
 guard:Expr
 set:List Assign
 release:Bool
 target:Int
 module:Int
 deriving Inhabited
def Step.enc (s:Step):List T:=[ti s.kind,ti s.fr,ti s.to]++s.guard.enc++[.sl (s.set.map Assign.enc),tb s.release,ti s.target,ti s.module]
structure Loop where
 head:Int
 body:List Int
 variant:Expr
 deriving Inhabited
def Loop.enc (l:Loop):List T:=[ti l.head,ints l.body]++l.variant.enc
structure Thread where
 name:ByteArray
 points:Int
 asserts:List Expr
 modules:List Int
 steps:List Step
 loops:List Loop
 asleep:Bool
 deriving Inhabited
def Thread.enc (t:Thread):List T:=
 [.str t.name,ti t.points,.sl (t.asserts.map Expr.enc),ints t.modules,.sl (t.steps.map Step.enc),.sl (t.loops.map Loop.enc),tb t.asleep]
structure Contract where
 name:ByteArray
 owner:ByteArray
 rely:Expr
 guar:Expr
 frame:List Int
 deriving Inhabited
def Contract.enc (c:Contract):List T:=[.str c.name,.str c.owner]++c.rely.enc++c.guar.enc++[ints c.frame]
structure Lock where
 cell:Int
 inv:Expr
 module:Int
 deriving Inhabited
def Lock.enc (l:Lock):List T:=[ti l.cell]++l.inv.enc++[ti l.module]
structure Prog where
 cells:List Cell
 modules:List Contract
 locks:List Lock
 threads:List Thread
 deriving Inhabited
def Prog.enc (p:Prog):List T:=[.sl (p.cells.map Cell.enc),.sl (p.modules.map Contract.enc),.sl (p.locks.map Lock.enc),.sl (p.threads.map Thread.enc)]
structure Entry where
 cells:List Int
 values:List Int
 deriving Inhabited,DecidableEq
def Entry.enc (e:Entry):List T:=[ints e.cells,ints e.values]
structure Config where
 mem:List Int
 at_:List Int
 buf:List (List Entry)
 deriving Inhabited,DecidableEq
def Config.enc (c:Config):List T:=[ints c.mem,ints c.at_,.sl (c.buf.map fun b=>[.sl (b.map Entry.enc)])]
structure Choice where
 thread:Int
 step:Int
 cell:Int
 deriving Inhabited,DecidableEq
def Choice.enc (c:Choice):List T:=[ti c.thread,ti c.step,ti c.cell]
attribute [go_sem] Expr.enc_eq Cell.enc Assign.enc Step.enc Loop.enc Thread.enc Contract.enc Lock.enc Prog.enc Entry.enc Config.enc Choice.enc
def ag (l:List T):V:=.agg (l.map V.t)
theorem zah (i:Nat) (h:i<2^62):IntKind.i64.wrap ((i:Int)+1)=((i+1:Nat):Int):=by rw[zan (by omega)];omega
theorem zae {α:Type} {l:List α} {i:Nat} {x:α} (h:l[i]? =some x):l.take (i+1)=l.take i++[x]:=by
 rw[List.take_add_one,h];rfl
theorem zkJ {i k:Nat} (h:i<=k):(2:Int)^i<=2^k:=by
 have:=Nat.pow_le_pow_right (n:=2) (by omega) h
 exact_mod_cast this
theorem ziJ (i:Nat):0<(2:Int)^i:=Int.pow_pos (by omega)
theorem zaf {α:Type} {l:List α} {i:Nat} (h:i<l.length): ∃x,l[i]? =some x/\x∈l:=⟨l[i],zI h,List.getElem_mem h⟩
end Rg
end
section
namespace Rg
open Go
section
variable {H:Type} (enc:TypeId×Value->H) (P:Program) (W:World) (nm:Nat->Nat)
def zl9 (cs:List Value) (xs:List T):Prop:=
 cs.length=xs.length/\ ∀(j:Nat) (x:T),xs[j]? =some x-> ∃v,cs[j]? =some v/\RepT W (fun r=>r<W.heap.size) nm v x
def Rd {α:Type} (n:Nat) (t:TypeId) (f:α->List T) (good:α->Prop):Prop:=
 ∀(cs:List Value) (x:DataW H×List MemPlace),DataW.trod enc P W 0 (fun _=>true) true n t cs=some x->(x.1.weights P t).all (· <=reachBytes)=true-> ∃a,good a/\zl9 W nm cs (f a)
def RdF {α:Type} (n tot:Nat) (fs:List (TypeId×Nat)) (off:Nat) (f:α->List T) (good:α->Prop):Prop:=
 ∀(cs:List Value) (xs:List (DataW H×List MemPlace)),cs.length=tot->xs.length=fs.length->
  (∀(i:Nat) (fd:TypeId×Nat),fs[i]? =some fd->DataW.trod enc P W 0 (fun _=>true) true n fd.1 ((cs.drop fd.2).take (P.cellsOf fd.1))=xs[i]?)->
  (DataW.weightsEach P (fs.map (·.1)) (xs.map (·.1))).all (· <=reachBytes)=true-> ∃a,good a/\zl9 W nm (cs.drop off) (f a)
end
section
variable {H:Type} {enc:TypeId×Value->H} {P:Program} {W:World} {nm:Nat->Nat}
theorem zl9.one {v:Value} {x:T} (h:RepT W (fun r=>r<W.heap.size) nm v x):zl9 W nm [v] [x]:=
 ⟨rfl,fun j y hj=>by
   cases j with
   | zero=>simp at hj;subst hj;exact⟨v,rfl,h⟩
   | succ j=>simp at hj⟩
theorem zl9.append {cs ds:List Value} {xs ys:List T} (h:zl9 W nm cs xs) (h':zl9 W nm ds ys):zl9 W nm (cs++ds) (xs++ys):=by
 refine⟨by simp[h.1,h'.1],fun j x hj=> ?_⟩;rw[List.getElem?_append]at hj⊢;rw[h.1];split at hj
 ·rename_i hlt;rw[if_pos hlt];exact h.2 j x hj
 ·rename_i hlt;rw[if_neg hlt];exact h'.2 _ x hj
theorem rd_int {k:IntKind} {t:TypeId} (ht:P.underlying t=some (.int k)) (n:Nat):Rd enc P W nm n t (fun i:Int=>[.int k i]) (fun i=>(Lit.int k i).wf=true):=by
 intro cs x h _;obtain⟨i,rfl,_,hw⟩:=DataW.trod_int ht h;exact⟨i,hw,.one (.int k i)⟩
theorem zou {t:TypeId} (ht:P.underlying t=some .bool) (n:Nat):Rd enc P W nm n t (fun b:Bool=>[.bool b]) (fun _=>True):=by
 intro cs x h _;obtain⟨b,rfl,_⟩:=DataW.trod_bool ht h;exact⟨b,trivial,.one (.bool b)⟩
theorem zpS {t:TypeId} (ht:P.underlying t=some .string) (n:Nat):Rd enc P W nm n t (fun s:ByteArray=>[.str s]) (fun s=>s.size<=reachBytes):=by
 intro cs x h hw;obtain⟨s,rfl,rfl,_⟩:=DataW.trod_string ht h;refine⟨s,?_,.one (.str s)⟩;simp only[DataW.weights,List.all_cons,List.all_nil,Bool.and_true,decide_eq_true_eq]at hw;rw[Array.length_toList]at hw;exact hw
theorem zc3 {e:TypeId}: ∀{l:List (DataW H)},(DataW.weightsAll P e l).all (· <=reachBytes)=true-> ∀d∈l,(d.weights P e).all (· <=reachBytes)=true
 | [],_,d,hd=>by simp at hd
 | x::r,h,d,hd=>by
   rw[DataW.weightsAll,List.all_append,zF]at h;rcases List.mem_cons.1 hd with rfl | hd
   ·exact h.1
   ·exact zc3 h.2 d hd
theorem cells?_get {base:Nat} {a:Addr} {n:Nat} {cs:List Value} (h:W.cells? base a n=some cs):cs.length=n/\ ∀j,j<n->W.cell? (a.add j)=cs[j]? :=by
 unfold World.cells? at h;split at h
 ·exact⟨by simpa using mapM_some_length h,fun j hj=>by simpa using mapM_some_get h j j (by simp[hj])⟩
 ·simp at h
theorem cell?_spot {a:Addr} {v:Value} (h:W.cell? a=some v):a.spot=none/\a.block<W.heap.size:=by
 unfold World.cell? at h;split at h
 ·rename_i hb;split at h
  ·simp at h
  ·rename_i hs;refine⟨by cases hsp:a.spot<;>simp_all,?_⟩;have:=Array.getElem?_eq_some_iff.1 hb;exact this.1
 ·simp at h
theorem ze5 {α:Type} {Q:Nat->α->Prop}: ∀(n:Nat),(∀i,i<n-> ∃a,Q i a)-> ∃l:List α,l.length=n/\ ∀(i:Nat) (a:α),l[i]? =some a->Q i a
 | 0,_=>⟨[],rfl,fun i a h=>by simp at h⟩
 | n+1,h=>by
   obtain⟨l,hl,hq⟩:=ze5 n (fun i hi=>h i (by omega));obtain⟨a,ha⟩:=h n (by omega);refine⟨l++[a],by simp[hl],fun i b hb=> ?_⟩;rw[List.getElem?_append]at hb;split at hb
   ·exact hq i b hb
   ·rename_i hlt
    have:i=n:=by
     have:=(zH.1 hb).1;simp at this;omega
    subst this;simp[hl]at hb;exact hb▸ha
theorem zmK {α:Type} {t e:TypeId} {f:α->List T} {good:α->Prop} (ht:P.underlying t=some (.slice e)) (hb:0<P.bytesOf e) (hc:0<P.cellsOf e) (n:Nat) (h: ∀m,m<n->Rd enc P W nm m e f good):
 Rd enc P W nm n t (fun l:List α=>[.sl (l.map f)]) (fun l=>l.length<=reachBytes/\ ∀a∈l,good a):=by
 intro cs x htr hw;rcases DataW.trod_slice ht htr with⟨rfl,_⟩ | ⟨a,len,cap,elems,rest,m,rfl,rfl,rfl,_,hlc,_,hel,hread,_,_⟩
 ·exact⟨[],⟨by simp,by simp⟩,.one (.sl0 none 0)⟩
 ·simp only[DataW.weights,ht,List.all_cons,List.all_append,zF,decide_eq_true_eq,List.length_map]at hw
  have hpt: ∀i,i<len-> ∃b:α,good b/\ ∃ci,W.cells? 0 (a.add (i*P.cellsOf e)) (P.cellsOf e)=some ci/\zl9 W nm ci (f b):=by
   intro i hi;have h1:=hread i hi;obtain⟨z,hz⟩: ∃z,elems[i]? =some z:=⟨_,zI (by omega)⟩
   rw[hz,zB]at h1;obtain⟨ci,hci,htz⟩:=h1;have hwz:=zc3 hw.2.1 z.1 (List.mem_map.2 ⟨z,List.mem_of_getElem? hz,rfl⟩);obtain⟨b,hg,hr⟩:=h m (by omega) ci z htz hwz;exact⟨b,hg,ci,hci,hr⟩
  obtain⟨l,hl,hq⟩:=ze5 len hpt;refine⟨l,⟨?_,fun b hb=> ?_⟩,.one ?_⟩
  ·have:elems.length*1<=(elems.length+rest.length)*P.bytesOf e:=Nat.mul_le_mul (by omega) hb;omega
  ·obtain⟨i,hi⟩:=List.getElem?_of_mem hb;exact(hq i b hi).1
  ·by_cases h0:len=0
   ·subst h0;have:l=[]:=List.length_eq_zero_iff.1 hl;subst this;exact .sl0 _ _
   ·have hfl: ∀(i:Nat) (b:α),l[i]? =some b->(f b).length=P.cellsOf e:=by
     intro i b hi;obtain⟨_,ci,hci,hr⟩:=hq i b hi;rw[<- hr.1,(cells?_get hci).1]
    have hcell: ∀(i j:Nat) (b:α),l[i]? =some b->j<P.cellsOf e-> ∃v,W.cell? ((a.add (i*P.cellsOf e)).add j)=some v/\ ∀x,(f b)[j]? =some x->RepT W (fun r=>r<W.heap.size) nm v x:=by
     intro i j b hi hj;obtain⟨_,ci,hci,hr⟩:=hq i b hi;have hg:=cells?_get hci;obtain⟨v,hv⟩: ∃v,ci[j]? =some v:=⟨_,zI (by omega)⟩
     refine⟨v,by rw[hg.2 j hj,hv],fun x hx=> ?_⟩;obtain⟨u,hu,hru⟩:=hr.2 j x hx;rw[hv]at hu;cases hu;exact hru
    obtain⟨b0,hb0⟩: ∃b,l[0]? =some b:=⟨_,zI (by omega)⟩
    obtain⟨v0,hv0,_⟩:=hcell 0 0 b0 hb0 hc;have ha0:(a.add (0*P.cellsOf e)).add 0=a:=by simp[Addr.add]
    rw[ha0]at hv0;obtain⟨hsp,hblk⟩:=cell?_spot hv0;obtain⟨r,off,spot⟩:=a;simp only at hsp hblk;subst hsp
    have hadd: ∀i j,((⟨r,off,none⟩:Addr).add (i*P.cellsOf e)).add j=⟨r,off+i*P.cellsOf e+j,none⟩:=by
     intro i j;unfold Addr.add;split<;>split<;>simp_all
    have hlen:(l.map f).length=len:=by simp[hl]
    rw[show Value.slice (some ⟨r,off,none⟩) len cap=Value.slice (some ⟨r,off,none⟩) (l.map f).length cap by rw[hlen]];refine .sl r off cap (P.cellsOf e) (l.map f) (fun i j=>(W.cell? ⟨r,off+i*P.cellsOf e+j,none⟩).getD .nilFunc) (by omega) (by omega) hblk ?_ ?_ ?_
    ·intro i y hy;rw[zJ,zE]at hy;obtain⟨b,hb,rfl⟩:=hy;exact hfl i b hb
    ·intro i y j x hy hx;rw[zJ,zE]at hy;obtain⟨b,hb,rfl⟩:=hy;have hj:=(zH.1 hx).1;rw[hfl i b hb]at hj;obtain⟨v,hv,_⟩:=hcell i j b hb hj;rw[hadd]at hv;rw[hv];rfl
    ·intro i y j x hy hx;rw[zJ,zE]at hy;obtain⟨b,hb,rfl⟩:=hy;have hj:=(zH.1 hx).1;rw[hfl i b hb]at hj;obtain⟨v,hv,hr⟩:=hcell i j b hb hj;rw[hadd]at hv;rw[hv];exact hr x hx
theorem zcg {n tot:Nat}:RdF enc P W nm n tot [] tot (fun _:Unit=>[]) (fun _=>True):=by
 intro cs xs hl _ _ _;refine⟨(),trivial,?_⟩;rw[List.drop_of_length_le (by omega)];exact⟨rfl,fun j x h=>by simp at h⟩
theorem rdF_cons {α β:Type} {n tot off sz:Nat} {t:TypeId} {fs:List (TypeId×Nat)} {f:α->List T} {good:α->Prop} {g:β->List T} {good':β->Prop}
 (hsz:P.cellsOf t=sz) (h:Rd enc P W nm n t f good) (h':RdF enc P W nm n tot fs (off+sz) g good'):
 RdF enc P W nm n tot ((t,off)::fs) off (fun q:α×β=>f q.1++g q.2) (fun q=>good q.1/\good' q.2):=by
 intro cs xs hl hxl hx hw
 cases xs with
 | nil=>simp at hxl
 | cons x r=>
   have h0:=hx 0 (t,off) rfl;simp only[List.getElem?_cons_zero,hsz]at h0;rw[List.map_cons,List.map_cons,DataW.weightsEach,List.all_append,zF]at hw;obtain⟨a,ha,hra⟩:=h _ x h0 hw.1;obtain⟨b,hb,hrb⟩:=h' cs r hl (by simpa using hxl) (fun i fd hi=>by simpa using hx (i+1) fd (by simpa using hi)) hw.2;refine⟨(a,b),⟨ha,hb⟩,?_⟩;have:cs.drop off=(cs.drop off).take sz++cs.drop (off+sz):=by rw[<- List.drop_drop,List.take_append_drop]
   rw[this];exact hra.append hrb
theorem zkC {α:Type} {t:TypeId} {fs:List (TypeId×Nat)} {tot:Nat} {f:α->List T} {good:α->Prop}
 (ht:(match P.underlying t with | some (.struct a)=>decide (a.toList.map (fun x=>(x.type,x.offset))=fs) | _=>false)=true) (htot:P.cellsOf t=tot) (n:Nat)
 (h: ∀m,m<n->RdF enc P W nm m tot fs 0 f good):Rd enc P W nm n t f good:=by
 intro cs x htr hw;split at ht
 ·rename_i a hu;rw[decide_eq_true_eq]at ht;obtain⟨xs,m,rfl,rfl,hl,hxl,hx⟩:=DataW.trod_struct hu htr;subst ht
  have:=h m (by omega) cs xs (by omega) (by simp[hxl]) (fun i fd hi=>by
   rw[zJ,zE]at hi;obtain⟨f',hf',rfl⟩:=hi
   exact hx i f' (by simpa using hf')) (by
   simp only[DataW.weights,hu]at hw;rw[List.map_map]
   exact hw)
  simpa using this
 ·simp at ht
theorem Rd.conv {α β:Type} {t:TypeId} {n:Nat} {f:α->List T} {good:α->Prop} {g:β->List T} {good':β->Prop} (h:Rd enc P W nm n t f good) (hc: ∀a,good a-> ∃b,good' b/\f a=g b):Rd enc P W nm n t g good':=by
 intro cs x htr hw;obtain⟨a,ha,hr⟩:=h cs x htr hw;obtain⟨b,hb,he⟩:=hc a ha;exact⟨b,hb,he▸hr⟩
end
end Rg
end
section
namespace Rg
open Go
structure Tys where
 int:Nat
 bool:Nat
 str:Nat
 u8:Nat
 ints:Nat
 bytes:Nat
 expr:Nat
 exprs:Nat
 cell:Nat
 cells:Nat
 assign:Nat
 assigns:Nat
 step:Nat
 steps:Nat
 loop:Nat
 loops:Nat
 thread:Nat
 threads:Nat
 contract:Nat
 contracts:Nat
 lock:Nat
 locks:Nat
 prog:Nat
 entry:Nat
 entries:Nat
 bufs:Nat
 config:Nat
 choice:Nat
def isInt (P:Program) (t:TypeId) (k:IntKind):Bool:=(match P.underlying t with | some (.int k')=>decide (k'=k) | _=>false)&&decide (P.cellsOf t=1)
def isBool (P:Program) (t:TypeId):Bool:=(match P.underlying t with | some .bool=>true | _=>false)&&decide (P.cellsOf t=1)
def isStr (P:Program) (t:TypeId):Bool:=(match P.underlying t with | some .string=>true | _=>false)&&decide (P.cellsOf t=1)
def isSl (P:Program) (t e:TypeId):Bool:=(match P.underlying t with | some (.slice e')=>decide (e'=e) | _=>false)&&decide (0<P.bytesOf e)&&decide (0<P.cellsOf e)&&decide (P.cellsOf t=1)
def isSt (P:Program) (t:TypeId) (tot:Nat) (fs:List (TypeId×Nat)):Bool:=
 (match P.underlying t with | some (.struct a)=>decide (a.toList.map (fun x=>(x.type,x.offset))=fs) | _=>false)&&decide (P.cellsOf t=tot)
structure Tys.Ok0 (P:Program) (y:Tys):Prop where
 int:isInt P y.int .i64=true
 bool:isBool P y.bool=true
 str:isStr P y.str=true
 u8:isInt P y.u8 .u8=true
 ints:isSl P y.ints y.int=true
 expr:isSt P y.expr 4 [(y.int,0),(y.int,1),(y.int,2),(y.exprs,3)]=true
 exprs:isSl P y.exprs y.expr=true
 cell:isSt P y.cell 6 [(y.str,0),(y.int,1),(y.int,2),(y.int,3),(y.bool,4),(y.int,5)]=true
 cells:isSl P y.cells y.cell=true
 assign:isSt P y.assign 5 [(y.int,0),(y.expr,1)]=true
 assigns:isSl P y.assigns y.assign=true
 step:isSt P y.step 11 [(y.int,0),(y.int,1),(y.int,2),(y.expr,3),(y.assigns,7),(y.bool,8),(y.int,9),(y.int,10)]=true
 steps:isSl P y.steps y.step=true
 loop:isSt P y.loop 6 [(y.int,0),(y.ints,1),(y.expr,2)]=true
 loops:isSl P y.loops y.loop=true
 thread:isSt P y.thread 7 [(y.str,0),(y.int,1),(y.exprs,2),(y.ints,3),(y.steps,4),(y.loops,5),(y.bool,6)]=true
 threads:isSl P y.threads y.thread=true
 contract:isSt P y.contract 11 [(y.str,0),(y.str,1),(y.expr,2),(y.expr,6),(y.ints,10)]=true
 contracts:isSl P y.contracts y.contract=true
 lock:isSt P y.lock 6 [(y.int,0),(y.expr,1),(y.int,5)]=true
 locks:isSl P y.locks y.lock=true
 prog:isSt P y.prog 4 [(y.cells,0),(y.contracts,1),(y.locks,2),(y.threads,3)]=true
structure Tys.OkP (P:Program) (y:Tys):Prop extends y.Ok0 P where
 bytes:isSl P y.bytes y.u8=true
structure Tys.Ok (P:Program) (y:Tys):Prop extends y.OkP P where
 entry:isSt P y.entry 2 [(y.ints,0),(y.ints,1)]=true
 entries:isSl P y.entries y.entry=true
 bufs:isSl P y.bufs y.entries=true
 config:isSt P y.config 3 [(y.ints,0),(y.ints,1),(y.bufs,2)]=true
 choice:isSt P y.choice 3 [(y.int,0),(y.int,1),(y.int,2)]=true
section
variable {P:Program} {t e:TypeId} {k:IntKind}
theorem isInt.u (h:isInt P t k=true):P.underlying t=some (.int k):=by
 simp only[isInt,zF]at h;have h:=h.1;split at h
 ·rename_i hu;rw[hu,of_decide_eq_true h]
 ·simp at h
theorem isInt.c (h:isInt P t k=true):P.cellsOf t=1:=by
 simp only[isInt,zF,decide_eq_true_eq]at h;exact h.2
theorem isBool.u (h:isBool P t=true):P.underlying t=some .bool:=by
 simp only[isBool,zF]at h;have h:=h.1;split at h
 ·rename_i hu;exact hu
 ·simp at h
theorem isBool.c (h:isBool P t=true):P.cellsOf t=1:=by
 simp only[isBool,zF,decide_eq_true_eq]at h;exact h.2
theorem isStr.u (h:isStr P t=true):P.underlying t=some .string:=by
 simp only[isStr,zF]at h;have h:=h.1;split at h
 ·rename_i hu;exact hu
 ·simp at h
theorem isStr.c (h:isStr P t=true):P.cellsOf t=1:=by
 simp only[isStr,zF,decide_eq_true_eq]at h;exact h.2
theorem isSl.u (h:isSl P t e=true):P.underlying t=some (.slice e):=by
 simp only[isSl,zF]at h;have h:=h.1.1.1;split at h
 ·rename_i hu;rw[hu,of_decide_eq_true h]
 ·simp at h
theorem isSl.p (h:isSl P t e=true):0<P.bytesOf e/\0<P.cellsOf e/\P.cellsOf t=1:=by
 simp only[isSl,zF,decide_eq_true_eq]at h;exact⟨h.1.1.2,h.1.2,h.2⟩
theorem isSl.c (h:isSl P t e=true):P.cellsOf t=1:=(isSl.p h).2.2
theorem isSt.c {tot:Nat} {fs:List (TypeId×Nat)} (h:isSt P t tot fs=true):P.cellsOf t=tot:=by
 simp only[isSt,zF,decide_eq_true_eq]at h;exact h.2
end
section
variable {H:Type} {enc:TypeId×Value->H} {P:Program} {W:World} {nm:Nat->Nat} {y:Tys}
theorem rd_sl {α:Type} {t e:TypeId} {f:α->List T} {good:α->Prop} (h:isSl P t e=true) (n:Nat) (hr: ∀m,m<n->Rd enc P W nm m e f good):
 Rd enc P W nm n t (fun l:List α=>[.sl (l.map f)]) (fun l=>l.length<=reachBytes/\ ∀a∈l,good a):=zmK (isSl.u h) (isSl.p h).1 (isSl.p h).2.1 n hr
theorem rd_st {α:Type} {t:TypeId} {fs:List (TypeId×Nat)} {tot:Nat} {f:α->List T} {good:α->Prop} (h:isSt P t tot fs=true) (n:Nat)
 (hr: ∀m,m<n->RdF enc P W nm m tot fs 0 f good):Rd enc P W nm n t f good:=by
 have hc:=isSt.c h;simp only[isSt,zF]at h;exact zkC h.1 hc n hr
theorem rd_i (hy:y.Ok0 P) (n:Nat):Rd enc P W nm n y.int (fun i:Int=>[ti i]) (fun _=>True):=
 (rd_int (isInt.u hy.int) n).conv fun i _=>⟨i,trivial,rfl⟩
theorem rd_b (hy:y.Ok0 P) (n:Nat):Rd enc P W nm n y.bool (fun b:Bool=>[tb b]) (fun _=>True):=zou (isBool.u hy.bool) n
theorem rd_s (hy:y.Ok0 P) (n:Nat):Rd enc P W nm n y.str (fun s:ByteArray=>[.str s]) (fun s=>s.size<=reachBytes):=zpS (isStr.u hy.str) n
theorem rd_ints (hy:y.Ok0 P) (n:Nat):Rd enc P W nm n y.ints (fun l:List Int=>[ints l]) (fun l=>l.length<=reachBytes):=
 (rd_sl hy.ints n fun m _=>rd_i hy m).conv fun l h=>⟨l,h.1,rfl⟩
theorem rd_u8 (hy:y.Ok0 P) (n:Nat):Rd enc P W nm n y.u8 (fun i:Int=>[.int .u8 i]) (fun i=>0<=i/\i<256):=
 (rd_int (isInt.u hy.u8) n).conv fun i h=>⟨i,by simp[Lit.wf,IntKind.min,IntKind.max,IntKind.signed,IntKind.bits]at h;omega,rfl⟩
theorem rd_bytes (hy:y.OkP P) (n:Nat):Rd enc P W nm n y.bytes (fun l:List Int=>[.sl (l.map fun n=>[.int .u8 n])]) (fun l=> ∀k∈l,0<=k/\k<256):=
 (rd_sl hy.bytes n fun m _=>rd_u8 hy.toOk0 m).conv fun l h=>⟨l,h.2,rfl⟩
theorem rd_expr (hy:y.Ok0 P) (n:Nat):Rd enc P W nm n y.expr Expr.enc (fun _=>True):=by
 induction n using Nat.strongRecOn with
 | _ n ih=>
   refine(rd_st hy.expr n fun m hm=>rdF_cons (isInt.c hy.int) (rd_i hy m) (rdF_cons (isInt.c hy.int) (rd_i hy m) (rdF_cons (isInt.c hy.int) (rd_i hy m) (rdF_cons (isSl.c hy.exprs) (rd_sl hy.exprs m fun j hj=>ih j (by omega)) zcg)))).conv ?_;rintro⟨op,w,k,ks,u⟩ _;exact⟨.mk op w k ks,trivial,(Expr.enc_eq (.mk op w k ks)).symm⟩
theorem rd_exprs (hy:y.Ok0 P) (n:Nat):Rd enc P W nm n y.exprs (fun l:List Expr=>[.sl (l.map Expr.enc)]) (fun l=>l.length<=reachBytes):=
 (rd_sl hy.exprs n fun m _=>rd_expr hy m).conv fun l h=>⟨l,h.1,rfl⟩
theorem zot (hy:y.Ok0 P) (n:Nat):Rd enc P W nm n y.cell Cell.enc (fun c=>c.name.size<=reachBytes):=by
 refine(rd_st hy.cell n fun m hm=>rdF_cons (isStr.c hy.str) (rd_s hy m) (rdF_cons (isInt.c hy.int) (rd_i hy m) (rdF_cons (isInt.c hy.int) (rd_i hy m) (rdF_cons (isInt.c hy.int) (rd_i hy m) (rdF_cons (isBool.c hy.bool) (rd_b hy m) (rdF_cons (isInt.c hy.int) (rd_i hy m) zcg)))))).conv ?_;rintro⟨a,b,c,d,e,f,u⟩ h;exact⟨⟨a,b,c,d,e,f⟩,h.1,rfl⟩
theorem zkD (hy:y.Ok0 P) (n:Nat):Rd enc P W nm n y.assign Assign.enc (fun _=>True):=by
 refine(rd_st hy.assign n fun m hm=>rdF_cons (isInt.c hy.int) (rd_i hy m) (rdF_cons (isSt.c hy.expr) (rd_expr hy m) zcg)).conv ?_;rintro⟨a,b,u⟩ h;exact⟨⟨a,b⟩,trivial,by simp[Assign.enc]⟩
theorem rd_assigns (hy:y.Ok0 P) (n:Nat):Rd enc P W nm n y.assigns (fun l:List Assign=>[.sl (l.map Assign.enc)]) (fun l=>l.length<=reachBytes):=
 (rd_sl hy.assigns n fun m _=>zkD hy m).conv fun l h=>⟨l,h.1,rfl⟩
theorem zoq (hy:y.Ok0 P) (n:Nat):Rd enc P W nm n y.step Step.enc (fun s=>s.set.length<=reachBytes):=by
 refine(rd_st hy.step n fun m hm=>rdF_cons (isInt.c hy.int) (rd_i hy m) (rdF_cons (isInt.c hy.int) (rd_i hy m) (rdF_cons (isInt.c hy.int) (rd_i hy m) (rdF_cons (isSt.c hy.expr) (rd_expr hy m) (rdF_cons (isSl.c hy.assigns) (rd_assigns hy m) (rdF_cons (isBool.c hy.bool) (rd_b hy m)
  (rdF_cons (isInt.c hy.int) (rd_i hy m) (rdF_cons (isInt.c hy.int) (rd_i hy m) zcg)))))))).conv ?_
 rintro⟨a,b,c,d,e,f,g,i,u⟩ h;exact⟨⟨a,b,c,d,e,f,g,i⟩,h.2.2.2.2.1,by simp[Step.enc]⟩
theorem zor (hy:y.Ok0 P) (n:Nat):Rd enc P W nm n y.loop Loop.enc (fun x=>x.body.length<=reachBytes):=by
 refine(rd_st hy.loop n fun m hm=>rdF_cons (isInt.c hy.int) (rd_i hy m) (rdF_cons (isSl.c hy.ints) (rd_ints hy m) (rdF_cons (isSt.c hy.expr) (rd_expr hy m) zcg))).conv ?_;rintro⟨a,b,c,u⟩ h;exact⟨⟨a,b,c⟩,h.2.1,by simp[Loop.enc]⟩
structure Thread.inMem (x:Thread):Prop where
 name:x.name.size<=reachBytes
 steps:x.steps.length<=reachBytes
 asserts:x.asserts.length<=reachBytes
 modules:x.modules.length<=reachBytes
 loops:x.loops.length<=reachBytes
 sets: ∀s∈x.steps,s.set.length<=reachBytes
 bodies: ∀l∈x.loops,l.body.length<=reachBytes
theorem zkB (hy:y.Ok0 P) (n:Nat):Rd enc P W nm n y.thread Thread.enc Thread.inMem:=by
 refine(rd_st hy.thread n fun m hm=>rdF_cons (isStr.c hy.str) (rd_s hy m) (rdF_cons (isInt.c hy.int) (rd_i hy m) (rdF_cons (isSl.c hy.exprs) (rd_exprs hy m) (rdF_cons (isSl.c hy.ints) (rd_ints hy m)
  (rdF_cons (isSl.c hy.steps) (rd_sl hy.steps m fun j _=>zoq hy j) (rdF_cons (isSl.c hy.loops) (rd_sl hy.loops m fun j _=>zor hy j) (rdF_cons (isBool.c hy.bool) (rd_b hy m) zcg))))))).conv ?_
 rintro⟨a,b,c,d,e,f,g,u⟩ h;exact⟨⟨a,b,c,d,e,f,g⟩,⟨h.1,h.2.2.2.2.1.1,h.2.2.1,h.2.2.2.1,h.2.2.2.2.2.1.1,h.2.2.2.2.1.2,h.2.2.2.2.2.1.2⟩,rfl⟩
theorem zhL (hy:y.Ok0 P) (n:Nat):Rd enc P W nm n y.contract Contract.enc (fun x=>x.name.size<=reachBytes/\x.owner.size<=reachBytes/\x.frame.length<=reachBytes):=by
 refine(rd_st hy.contract n fun m hm=>rdF_cons (isStr.c hy.str) (rd_s hy m) (rdF_cons (isStr.c hy.str) (rd_s hy m) (rdF_cons (isSt.c hy.expr) (rd_expr hy m) (rdF_cons (isSt.c hy.expr) (rd_expr hy m) (rdF_cons (isSl.c hy.ints) (rd_ints hy m) zcg))))).conv ?_;rintro⟨a,b,c,d,e,u⟩ h;exact⟨⟨a,b,c,d,e⟩,⟨h.1,h.2.1,h.2.2.2.2.1⟩,by simp[Contract.enc]⟩
theorem zos (hy:y.Ok0 P) (n:Nat):Rd enc P W nm n y.lock Lock.enc (fun _=>True):=by
 refine(rd_st hy.lock n fun m hm=>rdF_cons (isInt.c hy.int) (rd_i hy m) (rdF_cons (isSt.c hy.expr) (rd_expr hy m) (rdF_cons (isInt.c hy.int) (rd_i hy m) zcg))).conv ?_;rintro⟨a,b,c,u⟩ h;exact⟨⟨a,b,c⟩,trivial,by simp[Lock.enc]⟩
structure Prog.inMem (p:Prog):Prop where
 cells: ∀c∈p.cells,c.name.size<=reachBytes
 modules: ∀m∈p.modules,m.name.size<=reachBytes/\m.owner.size<=reachBytes/\m.frame.length<=reachBytes
 threads: ∀x∈p.threads,x.inMem
 nCells:p.cells.length<=reachBytes
 nModules:p.modules.length<=reachBytes
 nLocks:p.locks.length<=reachBytes
 nThreads:p.threads.length<=reachBytes
theorem rd_prog (hy:y.Ok0 P) (n:Nat):Rd enc P W nm n y.prog Prog.enc Prog.inMem:=by
 refine(rd_st hy.prog n fun m hm=>rdF_cons (isSl.c hy.cells) (rd_sl hy.cells m fun j _=>zot hy j) (rdF_cons (isSl.c hy.contracts) (rd_sl hy.contracts m fun j _=>zhL hy j)
  (rdF_cons (isSl.c hy.locks) (rd_sl hy.locks m fun j _=>zos hy j) (rdF_cons (isSl.c hy.threads) (rd_sl hy.threads m fun j _=>zkB hy j) zcg)))).conv ?_
 rintro⟨a,b,c,d,u⟩ h;exact⟨⟨a,b,c,d⟩,⟨h.1.2,h.2.1.2,h.2.2.2.1.2,h.1.1,h.2.1.1,h.2.2.1.1,h.2.2.2.1.1⟩,rfl⟩
end
end Rg
end

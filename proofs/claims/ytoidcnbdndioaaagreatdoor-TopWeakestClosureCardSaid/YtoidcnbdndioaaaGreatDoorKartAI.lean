/- Part of the proof of laws of relyguardtop. No condition. -/
import Derived.Test.YtoidcnbdndioaaaGreatDoorRows
import Derived.KernelRfl
import Derived.Test.YtoidcnbdndioaaaGreatDoorKartAH
import Derived.Test.YtoidcnbdndioaaaGreatDoorKartAG
import Derived.ChangeArms
import GoSem.ClaimJoined
import Derived.ChangeSame
import Derived.WideKeyArgs
import Derived.RowKit
import Derived.LaidLaws
import Derived.Stop.Joined
import Derived.OpenShut
import Derived.MakeChecks
import Derived.FnData
set_option linter.unusedVariables false
set_option linter.unusedSimpArgs false
section
set_option maxRecDepth 100000
namespace Rg
open Go Go.Proofs Go.Proofs.YtoidcnbdndioaaaGreatDoor
namespace Seat
def tbl:List Nat:=[2,1000001,1000002,1000003,1000004,1000005,1000006,1000007,1000008,1000009,1000010,1000011,1000012,1000013,1000014,1000015,1000016,1000017,1000018,1000019,1000020,1000021,1000022,24,135,1000025,1000026,50,1000028,1000029,1000030,1000031,1000032,129,1000034,1000035,1000036,1000037,1000038,1000039,1000040,1000041,1000042,1000043,1000044,1000045,1000046,70,95,152,1000050,38,39,1000053,41,99,117,1000057,1000058,1000059,46,30,14,12,137,33,1000066,1000067,142,1000069,104,105,144,145,149,150,110,112,113,153,154,155,156,157,82,83,84,85,86,159,1000090,143,160,161,162,166,167,168,169,170,171,172,173,174,175,176,177,45,178,128,130,131,132,133,134,136,179,1000117,1000118,1000119,180,181,182,183,184,185,186,187,188,189,190,140,191,192,193,194,111,151,36,195,196,197,198,199,127,158,200,201,202,203,204,205,206,207,163,164,165,81,96,97,208,209,210,211,212,213,214,236,1000168,1000169,1000170,1000171,1000172,1000173,1000174,1000175,7,1000177,1000178,1000179,1000180,1000181,1000182,1000183,1000184,1000185,1000186,1000187,1000188,1000189,1000190,1000191,1000192,1000193,1000194,1000195,1000196,1000197,115,1000199,1000200,1000201,1000202,1000203,1000204,1000205,47,114,1000208,1000209,1000210,1000211,1000212,1000213,1000214,1000215,1000216,6,1000218,1000219,1000220,1000221,1000222,1000223,1000224,1000225,1000226,1000227,1000228,1000229,1000230,1000231,1000232,1000233,1000234,1000235,1000236,1000237,13,32,1000240,1000241,1000242,1000243,1000244,1000245,1000246,1000247,1000248,1000249,1000250,1000251,1000252,1000253,1000254,1000255,1000256,1000257,1000258,1000259,1000260,1000261,1000262,1000263,1000264,1000265,1000266,1000267,1000268,1000269,1000270,1000271,1000272,1000273,1000274,1000275,1000276,1000277,1000278,1000279,118,1000281,1000282,1000283,1000284,1000285,1000286,1000287,1000288,1000289,1000290,1000291,1000292,1000293,1000294,1000295,1000296,1000297,1000298,1000299,1000300,1000301,1000302,1000303,1000304,1000305,1000306,1000307,1000308,1000309,1000310,1000311,1000312,1000313,1000314,1000315,1000316,1000317,1000318,1000319,1000320,1000321,1000322,1000323,1000324,1000325,1000326,1000327,1000328,1000329,1000330,1000331,1000332,1000333,1000334,1000335,1000336,1000337,1000338,1000339,1000340,1000341,1000342,1000343,1000344,1000345,1000346,1000347,1000348,1000349,54,1000351,1000352,1000353,1000354,1000355,1000356,1000357,1000358,1000359,1000360,1000361,1000362,1000363,1000364,1000365,1000366,1000367,119,1000369,1000370,1000371,1000372,1000373,1000374,1000375,1000376,1000377,1000378,1000379,1000380,1000381,1000382,1000383,1000384,1000385,1000386,1000387,1000388,1000389,1000390,1000391,1000392,1000393,1000394,1000395,1000396,1000397,1000398,1000399,1000400,1000401,1000402,1000403,1000404,1000405,1000406,1000407,1000408,1000409,1000410,1000411,1000412,1000413,1000414,1000415,1000416,1000417,1000418,1000419,1000420,1000421,1000422,1000423,1000424,1000425,1000426,1000427,1000428,1000429,1000430,1000431,1000432,1000433,1000434,1000435,1000436,1000437,1000438,1000439,1000440,1000441,1000442,1000443,1000444,1000445,1000446,1000447,1000448,1000449,1000450,1000451,1000452,1000453,1000454,1000455,1000456,1000457,1000458,1000459,1000460,1000461,1000462,1000463,1000464,1000465,1000466,1000467,1000468,1000469,1000470,1000471,1000472,1000473,1000474,1000475,1000476,1000477,1000478,1000479,1000480,1000481,1000482,1000483,1000484,1000485,1000486,1000487,1000488,1000489,1000490,1000491,1000492,1000493,1000494,1000495,1000496,1000497,1000498,1000499,1000500,3,4,5,8,9,10,11,15,16,17,18,19,20,21,22,23,25,26,27,28,29,31,34,35,37,40,42,43,44,48,49,51,52,53,55,56,57,58,59,60,61,62,63,64,65,66,67,68,69,71,72,73,74,75,76,77,78,79,80,87,88,89,90,91,92,93,94,98,100,101,102,103,106,107,108,109,116,120,121,122,123,124,125,126,138,139,141,146,147,148]
def I:Inv:=⟨fun f=>tbl.findIdx? (· ==f),fun g=>if g=0 then some 0 else if g=1 then some 3 else none,none,[]⟩
def N:Nam:=⟨fun k=>tbl.getD k 0,fun k=>[0,0,0,1].getD k 0,G,G,CR Tryz.prog I,0,0⟩
def zaB (s:List Nat):Raws:=⟨[52,53,54,57,60,70,74,75,76,77,83,93,97,120,121,122,123,124,125,127,128,136,139,141,142,143,158,160,199,200,202,203,236,241,244,245,246,258,260,261,295,300,301,302,310,315,317,322,323,324,326,350,353,356,361,362,363,364,365,368,375,376,378,379,380,381,382,386,387,388,389,390,391,392,393,425,426,453,455,461,526,530,532,533,561,562,580,581,584,585,588,589,590],s,[32,78,198,540]⟩
def Ent (q:Nat×F):Prop:=(∃rf rw L raw,Tryz.prog.funcs[N.nm q.1]? =some rf/\zou Tryz.prog I rw L raw rf=some q.2)\/ ∃e,q.2.body= .ext e/\zl3 Tryz.prog N q.1 e
theorem e23:Ent (23,f23):=.inl ⟨Tryz.f24,zaB [],[2],false,Tryz.func24,by kernel_rfl⟩
theorem e24:Ent (24,f24):=.inl ⟨Tryz.f135,zaB [],[3],false,Tryz.func135,by kernel_rfl⟩
theorem e27:Ent (27,f27):=.inl ⟨Tryz.f50,zaB [],[],false,Tryz.func50,by kernel_rfl⟩
theorem e33:Ent (33,f33):=.inl ⟨Tryz.f129,zaB [],[],false,Tryz.func129,by kernel_rfl⟩
theorem e47:Ent (47,f47):=.inl ⟨Tryz.f70,zaB [],[2],false,Tryz.func70,by kernel_rfl⟩
theorem e48:Ent (48,f48):=.inl ⟨Tryz.f95,zaB [],[1],false,Tryz.func95,by kernel_rfl⟩
theorem e49:Ent (49,f49):=.inl ⟨Tryz.f152,zaB [],[3],false,Tryz.func152,by kernel_rfl⟩
theorem e51:Ent (51,f51):=.inl ⟨Tryz.f38,zaB [7],[],false,Tryz.func38,by kernel_rfl⟩
theorem e52:Ent (52,f52):=.inl ⟨Tryz.f39,zaB [15],[4],true,Tryz.func39,by kernel_rfl⟩
theorem e54:Ent (54,f54):=.inl ⟨Tryz.f41,zaB [],[2],true,Tryz.func41,by kernel_rfl⟩
theorem e55:Ent (55,f55):=.inl ⟨Tryz.f99,zaB [],[2],false,Tryz.func99,by kernel_rfl⟩
theorem e56:Ent (56,f56):=.inl ⟨Tryz.f117,zaB [],[7],false,Tryz.func117,by kernel_rfl⟩
theorem e60:Ent (60,f60):=.inl ⟨Tryz.f46,zaB [],[],true,Tryz.func46,by kernel_rfl⟩
theorem e61:Ent (61,f61):=.inl ⟨Tryz.f30,zaB [],[4],false,Tryz.func30,by kernel_rfl⟩
theorem e62:Ent (62,f62):=.inl ⟨Tryz.f14,zaB [],[4],false,Tryz.func14,by kernel_rfl⟩
theorem e63:Ent (63,f63):=.inl ⟨Tryz.f12,zaB [],[8,7,6],false,Tryz.func12,by kernel_rfl⟩
theorem e64:Ent (64,f64):=.inl ⟨Tryz.f137,zaB [],[13,5,1],false,Tryz.func137,by kernel_rfl⟩
theorem e65:Ent (65,f65):=.inl ⟨Tryz.f33,zaB [],[1],false,Tryz.func33,by kernel_rfl⟩
theorem e68:Ent (68,f68):=.inl ⟨Tryz.f142,zaB [],[2],false,Tryz.func142,by kernel_rfl⟩
theorem e70:Ent (70,f70):=.inl ⟨Tryz.f104,zaB [38],[],true,Tryz.func104,by kernel_rfl⟩
theorem e71:Ent (71,f71):=.inl ⟨Tryz.f105,zaB [],[],false,Tryz.func105,by kernel_rfl⟩
theorem e72:Ent (72,f72):=.inl ⟨Tryz.f144,zaB [],[],false,Tryz.func144,by kernel_rfl⟩
theorem e73:Ent (73,f73):=.inl ⟨Tryz.f145,zaB [],[3],false,Tryz.func145,by kernel_rfl⟩
theorem e76:Ent (76,f76):=.inl ⟨Tryz.f110,zaB [13],[],true,Tryz.func110,by kernel_rfl⟩
theorem e77:Ent (77,f77):=.inl ⟨Tryz.f112,zaB [],[],true,Tryz.func112,by kernel_rfl⟩
theorem e78:Ent (78,f78):=.inl ⟨Tryz.f113,zaB [],[1],true,Tryz.func113,by kernel_rfl⟩
theorem e79:Ent (79,f79):=.inl ⟨Tryz.f153,zaB [],[6,4,1],false,Tryz.func153,by kernel_rfl⟩
theorem e80:Ent (80,f80):=.inl ⟨Tryz.f154,zaB [],[5,1],false,Tryz.func154,by kernel_rfl⟩
theorem e81:Ent (81,f81):=.inl ⟨Tryz.f155,zaB [],[5,1],false,Tryz.func155,by kernel_rfl⟩
theorem e82:Ent (82,f82):=.inl ⟨Tryz.f156,zaB [],[6,5,1],false,Tryz.func156,by kernel_rfl⟩
theorem e83:Ent (83,f83):=.inl ⟨Tryz.f157,zaB [],[14,12],true,Tryz.func157,by kernel_rfl⟩
theorem e84:Ent (84,f84):=.inl ⟨Tryz.f82,zaB [],[5,1],false,Tryz.func82,by kernel_rfl⟩
theorem e85:Ent (85,f85):=.inl ⟨Tryz.f83,zaB [],[4,1],false,Tryz.func83,by kernel_rfl⟩
theorem e86:Ent (86,f86):=.inl ⟨Tryz.f84,zaB [],[4,1],false,Tryz.func84,by kernel_rfl⟩
theorem e87:Ent (87,f87):=.inl ⟨Tryz.f85,zaB [],[4,1],false,Tryz.func85,by kernel_rfl⟩
theorem e88:Ent (88,f88):=.inl ⟨Tryz.f86,zaB [],[13,6,2],false,Tryz.func86,by kernel_rfl⟩
theorem e89:Ent (89,f89):=.inl ⟨Tryz.f159,zaB [],[1],false,Tryz.func159,by kernel_rfl⟩
theorem e91:Ent (91,f91):=.inl ⟨Tryz.f143,zaB [],[],false,Tryz.func143,by kernel_rfl⟩
theorem e92:Ent (92,f92):=.inl ⟨Tryz.f160,zaB [],[],false,Tryz.func160,by kernel_rfl⟩
theorem e95:Ent (95,f95):=.inl ⟨Tryz.f166,zaB [],[],false,Tryz.func166,by kernel_rfl⟩
theorem e96:Ent (96,f96):=.inl ⟨Tryz.f167,zaB [],[],false,Tryz.func167,by kernel_rfl⟩
theorem e97:Ent (97,f97):=.inl ⟨Tryz.f168,zaB [],[5],true,Tryz.func168,by kernel_rfl⟩
theorem e98:Ent (98,f98):=.inl ⟨Tryz.f169,zaB [],[1],false,Tryz.func169,by kernel_rfl⟩
theorem e99:Ent (99,f99):=.inl ⟨Tryz.f170,zaB [],[5,4],false,Tryz.func170,by kernel_rfl⟩
theorem zFf:Ent (100,f100):=.inl ⟨Tryz.f171,zaB [],[2],false,Tryz.func171,by kernel_rfl⟩
theorem zFe:Ent (101,f101):=.inl ⟨Tryz.f172,zaB [],[],false,Tryz.func172,by kernel_rfl⟩
theorem zFd:Ent (102,f102):=.inl ⟨Tryz.f173,zaB [],[],false,Tryz.func173,by kernel_rfl⟩
theorem zFc:Ent (103,f103):=.inl ⟨Tryz.f174,zaB [],[],false,Tryz.func174,by kernel_rfl⟩
theorem zFb:Ent (104,f104):=.inl ⟨Tryz.f175,zaB [],[],false,Tryz.func175,by kernel_rfl⟩
theorem zFa:Ent (105,f105):=.inl ⟨Tryz.f176,zaB [],[13,12,7,6,4],false,Tryz.func176,by kernel_rfl⟩
theorem zE9:Ent (106,f106):=.inl ⟨Tryz.f177,zaB [],[],false,Tryz.func177,by kernel_rfl⟩
theorem zE8:Ent (107,f107):=.inl ⟨Tryz.f45,zaB [],[],false,Tryz.func45,by kernel_rfl⟩
theorem zE7:Ent (108,f108):=.inl ⟨Tryz.f178,zaB [],[2],false,Tryz.func178,by kernel_rfl⟩
theorem zE6:Ent (109,f109):=.inl ⟨Tryz.f128,zaB [],[],false,Tryz.func128,by kernel_rfl⟩
theorem zE5:Ent (110,f110):=.inl ⟨Tryz.f130,zaB [],[],false,Tryz.func130,by kernel_rfl⟩
theorem zE4:Ent (111,f111):=.inl ⟨Tryz.f131,zaB [],[1],false,Tryz.func131,by kernel_rfl⟩
theorem zE3:Ent (112,f112):=.inl ⟨Tryz.f132,zaB [],[5,4],false,Tryz.func132,by kernel_rfl⟩
theorem zE2:Ent (113,f113):=.inl ⟨Tryz.f133,zaB [],[],false,Tryz.func133,by kernel_rfl⟩
theorem zE1:Ent (114,f114):=.inl ⟨Tryz.f134,zaB [],[5,3],false,Tryz.func134,by kernel_rfl⟩
theorem zE0:Ent (115,f115):=.inl ⟨Tryz.f136,zaB [],[5,4],false,Tryz.func136,by kernel_rfl⟩
theorem zEZ:Ent (116,f116):=.inl ⟨Tryz.f179,zaB [],[],false,Tryz.func179,by kernel_rfl⟩
theorem zEV:Ent (131,f131):=.inl ⟨Tryz.f140,zaB [],[],false,Tryz.func140,by kernel_rfl⟩
theorem zEU:Ent (132,f132):=.inl ⟨Tryz.f191,zaB [],[],false,Tryz.func191,by kernel_rfl⟩
theorem zET:Ent (133,f133):=.inl ⟨Tryz.f192,zaB [],[],false,Tryz.func192,by kernel_rfl⟩
theorem zES:Ent (134,f134):=.inl ⟨Tryz.f193,zaB [],[],false,Tryz.func193,by kernel_rfl⟩
theorem zER:Ent (135,f135):=.inl ⟨Tryz.f194,zaB [],[0],false,Tryz.func194,by kernel_rfl⟩
theorem zEQ:Ent (136,f136):=.inl ⟨Tryz.f111,zaB [],[],true,Tryz.func111,by kernel_rfl⟩
theorem zEP:Ent (137,f137):=.inl ⟨Tryz.f151,zaB [],[12,5,3],false,Tryz.func151,by kernel_rfl⟩
theorem zEO:Ent (138,f138):=.inl ⟨Tryz.f36,zaB [],[1],false,Tryz.func36,by kernel_rfl⟩
theorem zEN:Ent (145,f145):=.inl ⟨Tryz.f158,zaB [],[],false,Tryz.func158,by kernel_rfl⟩
theorem zEM:Ent (146,f146):=.inl ⟨Tryz.f200,zaB [],[],false,Tryz.func200,by kernel_rfl⟩
theorem zEL:Ent (147,f147):=.inl ⟨Tryz.f201,zaB [],[5,3],false,Tryz.func201,by kernel_rfl⟩
theorem zEK:Ent (148,f148):=.inl ⟨Tryz.f202,zaB [],[11,9,5,3],false,Tryz.func202,by kernel_rfl⟩
theorem zEJ:Ent (149,zQZ):=.inl ⟨Tryz.f203,zaB [],[5],false,Tryz.func203,by kernel_rfl⟩
theorem zEI:Ent (150,zQY):=.inl ⟨Tryz.f204,zaB [],[5,3],false,Tryz.func204,by kernel_rfl⟩
theorem zEH:Ent (151,f151):=.inl ⟨Tryz.f205,zaB [],[5,3],false,Tryz.func205,by kernel_rfl⟩
theorem zEG:Ent (152,f152):=.inl ⟨Tryz.f206,zaB [],[5,3],false,Tryz.func206,by kernel_rfl⟩
theorem zEF:Ent (153,f153):=.inl ⟨Tryz.f207,zaB [],[5,3],false,Tryz.func207,by kernel_rfl⟩
theorem zEE:Ent (154,f154):=.inl ⟨Tryz.f163,zaB [],[3],false,Tryz.func163,by kernel_rfl⟩
theorem zED:Ent (155,f155):=.inl ⟨Tryz.f164,zaB [],[2],false,Tryz.func164,by kernel_rfl⟩
theorem zEC:Ent (156,f156):=.inl ⟨Tryz.f165,zaB [],[3,2],false,Tryz.func165,by kernel_rfl⟩
theorem zEB:Ent (157,f157):=.inl ⟨Tryz.f81,zaB [],[0],false,Tryz.func81,by kernel_rfl⟩
theorem zEA:Ent (158,f158):=.inl ⟨Tryz.f96,zaB [],[3],true,Tryz.func96,by kernel_rfl⟩
theorem zEz:Ent (159,f159):=.inl ⟨Tryz.f97,zaB [],[],false,Tryz.func97,by kernel_rfl⟩
theorem zEy:Ent (161,zQX):=.inl ⟨Tryz.f209,zaB [],[6,2],false,Tryz.func209,by kernel_rfl⟩
theorem zEx:Ent (162,zQW):=.inl ⟨Tryz.f210,zaB [],[6],false,Tryz.func210,by kernel_rfl⟩
theorem zEw:Ent (163,f163):=.inl ⟨Tryz.f211,zaB [],[2],false,Tryz.func211,by kernel_rfl⟩
theorem zEv:Ent (164,f164):=.inl ⟨Tryz.f212,zaB [],[],false,Tryz.func212,by kernel_rfl⟩
theorem zEu:Ent (165,f165):=.inl ⟨Tryz.f213,zaB [],[1],false,Tryz.func213,by kernel_rfl⟩
theorem zEt:Ent (166,f166):=.inl ⟨Tryz.f214,zaB [],[1],false,Tryz.func214,by kernel_rfl⟩
theorem zEs:Ent (176,f176):=.inl ⟨Tryz.f7,zaB [],[1],false,Tryz.func7,by kernel_rfl⟩
theorem zEe:Ent (198,zRf):=.inr ⟨.cloneI,rfl,zsN Tryz.lays2n15 (by kernel_rfl) (rf:=Tryz.f115) ⟨Tryz.func115,by kernel_rfl,by kernel_rfl⟩⟩
theorem zD6:Ent (206,f206):=.inl ⟨Tryz.f47,zaB [],[],false,Tryz.func47,by kernel_rfl⟩
theorem zD5:Ent (207,f207):=.inl ⟨Tryz.f114,zaB [],[],false,Tryz.func114,by kernel_rfl⟩
theorem zSK:Ent (217,zQV):=.inl ⟨Tryz.f6,zaB [],[6,2],false,Tryz.func6,by kernel_rfl⟩
theorem zSJ:Ent (238,zQU):=.inl ⟨Tryz.f13,zaB [],[4],false,Tryz.func13,by kernel_rfl⟩
theorem zSI:Ent (239,zQT):=.inl ⟨Tryz.f32,zaB [],[2],false,Tryz.func32,by kernel_rfl⟩
theorem zSH:Ent (280,zQS):=.inl ⟨Tryz.f118,zaB [],[],false,Tryz.func118,by kernel_rfl⟩
theorem zDR:Ent (350,zAp):=.inl ⟨Tryz.f54,zaB [],[],true,Tryz.func54,by kernel_rfl⟩
theorem zDC:Ent (368,zyQ):=.inl ⟨Tryz.f119,zaB [],[],true,Tryz.func119,by kernel_rfl⟩
theorem zSG:Ent (501,zQR):=.inl ⟨Tryz.f3,zaB [],[30,29,27,25,23,21,20,17,13,12,10,3],false,Tryz.func3,by kernel_rfl⟩
theorem zSF:Ent (503,zRe):=.inl ⟨Tryz.f5,zaB [],[4,2,1],false,Tryz.func5,by kernel_rfl⟩
theorem zSE:Ent (504,zQQ):=.inl ⟨Tryz.f8,zaB [],[13,10,8,4],false,Tryz.func8,by kernel_rfl⟩
theorem zSD:Ent (505,zQP):=.inl ⟨Tryz.f9,zaB [],[2],false,Tryz.func9,by kernel_rfl⟩
theorem zSC:Ent (506,zQO):=.inl ⟨Tryz.f10,zaB [],[5,2,1,21],false,Tryz.func10,by kernel_rfl⟩
theorem zSB:Ent (507,zQN):=.inl ⟨Tryz.f11,zaB [],[2],false,Tryz.func11,by kernel_rfl⟩
theorem zSA:Ent (508,zQM):=.inl ⟨Tryz.f15,zaB [],[2],false,Tryz.func15,by kernel_rfl⟩
theorem zSz:Ent (509,zQL):=.inl ⟨Tryz.f16,zaB [],[14,6,5],false,Tryz.func16,by kernel_rfl⟩
theorem zSy:Ent (510,zQK):=.inl ⟨Tryz.f17,zaB [],[8,6,5],false,Tryz.func17,by kernel_rfl⟩
theorem zSx:Ent (511,zQJ):=.inl ⟨Tryz.f18,zaB [],[2],false,Tryz.func18,by kernel_rfl⟩
theorem zSw:Ent (512,zQI):=.inl ⟨Tryz.f19,zaB [],[4],false,Tryz.func19,by kernel_rfl⟩
theorem zSv:Ent (513,zQH):=.inl ⟨Tryz.f20,zaB [],[3,2],false,Tryz.func20,by kernel_rfl⟩
theorem zSu:Ent (514,zQG):=.inl ⟨Tryz.f21,zaB [],[3,2,1],false,Tryz.func21,by kernel_rfl⟩
theorem zSt:Ent (515,zPK):=.inl ⟨Tryz.f22,zaB [],[8,3],false,Tryz.func22,by kernel_rfl⟩
theorem zSs:Ent (520,zQF):=.inl ⟨Tryz.f28,zaB [],[4,3,2],false,Tryz.func28,by kernel_rfl⟩
theorem zSr:Ent (521,zRd):=.inl ⟨Tryz.f29,zaB [],[6,5,4,3,2,1,12,15,17,26,29,30,34,35,37,39],false,Tryz.func29,by kernel_rfl⟩
theorem zSq:Ent (522,zQE):=.inl ⟨Tryz.f31,zaB [],[],false,Tryz.func31,by kernel_rfl⟩
theorem zSp:Ent (523,zPJ):=.inl ⟨Tryz.f34,zaB [],[12,9,6,3],false,Tryz.func34,by kernel_rfl⟩
theorem zSo:Ent (524,zPI):=.inl ⟨Tryz.f35,zaB [],[],false,Tryz.func35,by kernel_rfl⟩
theorem zSn:Ent (525,zQD):=.inl ⟨Tryz.f37,zaB [],[4,3,2,37],false,Tryz.func37,by kernel_rfl⟩
theorem zSm:Ent (526,zQC):=.inl ⟨Tryz.f40,zaB [],[3,2],true,Tryz.func40,by kernel_rfl⟩
theorem zSl:Ent (527,zQB):=.inl ⟨Tryz.f42,zaB [],[10,6],false,Tryz.func42,by kernel_rfl⟩
theorem zSk:Ent (528,zQA):=.inl ⟨Tryz.f43,zaB [],[],false,Tryz.func43,by kernel_rfl⟩
theorem zSj:Ent (529,zQz):=.inl ⟨Tryz.f44,zaB [],[],false,Tryz.func44,by kernel_rfl⟩
theorem zSi:Ent (530,zQy):=.inl ⟨Tryz.f48,zaB [],[6],true,Tryz.func48,by kernel_rfl⟩
theorem zSh:Ent (531,zPH):=.inl ⟨Tryz.f49,zaB [],[3],false,Tryz.func49,by kernel_rfl⟩
theorem zSg:Ent (532,zQx):=.inl ⟨Tryz.f51,zaB [],[],true,Tryz.func51,by kernel_rfl⟩
theorem zSf:Ent (533,zQw):=.inl ⟨Tryz.f52,zaB [],[],true,Tryz.func52,by kernel_rfl⟩
theorem zSe:Ent (534,zQv):=.inl ⟨Tryz.f53,zaB [],[6,4],false,Tryz.func53,by kernel_rfl⟩
theorem zSd:Ent (535,zQu):=.inl ⟨Tryz.f55,zaB [],[],false,Tryz.func55,by kernel_rfl⟩
theorem zSc:Ent (536,zQt):=.inl ⟨Tryz.f56,zaB [],[6],false,Tryz.func56,by kernel_rfl⟩
theorem zSb:Ent (537,zQs):=.inl ⟨Tryz.f57,zaB [],[6,4],false,Tryz.func57,by kernel_rfl⟩
theorem zSa:Ent (538,zQr):=.inl ⟨Tryz.f58,zaB [],[8,4,3,1],false,Tryz.func58,by kernel_rfl⟩
theorem zR9:Ent (539,zQq):=.inl ⟨Tryz.f59,zaB [],[1],false,Tryz.func59,by kernel_rfl⟩
theorem zR8:Ent (540,zQp):=.inl ⟨Tryz.f60,zaB [],[5,1],true,Tryz.func60,by kernel_rfl⟩
theorem zR7:Ent (541,zQo):=.inl ⟨Tryz.f61,zaB [],[6,4],false,Tryz.func61,by kernel_rfl⟩
theorem zR6:Ent (542,zQn):=.inl ⟨Tryz.f62,zaB [],[5,3,2],false,Tryz.func62,by kernel_rfl⟩
theorem zR5:Ent (543,zQm):=.inl ⟨Tryz.f63,zaB [],[2],false,Tryz.func63,by kernel_rfl⟩
theorem zR4:Ent (544,zQl):=.inl ⟨Tryz.f64,zaB [],[1],false,Tryz.func64,by kernel_rfl⟩
theorem zR3:Ent (545,zQk):=.inl ⟨Tryz.f65,zaB [],[5,4,2],false,Tryz.func65,by kernel_rfl⟩
theorem zR2:Ent (546,zQj):=.inl ⟨Tryz.f66,zaB [],[1],false,Tryz.func66,by kernel_rfl⟩
theorem zR1:Ent (547,zPc):=.inl ⟨Tryz.f67,zaB [39],[6],false,Tryz.func67,by kernel_rfl⟩
theorem zR0:Ent (548,zQi):=.inl ⟨Tryz.f68,zaB [],[9,2],false,Tryz.func68,by kernel_rfl⟩
theorem zRZ:Ent (550,zQh):=.inl ⟨Tryz.f71,zaB [],[9,6,4,3],false,Tryz.func71,by kernel_rfl⟩
theorem zRY:Ent (559,zQg):=.inl ⟨Tryz.f80,zaB [],[],false,Tryz.func80,by kernel_rfl⟩
theorem zRX:Ent (560,zPG):=.inl ⟨Tryz.f87,zaB [],[3],false,Tryz.func87,by kernel_rfl⟩
theorem zRW:Ent (561,zQf):=.inl ⟨Tryz.f88,zaB [],[5,1],true,Tryz.func88,by kernel_rfl⟩
theorem zRV:Ent (562,zQe):=.inl ⟨Tryz.f89,zaB [],[3],true,Tryz.func89,by kernel_rfl⟩
theorem zRU:Ent (563,zQd):=.inl ⟨Tryz.f90,zaB [],[6,3],false,Tryz.func90,by kernel_rfl⟩
theorem zRT:Ent (564,zQc):=.inl ⟨Tryz.f91,zaB [],[],false,Tryz.func91,by kernel_rfl⟩
theorem zRS:Ent (565,zQb):=.inl ⟨Tryz.f92,zaB [],[2],false,Tryz.func92,by kernel_rfl⟩
theorem zRR:Ent (566,zQa):=.inl ⟨Tryz.f93,zaB [53],[19,12,10,8,7],false,Tryz.func93,by kernel_rfl⟩
theorem zRQ:Ent (567,zP9):=.inl ⟨Tryz.f94,zaB [],[4,3,2],false,Tryz.func94,by kernel_rfl⟩
theorem zRP:Ent (568,zP8):=.inl ⟨Tryz.f98,zaB [],[1],false,Tryz.func98,by kernel_rfl⟩
theorem zRO:Ent (569,zP7):=.inl ⟨Tryz.f100,zaB [],[2],false,Tryz.func100,by kernel_rfl⟩
theorem zRN:Ent (570,zP6):=.inl ⟨Tryz.f101,zaB [],[4],false,Tryz.func101,by kernel_rfl⟩
theorem zRM:Ent (571,zP5):=.inl ⟨Tryz.f102,zaB [],[2,1],false,Tryz.func102,by kernel_rfl⟩
theorem zRL:Ent (572,zP4):=.inl ⟨Tryz.f103,zaB [],[2,1],false,Tryz.func103,by kernel_rfl⟩
theorem zRK:Ent (573,zP3):=.inl ⟨Tryz.f106,zaB [],[7,5,4],false,Tryz.func106,by kernel_rfl⟩
theorem zRJ:Ent (574,zP2):=.inl ⟨Tryz.f107,zaB [],[5,4,3],false,Tryz.func107,by kernel_rfl⟩
theorem zRI:Ent (575,zP1):=.inl ⟨Tryz.f108,zaB [],[],false,Tryz.func108,by kernel_rfl⟩
theorem zRH:Ent (576,zP0):=.inl ⟨Tryz.f109,zaB [],[],false,Tryz.func109,by kernel_rfl⟩
theorem zRG:Ent (577,zPZ):=.inl ⟨Tryz.f116,zaB [],[1],false,Tryz.func116,by kernel_rfl⟩
theorem zRF:Ent (578,zPY):=.inl ⟨Tryz.f120,zaB [],[],false,Tryz.func120,by kernel_rfl⟩
theorem zRE:Ent (579,zPF):=.inl ⟨Tryz.f121,zaB [],[9,6],false,Tryz.func121,by kernel_rfl⟩
theorem zRD:Ent (580,zPX):=.inl ⟨Tryz.f122,zaB [],[],true,Tryz.func122,by kernel_rfl⟩
theorem zRC:Ent (581,zPW):=.inl ⟨Tryz.f123,zaB [],[],true,Tryz.func123,by kernel_rfl⟩
theorem zRB:Ent (582,zPV):=.inl ⟨Tryz.f124,zaB [],[2],false,Tryz.func124,by kernel_rfl⟩
theorem zRA:Ent (585,zPE):=.inl ⟨Tryz.f138,zaB [],[],true,Tryz.func138,by kernel_rfl⟩
theorem zRz:Ent (586,zPU):=.inl ⟨Tryz.f139,zaB [],[6,2],false,Tryz.func139,by kernel_rfl⟩
theorem zRy:Ent (587,zPT):=.inl ⟨Tryz.f141,zaB [],[],false,Tryz.func141,by kernel_rfl⟩
theorem zRx:Ent (588,zPS):=.inl ⟨Tryz.f146,zaB [25],[],true,Tryz.func146,by kernel_rfl⟩
theorem zRw:Ent (589,zPR):=.inl ⟨Tryz.f147,zaB [],[],true,Tryz.func147,by kernel_rfl⟩
theorem zRv:Ent (590,zPQ):=.inl ⟨Tryz.f148,zaB [48,56],[5],true,Tryz.func148,by kernel_rfl⟩
theorem all: ∀q∈zBg,Ent q:=by
 unfold zBg;simp only[List.forall_mem_cons];exact⟨e23,e24,e27,e33,e47,e48,e49,e51,e52,e54,e55,e56,e60,e61,e62,e63,e64,e65,e68,e70,e71,e72,e73,e76,e77,e78,e79,e80,e81,e82,e83,e84,e85,e86,e87,e88,e89,e91,e92,e95,e96,e97,e98,e99,zFf,zFe,zFd,zFc,zFb,zFa,zE9,zE8,zE7,zE6,zE5,zE4,zE3,zE2,zE1,zE0,zEZ,zEV,zEU,zET,zES,zER,zEQ,zEP,zEO,zEN,zEM,zEL,zEK,zEJ,zEI,zEH,zEG,zEF,zEE,zED,zEC,zEB,zEA,zEz,zEy,zEx,zEw,zEv,zEu,zEt,zEs,zEe,zD6,zD5,zSK,zSJ,zSI,zSH,zDR,zDC,zSG,zSF,zSE,zSD,zSC,zSB,zSA,zSz,zSy,zSx,zSw,zSv,zSu,zSt,zSs,zSr,zSq,zSp,zSo,zSn,zSm,zSl,zSk,zSj,zSi,zSh,zSg,zSf,zSe,zSd,zSc,zSb,zSa,zR9,zR8,zR7,zR6,zR5,zR4,zR3,zR2,zR1,zR0,zRZ,zRY,zRX,zRW,zRV,zRU,zRT,zRS,zRR,zRQ,zRP,zRO,zRN,zRM,zRL,zRK,zRJ,zRI,zRH,zRG,zRF,zRE,zRD,zRC,zRB,zRA,zRz,zRy,zRx,zRw,zRv,fun _ h=>by cases h⟩
end Seat
end Rg
end
section
namespace Rg
open Go
abbrev ti (n:Int):T:=.int .i64 n
abbrev tb (b:Bool):T:=.bool b
abbrev ints (l:List Int):T:=.sl (l.map fun n=>[ti n])
@[go_sem]theorem zFu (a b:Int):(a==b)=decide (a=b):=by by_cases h:a=b<;>simp[h]
@[go_sem]theorem zFt (a b:Int):(a != b)=decide (¬a=b):=by by_cases h:a=b<;>simp[h]
@[go_sem]theorem zFq:IntKind.i64.wrap 0=0:=by rw[IntKind.wrap_i64];rfl
@[go_sem]theorem zFp:IntKind.i64.wrap 1=1:=by rw[IntKind.wrap_i64];rfl
@[go_sem]theorem zFo:IntKind.i64.wrap 2=2:=by rw[IntKind.wrap_i64];rfl
@[go_sem]theorem zFn:IntKind.i64.wrap 3=3:=by rw[IntKind.wrap_i64];rfl
inductive Expr where
 | mk (op w n:Int) (kids:List Expr)
 deriving Inhabited
namespace Expr
def op:Expr->Int | .mk o _ _ _=>o
def w:Expr->Int | .mk _ w _ _=>w
def n:Expr->Int | .mk _ _ n _=>n
def kids:Expr->List Expr | .mk _ _ _ k=>k
@[go_sem]theorem op_mk (o w n:Int) (k:List Expr):(Expr.mk o w n k).op=o:=rfl
@[go_sem]theorem w_mk (o w n:Int) (k:List Expr):(Expr.mk o w n k).w=w:=rfl
@[go_sem]theorem n_mk (o w n:Int) (k:List Expr):(Expr.mk o w n k).n=n:=rfl
@[go_sem]theorem kids_mk (o w n:Int) (k:List Expr):(Expr.mk o w n k).kids=k:=rfl
mutual
def enc:Expr->List T
 | .mk o w n k=>[ti o,ti w,ti n,.sl (zAM k)]
def zAM:List Expr->List (List T)
 | []=>[]
 | e::r=>enc e::zAM r
end
theorem zsW: ∀l:List Expr,zAM l=l.map enc
 | []=>rfl
 | e::r=>by rw[zAM,zsW r];rfl
theorem enc_eq (e:Expr):e.enc=[ti e.op,ti e.w,ti e.n,.sl (e.kids.map enc)]:=by
 cases e;simp only[enc,zsW,op,w,n,kids]
mutual
def size:Expr->Nat
 | .mk _ _ _ k=>ztT k+1
def ztT:List Expr->Nat
 | []=>0
 | e::r=>size e+ztT r
end
theorem zoR: ∀l:List Expr,ztT l=(l.map size).sum
 | []=>rfl
 | e::r=>by rw[ztT,zoR r];rfl
theorem size_eq (e:Expr):e.size=(e.kids.map size).sum+1:=by
 cases e;simp only[size,zoR,kids]
theorem size_pos (e:Expr):0<e.size:=by rw[size_eq];omega
theorem size_kid {e k:Expr} (h:k∈e.kids):k.size<e.size:=by
 rw[size_eq e]
 have:k.size<=(e.kids.map size).sum:=by
  generalize e.kids=l at h
  induction l with
  | nil=>simp at h
  | cons x r ih=>
    simp only[List.map_cons,List.sum_cons];rcases List.mem_cons.1 h with rfl | h
    ·omega
    ·have:=ih h;omega
 omega
theorem ind {P:Expr->Prop} (h: ∀e:Expr,(∀k∈e.kids,P k)->P e): ∀e,P e:=by
 intro e
 generalize hn:e.size=n
 induction n using Nat.strongRecOn generalizing e with
 | _ n ih=>exact h e fun k hk=>ih k.size (by have:=size_kid hk;omega) k rfl
mutual
def allE (f:Expr->Bool):Expr->Bool
 | .mk o w n k=>f (.mk o w n k)&&zvw f k
def zvw (f:Expr->Bool):List Expr->Bool
 | []=>true
 | e::r=>allE f e&&zvw f r
end
theorem zpV (f:Expr->Bool): ∀l:List Expr,zvw f l=l.all (allE f)
 | []=>rfl
 | e::r=>by rw[zvw,zpV f r];rfl
theorem allE_eq (f:Expr->Bool) (e:Expr):allE f e=(f e&&e.kids.all (allE f)):=by
 cases e;simp only[allE,zpV,kids]
theorem allE_self {f:Expr->Bool} {e:Expr} (h:allE f e=true):f e=true:=by
 rw[allE_eq]at h;simp only[zF]at h;exact h.1
theorem allE_kid {f:Expr->Bool} {e k:Expr} (h:allE f e=true) (hk:k∈e.kids):allE f k=true:=by
 rw[allE_eq]at h;simp only[zF,zN]at h;exact h.2 k hk
theorem len_le_size (ks:List Expr):ks.length<=(ks.map size).sum:=by
 induction ks with
 | nil=>simp
 | cons x r ih=>have:=size_pos x;simp only[List.length_cons,List.map_cons,List.sum_cons];omega
theorem take_le_size (ks:List Expr) (i:Nat):((ks.take i).map size).sum<=(ks.map size).sum:=by
 induction ks generalizing i with
 | nil=>simp
 | cons x r ih=>cases i with
   | zero=>simp
   | succ i=>have:=ih i;simp only[List.take_succ_cons,List.map_cons,List.sum_cons];omega
def kw (e:Expr) (i:Nat):Int:=(e.kids.getD i (.mk 0 0 0 [])).w
end Expr
structure Cell where
 name:ByteArray
 w:Int
 init:Int
 thread:Int
 ghost:Bool
 module:Int
 deriving Inhabited
def Cell.enc (c:Cell):List T:=[.str c.name,ti c.w,ti c.init,ti c.thread,tb c.ghost,ti c.module]
structure Assign where
 cell:Int
 to:Expr
 deriving Inhabited
def Assign.enc (a:Assign):List T:=ti a.cell::a.to.enc
structure Step where
 kind:Int
 fr:Int
 to:Int
 guard:Expr
 set:List Assign
 release:Bool
 target:Int
 module:Int
 deriving Inhabited
def Step.enc (s:Step):List T:=[ti s.kind,ti s.fr,ti s.to]++s.guard.enc++[.sl (s.set.map Assign.enc),tb s.release,ti s.target,ti s.module]
structure Loop where
 head:Int
 body:List Int
 variant:Expr
 deriving Inhabited
def Loop.enc (l:Loop):List T:=[ti l.head,ints l.body]++l.variant.enc
structure Thread where
 name:ByteArray
 points:Int
 asserts:List Expr
 modules:List Int
 steps:List Step
 loops:List Loop
 asleep:Bool
 deriving Inhabited
def Thread.enc (t:Thread):List T:=
 [.str t.name,ti t.points,.sl (t.asserts.map Expr.enc),ints t.modules,.sl (t.steps.map Step.enc),.sl (t.loops.map Loop.enc),tb t.asleep]
structure Contract where
 name:ByteArray
 owner:ByteArray
 rely:Expr
 guar:Expr
 frame:List Int
 deriving Inhabited
def Contract.enc (c:Contract):List T:=[.str c.name,.str c.owner]++c.rely.enc++c.guar.enc++[ints c.frame]
structure Lock where
 cell:Int
 inv:Expr
 module:Int
 deriving Inhabited
def Lock.enc (l:Lock):List T:=[ti l.cell]++l.inv.enc++[ti l.module]
structure Prog where
 cells:List Cell
 modules:List Contract
 locks:List Lock
 threads:List Thread
 deriving Inhabited
def Prog.enc (p:Prog):List T:=[.sl (p.cells.map Cell.enc),.sl (p.modules.map Contract.enc),.sl (p.locks.map Lock.enc),.sl (p.threads.map Thread.enc)]
structure Entry where
 cells:List Int
 values:List Int
 deriving Inhabited,DecidableEq
def Entry.enc (e:Entry):List T:=[ints e.cells,ints e.values]
structure Config where
 mem:List Int
 at_:List Int
 buf:List (List Entry)
 deriving Inhabited,DecidableEq
def Config.enc (c:Config):List T:=[ints c.mem,ints c.at_,.sl (c.buf.map fun b=>[.sl (b.map Entry.enc)])]
structure Choice where
 thread:Int
 step:Int
 cell:Int
 deriving Inhabited,DecidableEq
def Choice.enc (c:Choice):List T:=[ti c.thread,ti c.step,ti c.cell]
attribute [go_sem] Expr.enc_eq Cell.enc Assign.enc Step.enc Loop.enc Thread.enc Contract.enc Lock.enc Prog.enc Entry.enc Config.enc Choice.enc
def ag (l:List T):V:=.agg (l.map V.t)
theorem zan (i:Nat) (h:i<2^62):IntKind.i64.wrap ((i:Int)+1)=((i+1:Nat):Int):=by rw[zaH (by omega)];omega
theorem zaf {α:Type} {l:List α} {i:Nat} {x:α} (h:l[i]? =some x):l.take (i+1)=l.take i++[x]:=by
 rw[List.take_add_one,h];rfl
theorem zes {i k:Nat} (h:i<=k):(2:Int)^i<=2^k:=by
 have:=Nat.pow_le_pow_right (n:=2) (by omega) h
 exact_mod_cast this
theorem zcn (i:Nat):0<(2:Int)^i:=Int.pow_pos (by omega)
theorem zai {α:Type} {l:List α} {i:Nat} (h:i<l.length): ∃x,l[i]? =some x/\x∈l:=⟨l[i],zI h,List.getElem_mem h⟩
end Rg
end
section
namespace Rg
open Go
section
variable {H:Type} (enc:TypeId×Value->H) (P:Program) (W:World) (nm:Nat->Nat)
def ztv (cs:List Value) (xs:List T):Prop:=
 cs.length=xs.length/\ ∀(j:Nat) (x:T),xs[j]? =some x-> ∃v,cs[j]? =some v/\RepT W (fun r=>r<W.heap.size) nm v x
def Rd {α:Type} (n:Nat) (t:TypeId) (f:α->List T) (good:α->Prop):Prop:=
 ∀(cs:List Value) (x:DataW H×List MemPlace),DataW.trod enc P W 0 (fun _=>true) true n t cs=some x->(x.1.weights P t).all (· <=reachBytes)=true-> ∃a,good a/\ztv W nm cs (f a)
def RdF {α:Type} (n tot:Nat) (fs:List (TypeId×Nat)) (off:Nat) (f:α->List T) (good:α->Prop):Prop:=
 ∀(cs:List Value) (xs:List (DataW H×List MemPlace)),cs.length=tot->xs.length=fs.length->
  (∀(i:Nat) (fd:TypeId×Nat),fs[i]? =some fd->DataW.trod enc P W 0 (fun _=>true) true n fd.1 ((cs.drop fd.2).take (P.cellsOf fd.1))=xs[i]?)->
  (DataW.weightsEach P (fs.map (·.1)) (xs.map (·.1))).all (· <=reachBytes)=true-> ∃a,good a/\ztv W nm (cs.drop off) (f a)
end
section
variable {H:Type} {enc:TypeId×Value->H} {P:Program} {W:World} {nm:Nat->Nat}
theorem ztv.one {v:Value} {x:T} (h:RepT W (fun r=>r<W.heap.size) nm v x):ztv W nm [v] [x]:=
 ⟨rfl,fun j y hj=>by
   cases j with
   | zero=>simp at hj;subst hj;exact⟨v,rfl,h⟩
   | succ j=>simp at hj⟩
theorem ztv.append {cs ds:List Value} {xs ys:List T} (h:ztv W nm cs xs) (h':ztv W nm ds ys):ztv W nm (cs++ds) (xs++ys):=by
 refine⟨by simp[h.1,h'.1],fun j x hj=> ?_⟩;rw[List.getElem?_append]at hj⊢;rw[h.1];split at hj
 ·rename_i Ad;rw[if_pos Ad];exact h.2 j x hj
 ·rename_i Ad;rw[if_neg Ad];exact h'.2 _ x hj
theorem zvJ {k:IntKind} {t:TypeId} (ht:P.underlying t=some (.int k)) (n:Nat):Rd enc P W nm n t (fun i:Int=>[.int k i]) (fun i=>(Lit.int k i).wf=true):=by
 intro cs x h _;obtain⟨i,rfl,_,hw⟩:=DataW.trod_int ht h;exact⟨i,hw,.one (.int k i)⟩
theorem zww {t:TypeId} (ht:P.underlying t=some .bool) (n:Nat):Rd enc P W nm n t (fun b:Bool=>[.bool b]) (fun _=>True):=by
 intro cs x h _;obtain⟨b,rfl,_⟩:=DataW.trod_bool ht h;exact⟨b,trivial,.one (.bool b)⟩
theorem zyj {t:TypeId} (ht:P.underlying t=some .string) (n:Nat):Rd enc P W nm n t (fun s:ByteArray=>[.str s]) (fun s=>s.size<=reachBytes):=by
 intro cs x h hw;obtain⟨s,rfl,rfl,_⟩:=DataW.trod_string ht h;refine⟨s,?_,.one (.str s)⟩;simp only[DataW.weights,List.all_cons,List.all_nil,Bool.and_true,decide_eq_true_eq]at hw;rw[Array.length_toList]at hw;exact hw
theorem zge {e:TypeId}: ∀{l:List (DataW H)},(DataW.weightsAll P e l).all (· <=reachBytes)=true-> ∀d∈l,(d.weights P e).all (· <=reachBytes)=true
 | [],_,d,hd=>by simp at hd
 | x::r,h,d,hd=>by
   rw[DataW.weightsAll,List.all_append,zF]at h;rcases List.mem_cons.1 hd with rfl | hd
   ·exact h.1
   ·exact zge h.2 d hd
theorem cells?_get {base:Nat} {a:Addr} {n:Nat} {cs:List Value} (h:W.cells? base a n=some cs):cs.length=n/\ ∀j,j<n->W.cell? (a.add j)=cs[j]? :=by
 unfold World.cells? at h;split at h
 ·exact⟨by simpa using mapM_some_length h,fun j hj=>by simpa using mapM_some_get h j j (by simp[hj])⟩
 ·simp at h
theorem cell?_spot {a:Addr} {v:Value} (h:W.cell? a=some v):a.spot=none/\a.block<W.heap.size:=by
 unfold World.cell? at h;split at h
 ·rename_i hb;split at h
  ·simp at h
  ·rename_i hs;refine⟨by cases Nf:a.spot<;>simp_all,?_⟩;have:=Array.getElem?_eq_some_iff.1 hb;exact this.1
 ·simp at h
theorem zjB {α:Type} {Q:Nat->α->Prop}: ∀(n:Nat),(∀i,i<n-> ∃a,Q i a)-> ∃l:List α,l.length=n/\ ∀(i:Nat) (a:α),l[i]? =some a->Q i a
 | 0,_=>⟨[],rfl,fun i a h=>by simp at h⟩
 | n+1,h=>by
   obtain⟨l,hl,hq⟩:=zjB n (fun i hi=>h i (by omega));obtain⟨a,ha⟩:=h n (by omega);refine⟨l++[a],by simp[hl],fun i b hb=> ?_⟩;rw[List.getElem?_append]at hb;split at hb
   ·exact hq i b hb
   ·rename_i Ad
    have:i=n:=by
     have:=(zH.1 hb).1;simp at this;omega
    subst this;simp[hl]at hb;exact hb▸ha
theorem zuj {α:Type} {t e:TypeId} {f:α->List T} {good:α->Prop} (ht:P.underlying t=some (.slice e)) (hb:0<P.bytesOf e) (hc:0<P.cellsOf e) (n:Nat) (h: ∀m,m<n->Rd enc P W nm m e f good):
 Rd enc P W nm n t (fun l:List α=>[.sl (l.map f)]) (fun l=>l.length<=reachBytes/\ ∀a∈l,good a):=by
 intro cs x FS hw;rcases DataW.trod_slice ht FS with⟨rfl,_⟩ | ⟨a,len,cap,elems,rest,m,rfl,rfl,rfl,_,Mv,_,M2,KL,_,_⟩
 ·exact⟨[],⟨by simp,by simp⟩,.one (.sl0 none 0)⟩
 ·simp only[DataW.weights,ht,List.all_cons,List.all_append,zF,decide_eq_true_eq,List.length_map]at hw
  have Fg: ∀i,i<len-> ∃b:α,good b/\ ∃ci,W.cells? 0 (a.add (i*P.cellsOf e)) (P.cellsOf e)=some ci/\ztv W nm ci (f b):=by
   intro i hi;have h1:=KL i hi;obtain⟨z,hz⟩: ∃z,elems[i]? =some z:=⟨_,zI (by omega)⟩
   rw[hz,zB]at h1;obtain⟨ci,Id,PM⟩:=h1;have MM:=zge hw.2.1 z.1 (List.mem_map.2 ⟨z,zL hz,rfl⟩);obtain⟨b,hg,hr⟩:=h m (by omega) ci z PM MM;exact⟨b,hg,ci,Id,hr⟩
  obtain⟨l,hl,hq⟩:=zjB len Fg;refine⟨l,⟨?_,fun b hb=> ?_⟩,.one ?_⟩
  ·have:elems.length*1<=(elems.length+rest.length)*P.bytesOf e:=Nat.mul_le_mul (by omega) hb;omega
  ·obtain⟨i,hi⟩:=List.getElem?_of_mem hb;exact(hq i b hi).1
  ·by_cases h0:len=0
   ·subst h0;have:l=[]:=List.length_eq_zero_iff.1 hl;subst this;exact .sl0 _ _
   ·have H5: ∀(i:Nat) (b:α),l[i]? =some b->(f b).length=P.cellsOf e:=by
     intro i b hi;obtain⟨_,ci,Id,hr⟩:=hq i b hi;rw[<- hr.1,(cells?_get Id).1]
    have AW: ∀(i j:Nat) (b:α),l[i]? =some b->j<P.cellsOf e-> ∃v,W.cell? ((a.add (i*P.cellsOf e)).add j)=some v/\ ∀x,(f b)[j]? =some x->RepT W (fun r=>r<W.heap.size) nm v x:=by
     intro i j b hi hj;obtain⟨_,ci,Id,hr⟩:=hq i b hi;have hg:=cells?_get Id;obtain⟨v,hv⟩: ∃v,ci[j]? =some v:=⟨_,zI (by omega)⟩
     refine⟨v,by rw[hg.2 j hj,hv],fun x hx=> ?_⟩;obtain⟨u,hu,Nj⟩:=hr.2 j x hx;rw[hv]at hu;cases hu;exact Nj
    obtain⟨b0,Co⟩: ∃b,l[0]? =some b:=⟨_,zI (by omega)⟩
    obtain⟨v0,Fz,_⟩:=AW 0 0 b0 Co hc;have DH:(a.add (0*P.cellsOf e)).add 0=a:=by simp[Addr.add]
    rw[DH]at Fz;obtain⟨Nf,LO⟩:=cell?_spot Fz;obtain⟨r,off,spot⟩:=a;simp only at Nf LO;subst Nf
    have Hk: ∀i j,((⟨r,off,none⟩:Addr).add (i*P.cellsOf e)).add j=⟨r,off+i*P.cellsOf e+j,none⟩:=by
     intro i j;unfold Addr.add;split<;>split<;>simp_all
    have Ac:(l.map f).length=len:=by simp[hl]
    rw[show Value.slice (some ⟨r,off,none⟩) len cap=Value.slice (some ⟨r,off,none⟩) (l.map f).length cap by rw[Ac]];refine .sl r off cap (P.cellsOf e) (l.map f) (fun i j=>(W.cell? ⟨r,off+i*P.cellsOf e+j,none⟩).getD .nilFunc) (by omega) (by omega) LO ?_ ?_ ?_
    ·intro i y hy;rw[zJ,zE]at hy;obtain⟨b,hb,rfl⟩:=hy;exact H5 i b hb
    ·intro i y j x hy hx;rw[zJ,zE]at hy;obtain⟨b,hb,rfl⟩:=hy;have hj:=(zH.1 hx).1;rw[H5 i b hb]at hj;obtain⟨v,hv,_⟩:=AW i j b hb hj;rw[Hk]at hv;rw[hv];rfl
    ·intro i y j x hy hx;rw[zJ,zE]at hy;obtain⟨b,hb,rfl⟩:=hy;have hj:=(zH.1 hx).1;rw[H5 i b hb]at hj;obtain⟨v,hv,hr⟩:=AW i j b hb hj;rw[Hk]at hv;rw[hv];exact hr x hx
theorem ze1 {n tot:Nat}:RdF enc P W nm n tot [] tot (fun _:Unit=>[]) (fun _=>True):=by
 intro cs xs hl _ _ _;refine⟨(),trivial,?_⟩;rw[List.drop_of_length_le (by omega)];exact⟨rfl,fun j x h=>by simp at h⟩
theorem zax {α β:Type} {n tot off sz:Nat} {t:TypeId} {fs:List (TypeId×Nat)} {f:α->List T} {good:α->Prop} {g:β->List T} {good':β->Prop}
 (AS:P.cellsOf t=sz) (h:Rd enc P W nm n t f good) (h':RdF enc P W nm n tot fs (off+sz) g good'):
 RdF enc P W nm n tot ((t,off)::fs) off (fun q:α×β=>f q.1++g q.2) (fun q=>good q.1/\good' q.2):=by
 intro cs xs hl Iq hx hw
 cases xs with
 | nil=>simp at Iq
 | cons x r=>
   have h0:=hx 0 (t,off) rfl;simp only[List.getElem?_cons_zero,AS]at h0;rw[List.map_cons,List.map_cons,DataW.weightsEach,List.all_append,zF]at hw;obtain⟨a,ha,Cu⟩:=h _ x h0 hw.1;obtain⟨b,hb,Eb⟩:=h' cs r hl (by simpa using Iq) (fun i fd hi=>by simpa using hx (i+1) fd (by simpa using hi)) hw.2;refine⟨(a,b),⟨ha,hb⟩,?_⟩;have:cs.drop off=(cs.drop off).take sz++cs.drop (off+sz):=by rw[<- List.drop_drop,List.take_append_drop]
   rw[this];exact Cu.append Eb
theorem zrU {α:Type} {t:TypeId} {fs:List (TypeId×Nat)} {tot:Nat} {f:α->List T} {good:α->Prop}
 (ht:(match P.underlying t with | some (.struct a)=>decide (a.toList.map (fun x=>(x.type,x.offset))=fs) | _=>false)=true) (PO:P.cellsOf t=tot) (n:Nat)
 (h: ∀m,m<n->RdF enc P W nm m tot fs 0 f good):Rd enc P W nm n t f good:=by
 intro cs x FS hw;split at ht
 ·rename_i a hu;rw[decide_eq_true_eq]at ht;obtain⟨xs,m,rfl,rfl,hl,Iq,hx⟩:=DataW.trod_struct hu FS;subst ht
  have:=h m (by omega) cs xs (by omega) (by simp[Iq]) (fun i fd hi=>by
   rw[zJ,zE]at hi;obtain⟨f',JO,rfl⟩:=hi
   exact hx i f' (by simpa using JO)) (by
   simp only[DataW.weights,hu]at hw;rw[List.map_map]
   exact hw)
  simpa using this
 ·simp at ht
theorem Rd.conv {α β:Type} {t:TypeId} {n:Nat} {f:α->List T} {good:α->Prop} {g:β->List T} {good':β->Prop} (h:Rd enc P W nm n t f good) (hc: ∀a,good a-> ∃b,good' b/\f a=g b):Rd enc P W nm n t g good':=by
 intro cs x FS hw;obtain⟨a,ha,hr⟩:=h cs x FS hw;obtain⟨b,hb,he⟩:=hc a ha;exact⟨b,hb,he▸hr⟩
end
end Rg
end
section
namespace Rg
open Go
structure Tys where
 int:Nat
 bool:Nat
 str:Nat
 u8:Nat
 ints:Nat
 bytes:Nat
 expr:Nat
 exprs:Nat
 cell:Nat
 cells:Nat
 assign:Nat
 assigns:Nat
 step:Nat
 steps:Nat
 loop:Nat
 loops:Nat
 thread:Nat
 threads:Nat
 contract:Nat
 contracts:Nat
 lock:Nat
 locks:Nat
 prog:Nat
 entry:Nat
 entries:Nat
 bufs:Nat
 config:Nat
 choice:Nat
def zc3 (P:Program) (t:TypeId) (k:IntKind):Bool:=(match P.underlying t with | some (.int k')=>decide (k'=k) | _=>false)&&decide (P.cellsOf t=1)
def zfx (P:Program) (t:TypeId):Bool:=(match P.underlying t with | some .bool=>true | _=>false)&&decide (P.cellsOf t=1)
def zii (P:Program) (t:TypeId):Bool:=(match P.underlying t with | some .string=>true | _=>false)&&decide (P.cellsOf t=1)
def zfl (P:Program) (t e:TypeId):Bool:=(match P.underlying t with | some (.slice e')=>decide (e'=e) | _=>false)&&decide (0<P.bytesOf e)&&decide (0<P.cellsOf e)&&decide (P.cellsOf t=1)
def zhU (P:Program) (t:TypeId) (tot:Nat) (fs:List (TypeId×Nat)):Bool:=
 (match P.underlying t with | some (.struct a)=>decide (a.toList.map (fun x=>(x.type,x.offset))=fs) | _=>false)&&decide (P.cellsOf t=tot)
structure Tys.Ok0 (P:Program) (y:Tys):Prop where
 int:zc3 P y.int .i64=true
 bool:zfx P y.bool=true
 str:zii P y.str=true
 u8:zc3 P y.u8 .u8=true
 ints:zfl P y.ints y.int=true
 expr:zhU P y.expr 4 [(y.int,0),(y.int,1),(y.int,2),(y.exprs,3)]=true
 exprs:zfl P y.exprs y.expr=true
 cell:zhU P y.cell 6 [(y.str,0),(y.int,1),(y.int,2),(y.int,3),(y.bool,4),(y.int,5)]=true
 cells:zfl P y.cells y.cell=true
 assign:zhU P y.assign 5 [(y.int,0),(y.expr,1)]=true
 assigns:zfl P y.assigns y.assign=true
 step:zhU P y.step 11 [(y.int,0),(y.int,1),(y.int,2),(y.expr,3),(y.assigns,7),(y.bool,8),(y.int,9),(y.int,10)]=true
 steps:zfl P y.steps y.step=true
 loop:zhU P y.loop 6 [(y.int,0),(y.ints,1),(y.expr,2)]=true
 loops:zfl P y.loops y.loop=true
 thread:zhU P y.thread 7 [(y.str,0),(y.int,1),(y.exprs,2),(y.ints,3),(y.steps,4),(y.loops,5),(y.bool,6)]=true
 threads:zfl P y.threads y.thread=true
 contract:zhU P y.contract 11 [(y.str,0),(y.str,1),(y.expr,2),(y.expr,6),(y.ints,10)]=true
 contracts:zfl P y.contracts y.contract=true
 lock:zhU P y.lock 6 [(y.int,0),(y.expr,1),(y.int,5)]=true
 locks:zfl P y.locks y.lock=true
 prog:zhU P y.prog 4 [(y.cells,0),(y.contracts,1),(y.locks,2),(y.threads,3)]=true
structure Tys.OkP (P:Program) (y:Tys):Prop extends y.Ok0 P where
 bytes:zfl P y.bytes y.u8=true
structure Tys.Ok (P:Program) (y:Tys):Prop extends y.OkP P where
 entry:zhU P y.entry 2 [(y.ints,0),(y.ints,1)]=true
 entries:zfl P y.entries y.entry=true
 bufs:zfl P y.bufs y.entries=true
 config:zhU P y.config 3 [(y.ints,0),(y.ints,1),(y.bufs,2)]=true
 choice:zhU P y.choice 3 [(y.int,0),(y.int,1),(y.int,2)]=true
section
variable {P:Program} {t e:TypeId} {k:IntKind}
theorem zc3.u (h:zc3 P t k=true):P.underlying t=some (.int k):=by
 simp only[zc3,zF]at h;have h:=h.1;split at h
 ·rename_i hu;rw[hu,of_decide_eq_true h]
 ·simp at h
theorem zc3.c (h:zc3 P t k=true):P.cellsOf t=1:=by
 simp only[zc3,zF,decide_eq_true_eq]at h;exact h.2
theorem zfx.u (h:zfx P t=true):P.underlying t=some .bool:=by
 simp only[zfx,zF]at h;have h:=h.1;split at h
 ·rename_i hu;exact hu
 ·simp at h
theorem zfx.c (h:zfx P t=true):P.cellsOf t=1:=by
 simp only[zfx,zF,decide_eq_true_eq]at h;exact h.2
theorem zii.u (h:zii P t=true):P.underlying t=some .string:=by
 simp only[zii,zF]at h;have h:=h.1;split at h
 ·rename_i hu;exact hu
 ·simp at h
theorem zii.c (h:zii P t=true):P.cellsOf t=1:=by
 simp only[zii,zF,decide_eq_true_eq]at h;exact h.2
theorem zfl.u (h:zfl P t e=true):P.underlying t=some (.slice e):=by
 simp only[zfl,zF]at h;have h:=h.1.1.1;split at h
 ·rename_i hu;rw[hu,of_decide_eq_true h]
 ·simp at h
theorem zfl.p (h:zfl P t e=true):0<P.bytesOf e/\0<P.cellsOf e/\P.cellsOf t=1:=by
 simp only[zfl,zF,decide_eq_true_eq]at h;exact⟨h.1.1.2,h.1.2,h.2⟩
theorem zfl.c (h:zfl P t e=true):P.cellsOf t=1:=(zfl.p h).2.2
theorem zhU.c {tot:Nat} {fs:List (TypeId×Nat)} (h:zhU P t tot fs=true):P.cellsOf t=tot:=by
 simp only[zhU,zF,decide_eq_true_eq]at h;exact h.2
end
section
variable {H:Type} {enc:TypeId×Value->H} {P:Program} {W:World} {nm:Nat->Nat} {y:Tys}
theorem zjX {α:Type} {t e:TypeId} {f:α->List T} {good:α->Prop} (h:zfl P t e=true) (n:Nat) (hr: ∀m,m<n->Rd enc P W nm m e f good):
 Rd enc P W nm n t (fun l:List α=>[.sl (l.map f)]) (fun l=>l.length<=reachBytes/\ ∀a∈l,good a):=zuj (zfl.u h) (zfl.p h).1 (zfl.p h).2.1 n hr
theorem zlk {α:Type} {t:TypeId} {fs:List (TypeId×Nat)} {tot:Nat} {f:α->List T} {good:α->Prop} (h:zhU P t tot fs=true) (n:Nat)
 (hr: ∀m,m<n->RdF enc P W nm m tot fs 0 f good):Rd enc P W nm n t f good:=by
 have hc:=zhU.c h;simp only[zhU,zF]at h;exact zrU h.1 hc n hr
theorem zkv (hy:y.Ok0 P) (n:Nat):Rd enc P W nm n y.int (fun i:Int=>[ti i]) (fun _=>True):=
 (zvJ (zc3.u hy.int) n).conv fun i _=>⟨i,trivial,rfl⟩
theorem zBr (hy:y.Ok0 P) (n:Nat):Rd enc P W nm n y.bool (fun b:Bool=>[tb b]) (fun _=>True):=zww (zfx.u hy.bool) n
theorem zzG (hy:y.Ok0 P) (n:Nat):Rd enc P W nm n y.str (fun s:ByteArray=>[.str s]) (fun s=>s.size<=reachBytes):=zyj (zii.u hy.str) n
theorem znR (hy:y.Ok0 P) (n:Nat):Rd enc P W nm n y.ints (fun l:List Int=>[ints l]) (fun l=>l.length<=reachBytes):=
 (zjX hy.ints n fun m _=>zkv hy m).conv fun l h=>⟨l,h.1,rfl⟩
theorem zyi (hy:y.Ok0 P) (n:Nat):Rd enc P W nm n y.u8 (fun i:Int=>[.int .u8 i]) (fun i=>0<=i/\i<256):=
 (zvJ (zc3.u hy.u8) n).conv fun i h=>⟨i,by simp[Lit.wf,IntKind.min,IntKind.max,IntKind.signed,IntKind.bits]at h;omega,rfl⟩
theorem zgx (hy:y.Ok0 P) (n:Nat):Rd enc P W nm n y.expr Expr.enc (fun _=>True):=by
 induction n using Nat.strongRecOn with
 | _ n ih=>
   refine(zlk hy.expr n fun m hm=>zax (zc3.c hy.int) (zkv hy m) (zax (zc3.c hy.int) (zkv hy m) (zax (zc3.c hy.int) (zkv hy m) (zax (zfl.c hy.exprs) (zjX hy.exprs m fun j hj=>ih j (by omega)) ze1)))).conv ?_;rintro⟨op,w,k,ks,u⟩ _;exact⟨.mk op w k ks,trivial,(Expr.enc_eq (.mk op w k ks)).symm⟩
theorem zuk (hy:y.Ok0 P) (n:Nat):Rd enc P W nm n y.exprs (fun l:List Expr=>[.sl (l.map Expr.enc)]) (fun l=>l.length<=reachBytes):=
 (zjX hy.exprs n fun m _=>zgx hy m).conv fun l h=>⟨l,h.1,rfl⟩
theorem zwv (hy:y.Ok0 P) (n:Nat):Rd enc P W nm n y.cell Cell.enc (fun c=>c.name.size<=reachBytes):=by
 refine(zlk hy.cell n fun m hm=>zax (zii.c hy.str) (zzG hy m) (zax (zc3.c hy.int) (zkv hy m) (zax (zc3.c hy.int) (zkv hy m) (zax (zc3.c hy.int) (zkv hy m) (zax (zfx.c hy.bool) (zBr hy m) (zax (zc3.c hy.int) (zkv hy m) ze1)))))).conv ?_;rintro⟨a,b,c,d,e,f,u⟩ h;exact⟨⟨a,b,c,d,e,f⟩,h.1,rfl⟩
theorem zrV (hy:y.Ok0 P) (n:Nat):Rd enc P W nm n y.assign Assign.enc (fun _=>True):=by
 refine(zlk hy.assign n fun m hm=>zax (zc3.c hy.int) (zkv hy m) (zax (zhU.c hy.expr) (zgx hy m) ze1)).conv ?_;rintro⟨a,b,u⟩ h;exact⟨⟨a,b⟩,trivial,by simp[Assign.enc]⟩
theorem zqg (hy:y.Ok0 P) (n:Nat):Rd enc P W nm n y.assigns (fun l:List Assign=>[.sl (l.map Assign.enc)]) (fun l=>l.length<=reachBytes):=
 (zjX hy.assigns n fun m _=>zrV hy m).conv fun l h=>⟨l,h.1,rfl⟩
theorem zwr (hy:y.Ok0 P) (n:Nat):Rd enc P W nm n y.step Step.enc (fun s=>s.set.length<=reachBytes):=by
 refine(zlk hy.step n fun m hm=>zax (zc3.c hy.int) (zkv hy m) (zax (zc3.c hy.int) (zkv hy m) (zax (zc3.c hy.int) (zkv hy m) (zax (zhU.c hy.expr) (zgx hy m) (zax (zfl.c hy.assigns) (zqg hy m) (zax (zfx.c hy.bool) (zBr hy m)
  (zax (zc3.c hy.int) (zkv hy m) (zax (zc3.c hy.int) (zkv hy m) ze1)))))))).conv ?_
 rintro⟨a,b,c,d,e,f,g,i,u⟩ h;exact⟨⟨a,b,c,d,e,f,g,i⟩,h.2.2.2.2.1,by simp[Step.enc]⟩
theorem zwt (hy:y.Ok0 P) (n:Nat):Rd enc P W nm n y.loop Loop.enc (fun x=>x.body.length<=reachBytes):=by
 refine(zlk hy.loop n fun m hm=>zax (zc3.c hy.int) (zkv hy m) (zax (zfl.c hy.ints) (znR hy m) (zax (zhU.c hy.expr) (zgx hy m) ze1))).conv ?_;rintro⟨a,b,c,u⟩ h;exact⟨⟨a,b,c⟩,h.2.1,by simp[Loop.enc]⟩
structure Thread.inMem (x:Thread):Prop where
 name:x.name.size<=reachBytes
 steps:x.steps.length<=reachBytes
 asserts:x.asserts.length<=reachBytes
 modules:x.modules.length<=reachBytes
 loops:x.loops.length<=reachBytes
 sets: ∀s∈x.steps,s.set.length<=reachBytes
 bodies: ∀l∈x.loops,l.body.length<=reachBytes
theorem zrT (hy:y.Ok0 P) (n:Nat):Rd enc P W nm n y.thread Thread.enc Thread.inMem:=by
 refine(zlk hy.thread n fun m hm=>zax (zii.c hy.str) (zzG hy m) (zax (zc3.c hy.int) (zkv hy m) (zax (zfl.c hy.exprs) (zuk hy m) (zax (zfl.c hy.ints) (znR hy m)
  (zax (zfl.c hy.steps) (zjX hy.steps m fun j _=>zwr hy j) (zax (zfl.c hy.loops) (zjX hy.loops m fun j _=>zwt hy j) (zax (zfx.c hy.bool) (zBr hy m) ze1))))))).conv ?_
 rintro⟨a,b,c,d,e,f,g,u⟩ h;exact⟨⟨a,b,c,d,e,f,g⟩,⟨h.1,h.2.2.2.2.1.1,h.2.2.1,h.2.2.2.1,h.2.2.2.2.2.1.1,h.2.2.2.2.1.2,h.2.2.2.2.2.1.2⟩,rfl⟩
theorem znS (hy:y.Ok0 P) (n:Nat):Rd enc P W nm n y.contract Contract.enc (fun x=>x.name.size<=reachBytes/\x.owner.size<=reachBytes/\x.frame.length<=reachBytes):=by
 refine(zlk hy.contract n fun m hm=>zax (zii.c hy.str) (zzG hy m) (zax (zii.c hy.str) (zzG hy m) (zax (zhU.c hy.expr) (zgx hy m) (zax (zhU.c hy.expr) (zgx hy m) (zax (zfl.c hy.ints) (znR hy m) ze1))))).conv ?_;rintro⟨a,b,c,d,e,u⟩ h;exact⟨⟨a,b,c,d,e⟩,⟨h.1,h.2.1,h.2.2.2.2.1⟩,by simp[Contract.enc]⟩
theorem zwu (hy:y.Ok0 P) (n:Nat):Rd enc P W nm n y.lock Lock.enc (fun _=>True):=by
 refine(zlk hy.lock n fun m hm=>zax (zc3.c hy.int) (zkv hy m) (zax (zhU.c hy.expr) (zgx hy m) (zax (zc3.c hy.int) (zkv hy m) ze1))).conv ?_;rintro⟨a,b,c,u⟩ h;exact⟨⟨a,b,c⟩,trivial,by simp[Lock.enc]⟩
structure Prog.inMem (p:Prog):Prop where
 cells: ∀c∈p.cells,c.name.size<=reachBytes
 modules: ∀m∈p.modules,m.name.size<=reachBytes/\m.owner.size<=reachBytes/\m.frame.length<=reachBytes
 threads: ∀x∈p.threads,x.inMem
 nCells:p.cells.length<=reachBytes
 nModules:p.modules.length<=reachBytes
 nLocks:p.locks.length<=reachBytes
 nThreads:p.threads.length<=reachBytes
theorem zws (hy:y.Ok0 P) (n:Nat):Rd enc P W nm n y.prog Prog.enc Prog.inMem:=by
 refine(zlk hy.prog n fun m hm=>zax (zfl.c hy.cells) (zjX hy.cells m fun j _=>zwv hy j) (zax (zfl.c hy.contracts) (zjX hy.contracts m fun j _=>znS hy j)
  (zax (zfl.c hy.locks) (zjX hy.locks m fun j _=>zwu hy j) (zax (zfl.c hy.threads) (zjX hy.threads m fun j _=>zrT hy j) ze1)))).conv ?_
 rintro⟨a,b,c,d,u⟩ h;exact⟨⟨a,b,c,d⟩,⟨h.1.2,h.2.1.2,h.2.2.2.1.2,h.1.1,h.2.1.1,h.2.2.1.1,h.2.2.2.1.1⟩,rfl⟩
end
end Rg
end
section
namespace Rg
open Go Go.ChangeShapes
section
variable {H:Type} {enc:TypeId×Value->H} {P:Program}
theorem zgM {W W':World} {sp:Nat->Bool} (hl:laidOutB P=true): ∀{ts:List TypeId} {vs:List Value} {ds:List (DataW H)} {ps:List MemPlace},
 (∀t∈ts,P.readableRec t=true/\t<P.types.size)->DataW.TrodAll enc P W 0 (fun _=>true) true ts vs ds ps->(∀p∈ps,W.sameAt W' p)->(∀p∈ps,sp p.block=true)->DataW.TrodAll enc P W' 0 sp true ts vs ds ps
 | [],[],[],ps,_,h,_,_=>h
 | t::ts,v::vs,d::ds,ps,hr,h,hs,hp=>by
   obtain⟨p,q,h1,h2,rfl⟩:=h
   exact⟨p,q,WideElems.Trod_stays hl (hr t List.mem_cons_self).1 (hr t List.mem_cons_self).2 h1 (fun x hx=>hs x (List.mem_append_left _ hx)) (fun x hx=>hp x (List.mem_append_left _ hx)),
    zgM hl (fun t ht=>hr t (List.mem_cons_of_mem _ ht)) h2 (fun x hx=>hs x (List.mem_append_right _ hx)) (fun x hx=>hp x (List.mem_append_right _ hx)),rfl⟩
 | [],[],_::_,_,_,h,_,_=>by cases h
 | [],_::_,_,_,_,h,_,_=>by cases h
 | _::_,[],_,_,_,h,_,_=>by cases h
 | _::_,_::_,[],_,_,h,_,_=>by cases h
theorem zmo {W W':World} (h: ∀q,q<W.heap.size->W'.heap[q]? =W.heap[q]?) {p:MemPlace} (hp:p.block<W.heap.size):W.sameAt W' p:=by
 cases p with
 | cell b off=>exact cell?_eq (h b hp)
 | map b=>exact h b hp
theorem zmW {W W':World} (ho:W'.os=W.os) (hu:W'.output=W.output) (h: ∀q,q<W.heap.size->W'.heap[q]? =W.heap[q]?) (may:MemPlace->Prop):W.keptBut W' may:=by
 refine⟨ho,hu,fun i hi=> ?_⟩;rw[h i hi];split
 ·rename_i h1 h2;rw[h1]at h2;cases h2;exact⟨rfl,rfl,rfl,fun _ _=>rfl⟩
 ·rename_i h1 h2;rw[h1]at h2;cases h2;exact .inr ⟨rfl,rfl⟩
 ·rfl
theorem zqV {N:Nam} {g f:Nat} {fn:Func} {s:ChangeSpec} {W:World} {args:Array Value} {ds gs:List (DataW H)} {before:List MemPlace} {av:List V} {tb:TypeId}
 (hp:zjO P N g av (vb true)) (hg:N.nm g=f) (hG:zpW N (fun r=>r<W.heap.size) W) (ha:zb1 W (fun r=>r<W.heap.size) N.nm (fun _=>0) (fun _=>none) args av)
 (hl:laidOutB P=true) (hr: ∀t∈fn.params.toList,P.readableRec t=true/\t<P.types.size) (DM:fn.resultTypes= #[tb]) (PR:P.underlying tb=some .bool)
 (hv:s.vars=[]) (hW:DataW.Whole enc P fn.params.toList s.vars false W args.toList ds gs before)
 (hs:gs=[]->s.fn H (ds++gs)= { results:=[.lit (.bool true)],args:=ds }):
 Calls P f args W fun e W'=> ∃v,e= .returned v/\s.post enc P fn false true false false W args v W':=by
 subst hg;refine(hp _ W args (fun r h=>h) hG ha).mono fun e W' ⟨v,he,⟨ho,hu⟩,AS,M0,DY⟩=>⟨v,he,?_⟩
 have Ke:v= .bool true:=by
  have h1:RepT W' _ N.nm v (.bool true):=zbl.t_inv DY;cases h1;rfl
 subst Ke;have Ad:=hW.lt;have Ot:=hW;obtain⟨p,q,hA,hV,rfl,RL,Bt⟩:=Ot;have NS:gs=[]/\q=[]:=by rw[hv]at hV;exact trodVars_none hV
 obtain⟨rfl,rfl⟩:=NS;refine⟨ds,[],p++[],[],p,[],hW,?_,?_,?_,zmW ho hu M0 _,fun h=>by cases h⟩
 ·rw[hs rfl,DM];exact trodAll_mk1 ⟨1,by simp[DataW.trod,PR,Value.cells]⟩
 ·rw[hs rfl];refine zgM hl hr hA (fun x hx=>zmo M0 (Ad x (by simpa using hx))) (fun x hx=> ?_);simpa using Ad x (by simpa using hx)
 ·rw[hs rfl,hv];rfl
end
section
variable {W:World} {nm:Nat->Nat} {A:Nat->Prop} {μ:Nat->Nat} {HO:Nat->Option O}
theorem zmx: ∀{vs:List Value} {xs:List V},vs.length=xs.length->(∀(i:Nat) (x:V) (v:Value),xs[i]? =some x->vs[i]? =some v->zbl W A nm μ HO v x)->zb1 W A nm μ HO vs.toArray xs
 | vs,xs,hl,h=>⟨by simpa using hl,fun i x hx=>by
    have:i<vs.length:=by rw[hl];exact(zH.1 hx).1
    exact⟨vs[i],by simp,h i x _ hx (by simp)⟩⟩
theorem zuh {cs:Array Value} {xs:List T} (h:ztv W nm cs.toList xs):zbl W (fun r=>r<W.heap.size) nm μ HO (.agg cs) (.agg (xs.map V.t)):=by
 refine⟨cs,rfl,by rw[List.length_map];exact h.1,fun i c hc=> ?_⟩;rw[zJ,zE]at hc;obtain⟨x,hx,rfl⟩:=hc;obtain⟨v,hv,hr⟩:=h.2 i x hx;exact⟨v,hv,.t hr⟩
theorem zug {v:Value} {x:T} (h:ztv W nm [v] [x]):zbl W (fun r=>r<W.heap.size) nm μ HO v (.t x):=by
 obtain⟨u,hu,hr⟩:=h.2 0 x rfl;simp at hu;subst hu;exact RepC.toV (.t hr)
end
end Rg
end
section
namespace Rg
open Go
def zzL:Lit->T
 | .int k n=> .int k n
 | .string s=> .str ⟨s.toArray⟩
 | .bool b=> .bool b
 | _=> .nilp
theorem zhS {P:Program} {W:World}: ∀{laid:List (String×DataW Unit)} {ps:List MemPlace},DataW.LaidVars P W laid ps-> ∀{nm:String} {d:DataW Unit},(nm,d)∈laid->
 ∃g t cs f q,P.globalNamed nm=some g/\(P.globals[g]?).map (·.type)=some t/\W.var? P nm=some cs/\DataW.trod (fun _=>()) P W 0 (fun _=>true) false f t cs.toList=some (d,q)
 | [],_,_,_,_,hm=>by cases hm
 | (a,b)::r,ps,h,nm,d,hm=>by
   obtain⟨g,t,cs,f,p0,q0,h1,h2,h3,h4,h5,h6⟩:=h;rcases List.mem_cons.1 hm with hm | hm
   ·cases hm;exact⟨g,t,cs,f,p0,h1,h2,h3,h4⟩
   ·exact zhS h5 hm
theorem zpt {P:Program} {W:World} {N:Nam} {laid:List (String×DataW Unit)} {nm:String} {g k:Nat} {t e:TypeId} {ls:List Lit}
 (BL:(laid.all fun x=>x.2.handleName?.isNone)=true) (h:laidMetH P laid W) (Ce:(nm,.agg (ls.map DataW.lit))∈laid)
 (hg:P.globalNamed nm=some g) (ht:(P.globals[g]?).map (·.type)=some t) (hu:P.underlying t=some (.array ls.length e)) (he:P.underlying e=some .string\/ ∃k,P.underlying e=some (.int k)) (hc:P.cellsOf e=1) (hn:P.cellsOf t=ls.length)
 (Ku:N.gm k=g) (hG:N.GL k=ls.map zzL) (j:Nat) (x:T) (hx:(N.GL k)[j]? =some x):
 N.gm k<W.heap.size/\(∃e,W.shape? (N.gm k)=some (e,(N.GL k).length))/\ ∃v,W.cell? ⟨N.gm k,j,none⟩=some v/\RepT W (fun r=>r<W.heap.size) N.nm v x:=by
 rw[MakeChecks.laidMetH_plain _ _ _ BL]at h;obtain⟨ps,hv,_⟩:=h;obtain⟨g0,t0,cs0,f0,q0,Po,Mo,Fz,QI⟩:=zhS hv Ce;obtain rfl:=Option.some.inj (hg.symm.trans Po);obtain rfl:=Option.some.inj (ht.symm.trans Mo);obtain⟨xs,m1,rfl,KA,Ac,Iq,M2⟩:=DataW.trod_array hu QI;simp only[Prod.mk.injEq,DataW.agg.injEq]at KA;rw[hG,zJ,zE]at hx;obtain⟨m,hm,rfl⟩:=hx;have hj:j<ls.length:=(zH.1 hm).1;obtain⟨y,hy⟩: ∃y,xs[j]? =some y:=⟨_,zI (by omega)⟩
 have IP:y.1= .lit m:=by
  have h2:=congrArg (·[j]?) KA.1;simp only[zJ,hm,hy,Option.map_some,zA]at h2;exact h2.symm
 have h3:=M2 j hj;rw[hy,hc,Nat.mul_one]at h3
 have DF: ∀v:Value,(cs0.toList.drop j).take 1=[v]->cs0[j]? =some v:=by
  intro v hq;have h4:=congrArg (·[0]?) hq;simp only[zO,List.getElem?_drop,Nat.add_zero]at h4;simpa using h4
 have BP: ∃v,cs0[j]? =some v/\RepT W (fun r=>r<W.heap.size) N.nm v (zzL m):=by
  rcases he with he | ⟨kk,he⟩
  ·obtain⟨s,hs,FN,_⟩:=DataW.trod_string he h3;have:m= .string s.data.toList:=by rw[FN]at IP;simpa using IP.symm
   subst this;refine⟨.string s,DF _ hs,?_⟩;have:zzL (.string s.data.toList)= .str s:=by simp[zzL]
   rw[this];exact .str s
  ·obtain⟨q,hq,P5,_⟩:=DataW.trod_int he h3;have:m= .int kk q:=by rw[P5]at IP;simpa using IP.symm
   subst this;exact⟨.int kk q,DF _ hq,.int kk q⟩
 obtain⟨v,PJ,Ae⟩:=BP;have AW:W.cell? ⟨g,j,none⟩=some v:=by rw[World.var?_cell Po Fz j];exact PJ
 rw[Ku];refine⟨(cell?_spot AW).2,?_,v,AW,Ae⟩;unfold World.var? at Fz;rw[hg]at Fz;simp only[zD]at Fz;unfold World.shape?;split at Fz
 ·rename_i cs e0 z hb;simp only[zA]at Fz;subst Fz;rw[hb];refine⟨e0,?_⟩;simp only[zA,Prod.mk.injEq,true_and];have h5:=Ac;rw[Array.length_toList]at h5;rw[h5,hG,List.length_map,hn]
 ·cases Fz
theorem zkG {α:Type} {k:Nat} {v:α}: ∀{l:List (Nat×α)},l.lookup k=some v->(k,v)∈l
 | [],h=>by simp at h
 | (a,b)::r,h=>by
   rw[List.lookup_cons]at h;split at h
   ·rename_i hk;simp only[beq_iff_eq]at hk;cases h;subst hk;exact List.mem_cons_self
   ·exact List.mem_cons_of_mem _ (zkG h)
end Rg
end
section
namespace Rg
open Go
theorem zFg {a b:Bool} (h:a=true) (g:b=true):(a&&b)=true:=by rw[h,g];rfl
section
variable {H:Type} {enc:TypeId×Value->H} {P:Program} {W:World} {nm μ:Nat->Nat} {HO:Nat->Option O} {y:Tys}
theorem trodAll_nil {sp:Nat->Bool} {vs:List Value} {ds:List (DataW H)} {ps:List MemPlace} (h:DataW.TrodAll enc P W 0 sp true [] vs ds ps):vs=[]/\ds=[]:=by
 cases vs<;>cases ds<;>first | exact⟨rfl,rfl⟩ | cases h
theorem trodAll_cons {sp:Nat->Bool} {t:TypeId} {ts:List TypeId} {vs:List Value} {ds:List (DataW H)} {ps:List MemPlace} (h:DataW.TrodAll enc P W 0 sp true (t::ts) vs ds ps):
 ∃v vs' d ds' p q,vs=v::vs'/\ds=d::ds'/\DataW.Trod enc P W 0 sp true t v d p/\DataW.TrodAll enc P W 0 sp true ts vs' ds' q:=by
 cases vs with
 | nil=>cases h
 | cons v vs=>
   cases ds with
   | nil=>cases h
   | cons d ds=>
     obtain⟨p,q,h1,h2,_⟩:=h;exact⟨v,vs,d,ds,p,q,rfl,rfl,h1,h2⟩
theorem zdu {t:TypeId} {ts:List TypeId} {d:DataW H} {ds:List (DataW H)} (h:(DataW.weightsEach P (t::ts) (d::ds)).all (· <=reachBytes)=true):
 (d.weights P t).all (· <=reachBytes)=true/\(DataW.weightsEach P ts ds).all (· <=reachBytes)=true:=by
 rw[DataW.weightsEach,List.all_append,zF]at h;exact h
theorem zy5 {α:Type} {t:TypeId} {tot:Nat} {fs:List (TypeId×Nat)} {f:α->List T} {good:α->Prop} {v:Value} {d:DataW H} {p:List MemPlace} {base:Nat} (hs:zhU P t tot fs=true) (hr: ∀n,Rd enc P W nm n t f good)
 (hv:Value.okWide P W .any base t v) (ht:DataW.Trod enc P W 0 (fun _=>true) true t v d p) (hw:(d.weights P t).all (· <=reachBytes)=true):
 ∃a,good a/\zbl W (fun r=>r<W.heap.size) nm μ HO v (.agg ((f a).map V.t)):=by
 obtain⟨n,hn⟩:=ht;obtain⟨a,ha,Cu⟩:=hr n _ _ hn hw;refine⟨a,ha,?_⟩;simp only[zhU,zF]at hs;have h1:=hs.1;split at h1
 ·rename_i u hu;unfold Value.okWide at hv;rw[hu]at hv;obtain⟨cs,rfl,_⟩:=hv;exact zuh (by simpa[Value.cells]using Cu)
 ·simp at h1
theorem zlX {α:Type} {t:TypeId} {k:IntKind} {f:α->T} {good:α->Prop} {v:Value} {d:DataW H} {p:List MemPlace} {base:Nat} (hs:zc3 P t k=true) (hr: ∀n,Rd enc P W nm n t (fun a=>[f a]) good)
 (hv:Value.okWide P W .any base t v) (ht:DataW.Trod enc P W 0 (fun _=>true) true t v d p) (hw:(d.weights P t).all (· <=reachBytes)=true):
 ∃a,good a/\zbl W (fun r=>r<W.heap.size) nm μ HO v (.t (f a)):=by
 obtain⟨n,hn⟩:=ht;obtain⟨a,ha,Cu⟩:=hr n _ _ hn hw;refine⟨a,ha,?_⟩;have hu:=zc3.u hs;unfold Value.okWide Cell.okWide Cell.ok at hv;rw[hu]at hv;cases v<;>first | exact zug (by simpa[Value.cells]using Cu) | exact absurd hv (by simp)
theorem Prog.inMem.lite {p:Prog} (h:p.inMem):(∀x∈p.threads,x.steps.length<2^50)/\(∀c∈p.cells,c.name.size<2^50)/\(∀m∈p.modules,m.name.size<2^50/\m.owner.size<2^50)/\(∀t∈p.threads,t.name.size<2^50):=by
 have hb:reachBytes<2^50:=by decide
 exact⟨fun x hx=>Nat.lt_of_le_of_lt (h.threads x hx).steps hb,fun c hc=>Nat.lt_of_le_of_lt (h.cells c hc) hb,
  fun m hm=>⟨Nat.lt_of_le_of_lt (h.modules m hm).1 hb,Nat.lt_of_le_of_lt (h.modules m hm).2.1 hb⟩,fun x hx=>Nat.lt_of_le_of_lt (h.threads x hx).name hb⟩
end
end Rg
end
section
namespace Rg
open Go
section
variable {Γ:Nat->Option F} {G:Nat->List T}
theorem Big.det {t:Task} {o:Out} (h:Big Γ G t o): ∀{o':Out},Big Γ G t o'->o=o':=by
 induction h with
 | skip=>intro o' h';cases h';rfl
 | ret=>intro o' h';cases h';rfl
 | exit=>intro o' h';cases h';rfl
 | region _ ih=>intro o' h';cases h' with | region h=>have:=ih h;cases this;rfl
 | regionD _ _ ih=>intro o' h';cases h' with | regionD h _=>have:=ih h;cases this;rfl
 | seqN _ _ ih1 ih2=>
   intro o' h'
   cases h' with
   | seqN h1 h2=>have:=ih1 h1;cases this;exact ih2 h2
   | seqX h1 he=>have:=ih1 h1;cases this;exact absurd rfl he
 | seqX _ he ih=>
   intro o' h'
   cases h' with
   | seqN h1 h2=>have:=ih h1;cases this;exact absurd rfl he
   | seqX h1 he=>exact ih h1
 | cond hc _ ih=>
   intro o' h'
   cases h' with
   | cond Bz h=>rw[hc]at Bz;cases Bz;exact ih h
 | block _ ih=>
   intro o' h'
   cases h' with
   | block h=>have:=ih h;cases this;rfl
 | loop _ ih=>
   intro o' h'
   cases h' with
   | loop h=>exact ih h
 | loopN _ _ ih1 ih2=>
   intro o' h'
   cases h' with
   | loopN h1 h2=>have:=ih1 h1;cases this;exact ih2 h2
   | loopX h1 he=>have:=ih1 h1;cases this;exact absurd rfl he
 | loopX _ he ih=>
   intro o' h'
   cases h' with
   | loopN h1 h2=>have:=ih h1;cases this;exact absurd rfl he
   | loopX h1 he=>exact ih h1
 | opsNil=>intro o' h';cases h';rfl
 | opsSkip hw hf _ ih=>
   intro o' h'
   cases h' with
   | opsSkip Aw JO h=>exact ih h
   | opsEff Aw _ _ _=>rw[hw]at Aw;cases Aw
   | opsPure Aw _ _ _ _ _ _ _ _ _ _ _=>rw[hw]at Aw;cases Aw
   | opsRaw Aw _ _ _ _ _ _ _ _ _=>rw[hw]at Aw;cases Aw
   | opsFresh Aw _ _ _ _ _ _ _ _ _ _ _ _=>rw[hw]at Aw;cases Aw
   | opsYield Aw _ _ _ _ _ _ _ _ _ _ _=>rw[hw]at Aw;cases Aw
 | rangeF As Ax hg hr hc hl he ihc=>
   intro o' h'
   cases h' with
   | rangeF AY BT B9 Dz Bz CE BZ=>
     rw[As]at AY;cases AY;rw[Ax]at BT;cases BT;have:=ihc Bz;cases this;rw[hl]at CE;cases CE;rw[he]at BZ;cases BZ
     rfl
 | opsYield hw hf ho As hk Au Ac Bi A3 RK AF _ iha ihb ih=>
   intro o' h'
   cases h' with
   | opsSkip Aw JO h=>rw[hw]at Aw;cases Aw
   | opsEff Aw _ BZ h=>rw[ho]at BZ;simp[zaj]at BZ
   | opsPure Aw _ AR AY BT B9 Dz Cb DZ Bz JS h=>rw[ho]at AR;cases AR
   | opsFresh Aw _ AR _ _ _ _ _ _ _ _ _ _=>rw[ho]at AR;cases AR
   | opsRaw Aw _ AR AY BT B9 Dz Cb Bz h=>
     rw[ho]at AR;cases AR;rw[As]at AY;cases AY
     simp[zfC]at BT
   | opsYield Aw _ AR AY Ah Cb BS Og EM Of HX h=>
     rw[ho]at AR;cases AR;rw[As]at AY;cases AY;rw[hk]at Ah;cases Ah;rw[Au]at Cb;cases Cb;have:=iha Og;cases this;rw[A3]at EM;cases EM;have:=ihb Of;cases this;rw[AF]at HX;cases HX
     exact ih h
 | opsEff hw hf he _ ih=>
   intro o' h'
   cases h' with
   | opsSkip Aw JO h=>rw[hw]at Aw;cases Aw
   | opsEff Aw _ BZ h=>rw[he]at BZ;cases BZ;exact ih h
   | opsPure Aw _ ho _ _ _ _ _ _ _ _ _=>rw[ho]at he;simp[zaj]at he
   | opsRaw Aw _ ho _ _ _ _ _ _ _=>rw[ho]at he;simp[zaj]at he
   | opsFresh Aw _ ho _ _ _ _ _ _ _ _ _ _=>rw[ho]at he;simp[zaj]at he
   | opsYield Aw _ ho _ _ _ _ _ _ _ _ _=>rw[ho]at he;simp[zaj]at he
 | opsPure hw hf ho As Ax hg hr Au AD hc hd _ ihc ih=>
   intro o' h'
   cases h' with
   | opsSkip Aw JO h=>rw[hw]at Aw;cases Aw
   | opsEff Aw _ BZ h=>rw[ho]at BZ;simp[zaj]at BZ
   | opsPure Aw _ AR AY BT B9 Dz Cb DZ Bz JS h=>
     rw[ho]at AR;cases AR;rw[As]at AY;cases AY;rw[Ax]at BT;cases BT;rw[Au]at Cb;cases Cb;rw[AD]at DZ;cases DZ;have:=ihc Bz;cases this
     exact ih h
   | opsRaw Aw _ AR _ _ _ _ _ _ _=>rw[ho]at AR;cases AR
   | opsFresh Aw _ AR _ _ _ _ _ _ _ _ _ _=>rw[ho]at AR;cases AR
   | opsYield Aw _ AR _ _ _ _ _ _ _ _ _=>rw[ho]at AR;cases AR
 | opsRaw hw hf ho As Ax hg hr Au hc _ ihc ih=>
   intro o' h'
   cases h' with
   | opsSkip Aw JO h=>rw[hw]at Aw;cases Aw
   | opsEff Aw _ BZ h=>rw[ho]at BZ;simp[zaj]at BZ
   | opsPure Aw _ AR AY BT B9 Dz Cb DZ Bz JS h=>rw[ho]at AR;cases AR
   | opsFresh Aw _ AR _ _ _ _ _ _ _ _ _ _=>rw[ho]at AR;cases AR
   | opsYield Aw _ AR AY _ _ _ _ _ _ _ _=>
     rw[ho]at AR;cases AR;rw[As]at AY;cases AY
     simp[zfC]at Ax
   | opsRaw Aw _ AR AY BT B9 Dz Cb Bz h=>
     rw[ho]at AR;cases AR;rw[As]at AY;cases AY;rw[Ax]at BT;cases BT;rw[Au]at Cb;cases Cb;have:=ihc Bz;cases this
     exact ih h
 | opsFresh hw hf ho As Ax hg hr Au AD hd hc he _ ihc ih=>
   intro o' h'
   cases h' with
   | opsSkip Aw JO h=>rw[hw]at Aw;cases Aw
   | opsEff Aw _ BZ h=>rw[ho]at BZ;simp[zaj]at BZ
   | opsPure Aw _ AR AY BT B9 Dz Cb DZ Bz JS h=>rw[ho]at AR;cases AR
   | opsRaw Aw _ AR AY BT B9 Dz Cb Bz h=>rw[ho]at AR;cases AR
   | opsYield Aw _ AR _ _ _ _ _ _ _ _ _=>rw[ho]at AR;cases AR
   | opsFresh Aw _ AR AY BT B9 Dz Cb DZ JS Bz BZ h=>
     rw[ho]at AR;cases AR;rw[As]at AY;cases AY;rw[Ax]at BT;cases BT;rw[Au]at Cb;cases Cb;rw[AD]at DZ;cases DZ;have:=ihc Bz;cases this;rw[he]at BZ;cases BZ
     exact ih h
 | pcall hg hr IC he hv Bh ih=>
   intro o' h'
   cases h' with
   | pcall B9 Dz h BZ BQ Jf=>
     rw[hg]at B9;cases B9;have:=ih h;cases this;rw[hv]at BQ;cases BQ;rw[Bh]at Jf;cases Jf
     rfl
   | pext B9 Dz hx h2=>
     rw[hg]at B9;cases B9;rw[hx]at IC
     cases IC
 | rcall hg hr hb he hv ih=>
   intro o' h'
   cases h' with
   | rcall B9 Dz h BZ BQ=>
     rw[hg]at B9;cases B9;have:=ih h;cases this;rw[hv]at BQ;cases BQ
     rfl
   | rext B9 Dz hx h=>
     rw[hg]at B9;cases B9
     rw[hx]at hb;cases hb
   | rpure B9 Dz _ _=>rw[hg]at B9;cases B9;rw[hr]at Dz;cases Dz
 | rpure hg hr AD hc ih=>
   intro o' h'
   cases h' with
   | rcall B9 Dz _ _ _=>rw[hg]at B9;cases B9;rw[hr]at Dz;cases Dz
   | rext B9 Dz _ _=>rw[hg]at B9;cases B9;rw[hr]at Dz;cases Dz
   | rpure B9 Dz DZ Bz=>
     rw[AD]at DZ;cases DZ;have:=ih Bz;cases this
     rfl
 | pext hg hr hx h=>
   intro o' h'
   cases h' with
   | pcall B9 Dz hb BZ BQ Jf=>
     rw[hg]at B9;cases B9
     rw[hx]at hb;cases hb
   | pext B9 Dz Dc h2=>
     rw[hg]at B9;cases B9;rw[hx]at Dc;cases Dc;rw[h]at h2;cases h2
     rfl
 | rext hg hr hx h=>
   intro o' h'
   cases h' with
   | rcall B9 Dz hb BZ BQ=>
     rw[hg]at B9;cases B9
     rw[hx]at hb;cases hb
   | rext B9 Dz Dc h2=>
     rw[hg]at B9;cases B9;rw[hx]at Dc;cases Dc;rw[h]at h2;cases h2
     rfl
   | rpure B9 Dz _ _=>rw[hg]at B9;cases B9;rw[hr]at Dz;cases Dz
variable (Γ G)
open Classical in
noncomputable def Den (g:Nat) (args:List V):Option V:=if h: ∃r,PC Γ G g args r then some h.choose else none
open Classical in
noncomputable def DenR (g:Nat) (args:List V) (h:Nat->Option O) (n:Nat):Option (V×(Nat->Option O)×Nat):=
 if h: ∃r:V×(Nat->Option O)×Nat,RC Γ G g args h n r.1 r.2.1 r.2.2 then some h.choose else none
open Classical in
noncomputable def DenY (k:Nat) (args:List V) (h:Nat->Option O) (n:Nat):Option (V×(Nat->Option O)×Nat):=
 if h: ∃r:V×(Nat->Option O)×Nat,YC Γ G k args h n r.1 r.2.1 r.2.2 then some h.choose else none
variable {Γ G}
theorem zy7 {k:Nat} {args:List V} {h:Nat->Option O} {n:Nat} {r r':V} {h1 h2:Nat->Option O} {n1 n2:Nat} (a:YC Γ G k args h n r h1 n1) (b:YC Γ G k args h n r' h2 n2):r=r'/\h1=h2/\n1=n2:=by
 obtain⟨env,ps,ca,cb,s1,enva,psa,bda,env',ps',bd',e,s2,g1,g2,g3,g3',g3'',g4,rfl,rfl,rfl⟩:=a;obtain⟨env0,ps0,ca0,cb0,s10,envb,psb,bdb,env1,ps1,bd1,e0,s0,q1,q2,q3,q3',q3'',q4,rfl,rfl,rfl⟩:=b;rw[g1]at q1;cases q1;have:=g3.det q3;cases this;rw[g3']at q3';cases q3';have:=g3''.det q3'';cases this;rw[g4]at q4;cases q4;exact⟨rfl,rfl,rfl⟩
theorem zlM {k:Nat} {args:List V} {h:Nat->Option O} {n:Nat} {r:V} {h':Nat->Option O} {n':Nat}:DenY Γ G k args h n=some (r,h',n')<->YC Γ G k args h n r h' n':=by
 unfold DenY;split
 ·rename_i h;have hc:=h.choose_spec;constructor
  ·intro e;simp only[zA]at e;rw[e]at hc;exact hc
  ·intro e;obtain⟨h1,h2,h3⟩:=zy7 hc e;simp only[zA];exact Prod.ext h1 (Prod.ext h2 h3)
 ·rename_i h;constructor
  ·intro e;cases e
  ·intro e;exact absurd ⟨(r,h',n'),e⟩ h
theorem zhC {g:Nat} {args:List V} {r:V}:Den Γ G g args=some r<->PC Γ G g args r:=by
 unfold Den;split
 ·rename_i h;have hc:=h.choose_spec;constructor
  ·intro e;cases e;exact hc
  ·intro e;have:=Big.det hc e;cases this;congr 1
 ·rename_i h;constructor
  ·intro e;cases e
  ·intro e;exact absurd ⟨r,e⟩ h
theorem zcI {g:Nat} {args:List V} {h:Nat->Option O} {n:Nat} {r:V} {h':Nat->Option O} {n':Nat}:DenR Γ G g args h n=some (r,h',n')<->RC Γ G g args h n r h' n':=by
 unfold DenR;split
 ·rename_i h;have hc:=h.choose_spec;constructor
  ·intro e;simp only[zA]at e;rw[e]at hc;exact hc
  ·intro e;have:=Big.det hc e;simp only[Out.vals.injEq]at this;obtain⟨h1,h2,h3⟩:=this;simp only[zA];exact Prod.ext h1 (Prod.ext h2 h3)
 ·rename_i h;constructor
  ·intro e;cases e
  ·intro e;exact absurd ⟨(r,h',n'),e⟩ h
theorem zf6 {g:Nat} {fn:F} {e:Ext} {args:List V} {hp h':Nat->Option O} {n n':Nat} {r:V} (hg:Γ g=some fn) (hr:fn.raw=true) (hb:fn.body= .ext e)
 (h:zd3 e args hp n=some (r,h',n')):DenR Γ G g args hp n=some (r,h',n'):=zcI.2 (.rext hg hr hb h)
theorem zB0 {g:Nat} {args:List V} {r:V} (h:PC Γ G g args r): ∃fn,Γ g=some fn/\fn.raw=false:=by
 cases h with
 | pcall hg hr _ _ _ _=>exact⟨_,hg,hr⟩
 | pext hg hr _ _=>exact⟨_,hg,hr⟩
theorem zxp {g:Nat} {args:List V} {h:Nat->Option O} {n:Nat} {r:V} {h':Nat->Option O} {n':Nat} (h:RC Γ G g args h n r h' n'): ∃fn,Γ g=some fn/\True:=by
 cases h with
 | rcall hg hr _ _ _=>exact⟨_,hg,trivial⟩
 | rext hg hr _ _=>exact⟨_,hg,trivial⟩
 | rpure hg hr _ _=>exact⟨_,hg,trivial⟩
theorem zKi {g:Nat} {args rs:List V} {hp:Nat->Option O} {n:Nat} {r:V} (hd:Den Γ G g rs=some r) (AD:args.mapM (toT1 hp)=some rs):
 DenR Γ G g args hp n=some (r,zbf hp (if r.scalar then []else freezes hp (args.flatMap (zba hp))),n):=by
 have h:=zhC.1 hd;obtain⟨fn,hg,hr⟩:=zB0 h;exact zcI.2 (.rpure hg hr AD h)
@[go_sem]theorem zwB (d:Bool) (m:M) (dst:Option Nat) (g:Nat) (l:List V) (K:M->Prop):
 zvr Γ G d m dst g l K=(m.free dst {}=true/\match l.mapM (toT1 m.heap)with
  | none=>False
  | some rs=>match Den Γ G g rs with
    | none=>False
    | some r=>zzH d m dst l r K):=by
 apply propext;unfold zvr;constructor
 ·rintro⟨hf,rs,AD,r,hc,hg,hk⟩;refine⟨hf,?_⟩;rw[AD];simp only;rw[zhC.2 hc];exact hk
 ·rintro⟨hf,h⟩;refine⟨hf,?_⟩;split at h
  ·exact h.elim
  ·rename_i rs AD;split at h
   ·exact h.elim
   ·rename_i r hr;exact⟨rs,AD,r,zhC.1 hr,zB0 (zhC.1 hr),h⟩
@[go_sem]theorem zwA (m:M) (dst:Option Nat) (g:Nat) (l:List V) (K:M->Prop):
 zvq Γ G m dst g l K=(m.free dst {}=true/\match DenR Γ G g l m.heap m.nxt with
  | none=>False
  | some (r,h',n')=>K ({ m with heap:=h',nxt:=n' }.apply dst { val:=r })):=by
 apply propext;unfold zvq;constructor
 ·rintro⟨hf,r,h',n',hc,hg,hk⟩;refine⟨hf,?_⟩;rw[zcI.2 hc];exact hk
 ·rintro⟨hf,h⟩;refine⟨hf,?_⟩;split at h
  ·exact h.elim
  ·rename_i r h' n' hr;exact⟨r,h',n',zcI.1 hr,zxp (zcI.1 hr),h⟩
theorem zwz (m:M) (dst:Option Nat) (k:Nat) (l:List V) (K:M->Prop):
 zvp Γ G m dst k l K=(m.free dst {}=true/\match DenY Γ G k l m.heap m.nxt with
  | none=>False
  | some (r,h',n')=>K ({ m with heap:=h',nxt:=n' }.apply dst { val:=r })):=by
 apply propext;unfold zvp;constructor
 ·rintro⟨hf,r,h',n',hc,hk⟩;refine⟨hf,?_⟩;rw[zlM.2 hc];exact hk
 ·rintro⟨hf,h⟩;refine⟨hf,?_⟩;split at h
  ·exact h.elim
  ·rename_i r h' n' hr;exact⟨r,h',n',zlM.1 hr,h⟩
def V.tree:V->Bool
 | .t _=>true
 | .agg cs=>cs.all fun c=>match c with | .t _=>true | _=>false
 | _=>false
theorem zkt {h:Nat->Option O} {v:V} (hv:v.tree=true):zba h v=[]:=by
 cases v with
 | agg cs=>
   simp only[V.tree,zN]at hv;simp only[zba,List.flatMap_eq_nil_iff];intro c hc;have:=hv c hc;cases c<;>simp at this
   rfl
 | t x=>rfl
 | _=>simp[V.tree]at hv
attribute [go_sem] V.tree List.all_cons List.all_nil Bool.and_self
theorem zyV {g:Nat} {args:List V} {fn:F} {r:V} (hg:Γ g=some fn) (hr:fn.raw=false)
 (h:wpC Γ G fn.body ⟨slots args 0,fun _=>false,fun _=>none,0,0⟩ (Fin fn.results r)):Den Γ G g args=some r:=zhC.2 (zzc hg hr h)
def zxA (rs:List Res) (P:V->(Nat->Option O)->Nat->Prop) (e:Ex) (m:M):Prop:=(∀id,e≠ .exit id)/\ ∃v,zeM m.st rs=some v/\P v m.heap m.nxt
theorem zw9 {g:Nat} {args:List V} {fn:F} {hp:Nat->Option O} {n:Nat} {P:V->(Nat->Option O)->Nat->Prop} (hg:Γ g=some fn) (hr:fn.raw=true)
 (h:wpC Γ G fn.body ⟨slots args 0,fun _=>false,hp,n,n⟩ (zxA fn.results P)): ∃r h' n',DenR Γ G g args hp n=some (r,h',n')/\P r h' n':=by
 obtain⟨e,m',hB,he,v,hv,hP⟩:=zq7 h;refine⟨v,m'.heap,m'.nxt,zcI.2 ?_,hP⟩;have:M.st ⟨slots args 0,fun _=>false,hp,n,n⟩=St.init args hp n:=by rw[zwd,zsv]
 rw[this]at hB;exact .rcall hg hr hB he hv
@[go_sem]theorem zwx (rs:List Res) (P:V->(Nat->Option O)->Nat->Prop) (sl:Nat->Slot) (u:Nat->Bool) (h:Nat->Option O) (n b:Nat):
 zxA rs P .ret ⟨sl,u,h,n,b⟩= ∃v,zeM (M.st ⟨sl,u,h,n,b⟩) rs=some v/\P v h n:=by simp[zxA]
@[go_sem]theorem zwy (rs:List Res) (P:V->(Nat->Option O)->Nat->Prop) (sl:Nat->Slot) (u:Nat->Bool) (h:Nat->Option O) (n b:Nat):
 zxA rs P .normal ⟨sl,u,h,n,b⟩= ∃v,zeM (M.st ⟨sl,u,h,n,b⟩) rs=some v/\P v h n:=by simp[zxA]
theorem zBA {b:C} {sl:Nat->Slot} {us:Nat->Bool} {nx ba:Nat} {Q:Ex->M->Prop} (W:List Nat) (n:Nat) (Inv:Nat->(Nat->Slot)->Prop) (hW:b.wrIn W=true) (hH:b.noH=true)
 (h0:Inv 0 sl)
 (h: ∀i f u k bs,i<=n->Inv i f->wpC Γ G b ⟨ovr W f sl,u,fun _=>none,k,bs⟩ (zf8 (fun m'=>SpN (i<n/\Inv (i+1) m'.sl) ⟨0⟩) Q)):WL Γ G b ⟨sl,us,fun _=>none,nx,ba⟩ Q:=by
 refine zxo W hW hH (fun k f=> ∃i,k=n-i/\i<=n/\Inv i f) n ⟨0,by omega,by omega,h0⟩ ?_;rintro k f u kk bs ⟨i,rfl,hi,hI⟩;refine zts (zq7 (h i f u kk bs hi hI)) ?_;apply zhm;rintro m ⟨h1,h2⟩;exact⟨n-(i+1),by omega,i+1,rfl,by omega,h2⟩
theorem zyB {b:C} {sl:Nat->Slot} {us:Nat->Bool} {hp:Nat->Option O} {nx ba:Nat} {Q:Ex->M->Prop} (W:List Nat) (n:Nat) (Inv:Nat->(Nat->Slot)->(Nat->Option O)->Nat->Prop) (hW:b.wrIn W=true)
 (h0:Inv 0 sl hp nx)
 (h: ∀i f u h k bs,i<=n->Inv i f h k->wpC Γ G b ⟨ovr W f sl,u,h,k,bs⟩ (zf8 (fun m'=>SpN (i<n/\Inv (i+1) m'.sl m'.heap m'.nxt) ⟨0⟩) Q)):WL Γ G b ⟨sl,us,hp,nx,ba⟩ Q:=by
 refine zv8 W hW (fun k f h x=> ∃i,k=n-i/\i<=n/\Inv i f h x) n ⟨0,by omega,by omega,h0⟩ ?_;rintro k f u h' kk bs ⟨i,rfl,hi,hI⟩;refine zts (zq7 (h i f u h' kk bs hi hI)) ?_;apply zhm;rintro m ⟨h1,h2⟩;exact⟨n-(i+1),by omega,i+1,rfl,by omega,h2⟩
end
end Rg
end
section
namespace Rg
open Go
abbrev zP (p:Prog):V:=.agg [.t (.sl (p.cells.map Cell.enc)),.t (.sl (p.modules.map Contract.enc)),.t (.sl (p.locks.map Lock.enc)),.t (.sl (p.threads.map Thread.enc))]
abbrev zT (x:Thread):V:=.agg [.t (.str x.name),.t (ti x.points),.t (.sl (x.asserts.map Expr.enc)),.t (ints x.modules),.t (.sl (x.steps.map Step.enc)),.t (.sl (x.loops.map Loop.enc)),.t (tb x.asleep)]
abbrev zS (s:Step):V:=.agg [.t (ti s.kind),.t (ti s.fr),.t (ti s.to),.t (ti s.guard.op),.t (ti s.guard.w),.t (ti s.guard.n),.t (.sl (s.guard.kids.map Expr.enc)),.t (.sl (s.set.map Assign.enc)),.t (tb s.release),.t (ti s.target),.t (ti s.module)]
end Rg
end

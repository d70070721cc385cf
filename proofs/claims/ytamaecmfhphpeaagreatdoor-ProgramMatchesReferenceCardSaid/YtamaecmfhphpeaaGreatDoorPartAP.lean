/- Part of the proof of the laws of the package relyguardlaw07: an abstract machine for the program's functions, what they compute, and that the machine is the program's. No condition. (Fn2 FnTab RgExt RgBl) -/
import Derived.Test.YtamaecmfhphpeaaGreatDoorPartAN
import Derived.Test.YtamaecmfhphpeaaGreatDoorPartAO
import Derived.Shelf.Sort.Plain
import Derived.Shelf.Slices.In.SortNone
import Derived.Shelf.Slices.CompactI
import Derived.Shelf.Slices.Clone
import Derived.Test.YtamaecmfhphpeaaGreatDoorPartAM
import Derived.Shelf.Strings.Builder1
set_option linter.unusedVariables false
section
namespace Rg
open Go
def f252:F:=⟨60,false,[.s 2],(.seq (rF [o 2 (.mv (.c zn))]) (.seq (rF [o 3 (.mv (.c zn))]) (.seq (.seq (rF [oI 4 0]) (.block 0 (.loop
 (.seq (.seq (rF [oM 6 4,oM 7 0,oN 8 7,oC 9 .lss 6 8]) (.cond (.s 9) .skip (.exit 0))) (.seq (.block 1 (.seq (rF [oI 5 0]) (.seq (.block 2
 (.loop (.seq (.seq (rT [oM 12 5,oM 13 3,oN 14 13,oC 15 .lss 12 14,oM 16 15,gM 16 true 17 3,gM 16 true 18 5,gI 16 true 19 1 17 18,gR 16
 true 20 19,gM 16 true 21 0,gM 16 true 22 4,gI 16 true 23 1 21 22,gR 16 true 24 23,gC 16 true 25 .lss 20 24,oW 26 16 25]) (.cond (.s 26)
 .skip (.exit 2))) (.block 3 (rF [oM 27 5,oD 28 .add 27 1,oM 5 28]))))) (.seq (rT [oM 29 5,oM 30 3,oN 31 30,oC 32 .eql 29 31,oM 33 32,gM
 33 false 34 3,gM 33 false 35 5,gI 33 false 36 1 34 35,gR 33 false 37 36,gM 33 false 38 0,gM 33 false 39 4,gI 33 false 40 1 38 39,gR 33
 false 41 40,gC 33 false 42 .neq 37 41,oV 43 33 42]) (.cond (.s 43) (rT [o 44 (.bslice 1 0 [zi] []),oM 45 3,oM 46 5,o 47 (.slice 1 (.s 45)
 none (some (.s 46)) none),o 48 (.append 1 8 (.s 44) (.s 47)),oM 49 0,oM 50 4,oA 51 1 49 50,oR 52 51,o 53 (.bslice 1 1 [zi] [(0,(.s 52))]),
 o 54 (.append 1 8 (.s 48) (.s 53)),oM 55 3,oM 56 5,o 57 (.slice 1 (.s 55) (some (.s 56)) none none),o 58 (.append 1 8 (.s 54) (.s 57)),oM
 3 58]) .skip))))) (rF [oM 10 4,oD 11 .add 10 1,oM 4 11])))))) (.seq (rF [oM 59 3,oM 2 59]) .ret))))⟩
def f253:F:=⟨26,false,[.s 4],(.seq (rF [oQ 2 4 0,o 4 (.mv (.c zn))]) (.seq (rF [o 5 (.mv (.c zn))]) (.seq (.seq (rF [oF 8 0 2,oL 9 8,
 oN 10 9,oI 11 0]) (.block 0 (.loop (.seq (rF [oC 12 .lss 11 10]) (.seq (.cond (.s 12) .skip (.exit 0)) (.seq (.block 1 (.seq (rF [oM 13 11,
 oA 14 6 9 11,oS 15 6 14,o 7 (.allocL [ze,zi,zi,zi,zb,zi]),oM 6 13,oP 6 7 15]) (.seq (rF [oF 16 3 7,oL 17 16,oM 18 1,oC 19 .eql 17
 18]) (.cond (.s 19) (rF [oM 20 5,oM 21 6,o 22 (.bslice 1 1 [zi] [(0,(.s 21))]),o 23 (.append 1 8 (.s 20) (.s 22)),oM 5 23]) .skip)))) (rF
 [oD 24 .add 11 1,oM 11 24]))))))) (.seq (rF [oM 25 5,oM 4 25]) .ret))))⟩
def f254:F:=⟨27,false,[.s 4],(.seq (rF [oQ 2 4 0,o 4 (.mv (.c zn))]) (.seq (rF [o 5 (.mv (.c zn))]) (.seq (.seq (rF [oI 6 0]) (.block
 0 (.loop (.seq (.seq (rF [oM 7 6,oF 8 0 2,oL 9 8,oN 10 9,oC 11 .lss 7 10]) (.cond (.s 11) .skip (.exit 0))) (.seq (.block 1 (.seq (rF [oF
 14 0 2,oL 15 14,oM 16 6,oA 17 6 15 16,oG 18 3 17,oR 19 18,oM 20 1,oC 21 .eql 19 20]) (.cond (.s 21) (rF [oM 22 5,oM 23 6,o 24 (.bslice
 1 1 [zi] [(0,(.s 23))]),o 25 (.append 1 8 (.s 22) (.s 24)),oM 5 25]) .skip))) (rF [oM 12 6,oD 13 .add 12 1,oM 6 13])))))) (.seq (rF [oM 26 5,oM 4 26]) .ret))))⟩
def f258:F:=⟨1,true,[], .ext .bldS⟩
def f259:F:=⟨1,false,[], .ext .joinS⟩
def f260:F:=⟨1,true,[], .ext .bldB⟩
def f261:F:=⟨61,true,[],(.seq (.seq (rF [oM 6 0,o 7 (.nilchk (.s 6)),oG 8 0 7,oR 9 8]) (.block 0 (.seq (.seq (rF [oD 11 .eql 9 1,oM
 10 11]) (.cond (.s 10) .skip (.seq (rF [oD 12 .eql 9 2,oM 10 12]) (.cond (.s 10) .skip (rF [oD 13 .eql 9 3,oM 10 13]))))) (.cond (.s 10) (.seq
 (rT [oM 14 0,o 15 (.nilchk (.s 14)),oG 16 0 15,oR 17 16,o 18 (.call false (cf 262) [(.s 17)]),oM 19 0,o 20 (.nilchk (.s 19)),oG 21 2 20,
 oR 22 21,o 23 (.call false (cf 240) [(.s 22)]),oC 24 .add 18 23,o 25 (.bin .add (.s 24) (.c (.t (.str (bs [58]))))),oM 26 0,o 27 (.nilchk
 (.s 26)),oG 28 1 27,oR 29 28,o 30 (.call false (cf 240) [(.s 29)]),oC 31 .add 25 30,o 32 (.call true (cf 258) [(.s 1),(.s 31)])]) .ret)
 .skip)))) (.seq (rF [oM 33 0,o 34 (.nilchk (.s 33)),oG 35 0 34,oR 36 35,oD 37 .sub 36 4,o 38 (.iaddrA 11 1 (.g 1) (.s 37)),oR 39 38,o
 40 (.call true (cf 258) [(.s 1),(.s 39)])]) (.seq (rF [o 4 (.mv (.c (.t (.str (bs [40])))))]) (.seq (.seq (rF [oM 41 0,o 42 (.nilchk (.s 41)),
 oG 43 3 42,oR 44 43,oN 45 44,oI 46 0]) (.block 1 (.loop (.seq (rF [oC 47 .lss 46 45]) (.seq (.cond (.s 47) .skip (.exit 1)) (.seq (.block
 2 (.seq (rF [oM 48 46,oM 5 48]) (.seq (rF [oM 49 4,o 50 (.call true (cf 258) [(.s 1),(.s 49)])]) (.seq (rT [oR 51 2,oM 52 0,o 53 (.nilchk
 (.s 52)),oG 54 3 53,oR 55 54,oM 56 5,oA 57 4 55 56,o 58 (.call true (.s 51) [(.s 57)])]) (rF [o 4 (.mv (.c (.t (.str (bs [44])))))])))))
 (rF [oD 59 .add 46 1,oM 46 59]))))))) (rF [o 60 (.call true (cf 258) [(.s 1),(.c (.t (.str (bs [41]))))])])))))⟩
def f262:F:=⟨8,false,[.s 2],(.seq (rF [o 2 (.mv (.c ze))]) (.seq (.seq (rF [oM 3 0]) (.block 0 (.seq (rF [oD 5 .eql 3 2,oM 4 5]) (.cond
 (.s 4) (.seq (rF [o 2 (.mv (.c (.t (.str (bs [99])))))]) .ret) (.seq (rF [oD 7 .eql 3 3,oM 6 7]) (.cond (.s 6) (.seq (rF [o 2 (.mv (.c (.t (.str
 (bs [111])))))]) .ret) .skip)))))) (.seq (rF [o 2 (.mv (.c ze))]) .ret)))⟩
def f263:F:=⟨8,false,[.s 2],(.seq (rF [oQ 1 4 0,o 2 (.mv (.c ze))]) (.seq (.seq (rF [oK 3 4 1,o 4 (.call false (cf 48) [(.s 3)]),oT
 5 4]) (.cond (.s 5) (.seq (rF [o 2 (.mv (.c ze))]) .ret) .skip)) (.seq (rF [oK 6 4 1,o 7 (.call false (cf 268) [(.s 6)]),oM 2 7]) .ret)))⟩
def f268:F:=⟨56,false,[.s 2],(.seq (rF [oQ 1 4 0,o 2 (.mv (.c ze))]) (.seq (rT [oF 6 2 1,oL 7 6,o 8 (.call false (cf 240) [(.s 7)]),
 o 9 (.bin .add (.s 8) (.c (.t (.str (bs [58]))))),oF 10 1 1,oL 11 10,o 12 (.call false (cf 240) [(.s 11)]),oC 13 .add 9 12,oM 3 13]) (.seq
 (.seq (rF [oF 14 0 1,oL 15 14]) (.block 0 (.seq (rF [oD 17 .eql 15 1,oM 16 17]) (.cond (.s 16) (.seq (rF [oM 18 3,oM 2 18]) .ret) (.seq (rF
 [oD 20 .eql 15 2,oM 19 20]) (.cond (.s 19) (.seq (rF [oM 21 3,o 22 (.bin .add (.c (.t (.str (bs [99])))) (.s 21)),oM 2 22]) .ret) (.seq (rF
 [oD 24 .eql 15 3,oM 23 24]) (.cond (.s 23) (.seq (rF [oM 25 3,o 26 (.bin .add (.c (.t (.str (bs [111])))) (.s 25)),oM 2 26]) .ret) .skip))))))))
 (.seq (rF [o 4 (.mv (.c ze))]) (.seq (.seq (rF [oI 5 0]) (.block 1 (.loop (.seq (.seq (rF [oM 27 5,oF 28 3 1,oL 29 28,oN 30 29,oC 31 .lss
 27 30]) (.cond (.s 31) .skip (.exit 1))) (.seq (.block 2 (.seq (.seq (rF [oM 34 5,oD 35 .gtr 34 0]) (.cond (.s 35) (rF [oM 36 4,o 37 (.bin
 .add (.s 36) (.c (.t (.str (bs [44]))))),oM 4 37]) .skip)) (rF [oM 38 4,oF 39 3 1,oL 40 39,oM 41 5,oA 42 4 40 41,oS 43 4 42,o 44 (.call
 false (cf 268) [(.s 43)]),oC 45 .add 38 44,oM 4 45]))) (rF [oM 32 5,oD 33 .add 32 1,oM 5 33])))))) (.seq (rT [o 46 (.call false (cf 274)
 []),oF 47 0 1,oL 48 47,oD 49 .sub 48 4,oA 50 1 46 49,oR 51 50,o 52 (.bin .add (.s 51) (.c (.t (.str (bs [40]))))),oM 53 4,oC 54 .add
 52 53,o 55 (.bin .add (.s 54) (.c (.t (.str (bs [41]))))),oM 2 55]) .ret))))))⟩
def f274:F:=⟨2,false,[.s 0],(.seq (rF [o 0 (.mv (.c zn))]) (.seq (rF [o 1 (.bslice 1 11 [ze] [(0,(.c (.t (.str (bs [110,111,116]))))),
 (1,(.c (.t (.str (bs [97,110,100]))))),(2,(.c (.t (.str (bs [111,114]))))),(3,(.c (.t (.str (bs [120,111,114]))))),(4,(.c (.t (.str
 (bs [97,100,100]))))),(5,(.c (.t (.str (bs [115,117,98]))))),(6,(.c (.t (.str (bs [109,117,108]))))),(7,(.c (.t (.str (bs [101,113]))))),
 (8,(.c (.t (.str (bs [108,116]))))),(9,(.c (.t (.str (bs [108,101]))))),(10,(.c (.t (.str (bs [105,116,101])))))]),oM 0 1]) .ret))⟩
end Rg
end
section
namespace Rg
open Go
def tabL:List (Nat×F):=[(23,f23),
 (24,f24),
 (28,f28),
 (31,f31),
 (33,f33),
 (47,f47),
 (48,f48),
 (49,f49),
 (51,f51),
 (57,f57),
 (60,f60),
 (61,f61),
 (62,f62),
 (63,f63),
 (64,f64),
 (65,f65),
 (68,f68),
 (70,f70),
 (71,f71),
 (74,f74),
 (75,f75),
 (76,f76),
 (77,f77),
 (78,f78),
 (79,f79),
 (80,f80),
 (81,f81),
 (82,f82),
 (83,f83),
 (84,f84),
 (85,f85),
 (86,f86),
 (87,f87),
 (88,f88),
 (89,f89),
 (91,f91),
 (95,f95),
 (96,f96),
 (97,f97),
 (98,f98),
 (99,f99),
 (100,f100),
 (101,f101),
 (102,f102),
 (103,f103),
 (104,f104),
 (105,f105),
 (106,f106),
 (107,f107),
 (108,f108),
 (109,f109),
 (110,f110),
 (111,f111),
 (112,f112),
 (113,f113),
 (114,f114),
 (115,f115),
 (116,f116),
 (131,f131),
 (132,f132),
 (133,f133),
 (134,f134),
 (135,f135),
 (136,f136),
 (137,f137),
 (138,f138),
 (145,f145),
 (146,f146),
 (147,f147),
 (148,f148),
 (149,f149),
 (150,f150),
 (151,f151),
 (152,f152),
 (153,f153),
 (154,f154),
 (155,f155),
 (156,f156),
 (157,f157),
 (158,f158),
 (159,f159),
 (161,f161),
 (162,f162),
 (163,f163),
 (164,f164),
 (165,f165),
 (166,f166),
 (176,f176),
 (208,f208),
 (209,f209),
 (216,f216),
 (217,f217),
 (218,f218),
 (219,f219),
 (220,f220),
 (221,f221),
 (222,f222),
 (223,f223),
 (224,f224),
 (225,f225),
 (226,f226),
 (227,f227),
 (228,f228),
 (229,f229),
 (230,f230),
 (231,f231),
 (235,f235),
 (236,f236),
 (237,f237),
 (238,f238),
 (239,f239),
 (240,f240),
 (241,f241),
 (242,f242),
 (243,f243),
 (244,f244),
 (245,f245),
 (246,f246),
 (247,f247),
 (248,f248),
 (249,f249),
 (250,f250),
 (251,f251),
 (252,f252),
 (253,f253),
 (254,f254),
 (258,f258),
 (259,f259),
 (260,f260),
 (261,f261),
 (262,f262),
 (263,f263),
 (268,f268),
 (274,f274)]
def Γ:Nat->Option F:=fun k=>tabL.lookup k
def G:Nat->List T
 | 0=>[.int .i64 0, .int .i64 1, .int .i64 3, .int .i64 7, .int .i64 15, .int .i64 31, .int .i64 63, .int .i64 127, .int .i64 255]
 | 1=>[.str (bs [110,111,116]), .str (bs [97,110,100]), .str (bs [111,114]), .str (bs [120,111,114]), .str (bs [97,100,100]), .str (bs [115,117,98]), .str (bs [109,117,108]), .str (bs [101,113]), .str (bs [108,116]), .str (bs [108,101]), .str (bs [105,116,101])]
 | 2=>[.int .u64 1, .int .u64 10, .int .u64 100, .int .u64 1000, .int .u64 10000, .int .u64 100000, .int .u64 1000000, .int .u64 10000000, .int .u64 100000000, .int .u64 1000000000, .int .u64 10000000000, .int .u64 100000000000, .int .u64 1000000000000, .int .u64 10000000000000, .int .u64 100000000000000, .int .u64 1000000000000000, .int .u64 10000000000000000, .int .u64 100000000000000000, .int .u64 1000000000000000000, .int .u64 10000000000000000000]
 | _=>[]
theorem Γ23:Γ 23=some f23:=by rfl
theorem Γ24:Γ 24=some f24:=by rfl
theorem Γ28:Γ 28=some f28:=by rfl
theorem Γ31:Γ 31=some f31:=by rfl
theorem Γ33:Γ 33=some f33:=by rfl
theorem Γ47:Γ 47=some f47:=by rfl
theorem Γ48:Γ 48=some f48:=by rfl
theorem Γ49:Γ 49=some f49:=by rfl
theorem Γ51:Γ 51=some f51:=by rfl
theorem Γ57:Γ 57=some f57:=by rfl
theorem Γ60:Γ 60=some f60:=by rfl
theorem Γ61:Γ 61=some f61:=by rfl
theorem Γ62:Γ 62=some f62:=by rfl
theorem Γ63:Γ 63=some f63:=by rfl
theorem Γ64:Γ 64=some f64:=by rfl
theorem Γ65:Γ 65=some f65:=by rfl
theorem Γ68:Γ 68=some f68:=by rfl
theorem Γ70:Γ 70=some f70:=by rfl
theorem Γ71:Γ 71=some f71:=by rfl
theorem Γ74:Γ 74=some f74:=by rfl
theorem Γ75:Γ 75=some f75:=by rfl
theorem Γ76:Γ 76=some f76:=by rfl
theorem Γ77:Γ 77=some f77:=by rfl
theorem Γ78:Γ 78=some f78:=by rfl
theorem Γ79:Γ 79=some f79:=by rfl
theorem Γ80:Γ 80=some f80:=by rfl
theorem Γ81:Γ 81=some f81:=by rfl
theorem Γ82:Γ 82=some f82:=by rfl
theorem Γ83:Γ 83=some f83:=by rfl
theorem Γ84:Γ 84=some f84:=by rfl
theorem Γ85:Γ 85=some f85:=by rfl
theorem Γ86:Γ 86=some f86:=by rfl
theorem Γ87:Γ 87=some f87:=by rfl
theorem Γ88:Γ 88=some f88:=by rfl
theorem Γ89:Γ 89=some f89:=by rfl
theorem Γ91:Γ 91=some f91:=by rfl
theorem Γ95:Γ 95=some f95:=by rfl
theorem Γ96:Γ 96=some f96:=by rfl
theorem Γ97:Γ 97=some f97:=by rfl
theorem Γ98:Γ 98=some f98:=by rfl
theorem Γ99:Γ 99=some f99:=by rfl
theorem Γ100:Γ 100=some f100:=by rfl
theorem Γ101:Γ 101=some f101:=by rfl
theorem Γ102:Γ 102=some f102:=by rfl
theorem Γ103:Γ 103=some f103:=by rfl
theorem Γ104:Γ 104=some f104:=by rfl
theorem Γ105:Γ 105=some f105:=by rfl
theorem Γ106:Γ 106=some f106:=by rfl
theorem Γ107:Γ 107=some f107:=by rfl
theorem Γ108:Γ 108=some f108:=by rfl
theorem Γ109:Γ 109=some f109:=by rfl
theorem Γ110:Γ 110=some f110:=by rfl
theorem Γ111:Γ 111=some f111:=by rfl
theorem Γ112:Γ 112=some f112:=by rfl
theorem Γ113:Γ 113=some f113:=by rfl
theorem Γ114:Γ 114=some f114:=by rfl
theorem Γ115:Γ 115=some f115:=by rfl
theorem Γ116:Γ 116=some f116:=by rfl
theorem Γ131:Γ 131=some f131:=by rfl
theorem Γ132:Γ 132=some f132:=by rfl
theorem Γ133:Γ 133=some f133:=by rfl
theorem Γ134:Γ 134=some f134:=by rfl
theorem Γ135:Γ 135=some f135:=by rfl
theorem Γ136:Γ 136=some f136:=by rfl
theorem Γ137:Γ 137=some f137:=by rfl
theorem Γ138:Γ 138=some f138:=by rfl
theorem Γ145:Γ 145=some f145:=by rfl
theorem Γ146:Γ 146=some f146:=by rfl
theorem Γ147:Γ 147=some f147:=by rfl
theorem Γ148:Γ 148=some f148:=by rfl
theorem Γ149:Γ 149=some f149:=by rfl
theorem Γ150:Γ 150=some f150:=by rfl
theorem Γ151:Γ 151=some f151:=by rfl
theorem Γ152:Γ 152=some f152:=by rfl
theorem Γ153:Γ 153=some f153:=by rfl
theorem Γ154:Γ 154=some f154:=by rfl
theorem Γ155:Γ 155=some f155:=by rfl
theorem Γ156:Γ 156=some f156:=by rfl
theorem Γ157:Γ 157=some f157:=by rfl
theorem Γ158:Γ 158=some f158:=by rfl
theorem Γ159:Γ 159=some f159:=by rfl
theorem Γ161:Γ 161=some f161:=by rfl
theorem Γ162:Γ 162=some f162:=by rfl
theorem Γ163:Γ 163=some f163:=by rfl
theorem Γ164:Γ 164=some f164:=by rfl
theorem Γ165:Γ 165=some f165:=by rfl
theorem Γ166:Γ 166=some f166:=by rfl
theorem Γ176:Γ 176=some f176:=by rfl
theorem Γ208:Γ 208=some f208:=by rfl
theorem Γ209:Γ 209=some f209:=by rfl
theorem Γ216:Γ 216=some f216:=by rfl
theorem Γ217:Γ 217=some f217:=by rfl
theorem Γ218:Γ 218=some f218:=by rfl
theorem Γ219:Γ 219=some f219:=by rfl
theorem Γ220:Γ 220=some f220:=by rfl
theorem Γ221:Γ 221=some f221:=by rfl
theorem Γ222:Γ 222=some f222:=by rfl
theorem Γ223:Γ 223=some f223:=by rfl
theorem Γ224:Γ 224=some f224:=by rfl
theorem Γ225:Γ 225=some f225:=by rfl
theorem Γ226:Γ 226=some f226:=by rfl
theorem Γ227:Γ 227=some f227:=by rfl
theorem Γ228:Γ 228=some f228:=by rfl
theorem Γ229:Γ 229=some f229:=by rfl
theorem Γ230:Γ 230=some f230:=by rfl
theorem Γ231:Γ 231=some f231:=by rfl
theorem Γ235:Γ 235=some f235:=by rfl
theorem Γ236:Γ 236=some f236:=by rfl
theorem Γ237:Γ 237=some f237:=by rfl
theorem Γ238:Γ 238=some f238:=by rfl
theorem Γ239:Γ 239=some f239:=by rfl
theorem Γ240:Γ 240=some f240:=by rfl
theorem Γ241:Γ 241=some f241:=by rfl
theorem Γ242:Γ 242=some f242:=by rfl
theorem Γ243:Γ 243=some f243:=by rfl
theorem Γ244:Γ 244=some f244:=by rfl
theorem Γ245:Γ 245=some f245:=by rfl
theorem Γ246:Γ 246=some f246:=by rfl
theorem Γ247:Γ 247=some f247:=by rfl
theorem Γ248:Γ 248=some f248:=by rfl
theorem Γ249:Γ 249=some f249:=by rfl
theorem Γ250:Γ 250=some f250:=by rfl
theorem Γ251:Γ 251=some f251:=by rfl
theorem Γ252:Γ 252=some f252:=by rfl
theorem Γ253:Γ 253=some f253:=by rfl
theorem Γ254:Γ 254=some f254:=by rfl
theorem Γ258:Γ 258=some f258:=by rfl
theorem Γ259:Γ 259=some f259:=by rfl
theorem Γ260:Γ 260=some f260:=by rfl
theorem Γ261:Γ 261=some f261:=by rfl
theorem Γ262:Γ 262=some f262:=by rfl
theorem Γ263:Γ 263=some f263:=by rfl
theorem Γ268:Γ 268=some f268:=by rfl
theorem Γ274:Γ 274=some f274:=by rfl
end Rg
end
section
namespace Rg
open Go Go.Sort Go.Shelf
theorem intsOf_get : ∀ {rs:List (List V)} {zs:List Int},intsOf rs=some zs->rs.length=zs.length /\ ∀ (i:Nat) (z:Int),zs[i]? = some z->rs[i]? = some [.t (.int .i64 z)]
 | [],zs,h=>by simp only [intsOf,Option.some.injEq] at h; subst h; simp
 | row::r,zs,h=>by
  unfold intsOf at h
  split at h
  ·rename_i h0; simp at h0
  ·rename_i z r' h0
   simp only [List.cons.injEq] at h0
   obtain ⟨rfl,rfl⟩:=h0
   rw [Option.map_eq_some_iff] at h
   obtain ⟨zs',hz,rfl⟩:=h
   obtain ⟨h1,h2⟩:=intsOf_get hz
   refine ⟨by simp [h1],fun i z' hi => ?_⟩
   cases i with
   | zero=>simp at hi; subst hi; rfl
   | succ i=>simpa using h2 i z' (by simpa using hi)
  ·cases h
theorem putCells_get (c:Array Value) (ys:List Int) (j:Nat):(putCells (Value.int .i64) 0 ys.toArray c)[j]? = (c[j]?).map fun x=>match ys[j]? with | some y=>Value.int .i64 y | none=>x:=by
 unfold putCells
 rw [Array.getElem?_mapIdx]
 cases hc:c[j]? with
 | none=>rfl
 | some x =>
  simp only [Option.map_some,Option.some.injEq]
  by_cases hj:j<ys.length
  ·rw [if_pos (by simp [hj]),List.getElem?_eq_getElem hj]
   simp [hj]
  ·rw [if_neg (by simp; omega),List.getElem?_eq_none (by omega)]
theorem putRow_shape (w:World) (q b:Nat) (ys:List Int) (r:Nat) (x:TypeId×Nat) (hx:w.shape? r=some x):(putRow (Value.int .i64) (Sort.ahead w q) b 0 ys.toArray).shape? r=some x:=by
 unfold World.shape? at hx ⊢
 simp only [putRow,mapBlock,Sort.ahead,Array.getElem?_modify]
 by_cases h:b=r
 ·subst h
  rw [if_pos rfl]
  cases ho:w.heap[b]? with
  | none=>rw [ho] at hx; cases hx
  | some o =>
   rw [ho] at hx
   cases o with
   | cells c e fr=>simpa [onCells,putCells] using hx
   | _=>cases hx
 ·rw [if_neg h]; exact hx
section
variable {N:Nam} {c:Ctx} {A:Nat->Prop} {μ lam:Nat->Nat} {w:World} {H:Nat->Option O} {n:Nat}
theorem rel_putInts (R:Rel N c 0 A μ lam (.init [] H n) bareAct w) {k:Nat} {rs:List (List V)} (hk:H k=some (.rows 1 rs false)) (ys:List Int) (hl:ys.length=rs.length) (q:Nat) :
 Rel N c 0 A μ lam (.init [] (upd H k (some (.rows 1 (ofInts ys) false))) n) bareAct (putRow (Value.int .i64) (Sort.ahead w q) (μ k) 0 ys.toArray):=by
 obtain ⟨cc,e0,z,h1,h2,h3,h4,h5⟩:=R.heap k _ hk
 have hz:=h2 rfl
 subst hz
 have hget : ∀ r,(putRow (Value.int .i64) (Sort.ahead w q) (μ k) 0 ys.toArray).heap[r]? = if μ k=r then (w.heap[r]?).map (onCells (putCells (Value.int .i64) 0 ys.toArray)) else w.heap[r]? := by
  intro r
  simp only [putRow,mapBlock,Sort.ahead,Array.getElem?_modify]
 refine R.changeH (o' := .rows 1 (ofInts ys) false) hk ⟨rfl,by simp [ofInts,hl]⟩ rfl (by simp) (by simp) rfl ?_ ?_ ?_ ?_ ⟨rfl,rfl⟩
 ·simp [putRow,mapBlock,Sort.ahead]
 ·intro r hr
  rw [hget,if_neg (fun h=>hr h.symm)]
 ·exact fun r x hx=>putRow_shape w q (μ k) ys r x hx
 ·intro E
  refine ⟨putCells (Value.int .i64) 0 ys.toArray cc,e0,(0,0), ?_,fun _=>rfl, ?_, ?_, ?_⟩
  ·rw [hget,if_pos rfl,h1]; rfl
  ·have:(putCells (Value.int .i64) 0 ys.toArray cc).size=cc.size:=by simp [putCells]
   rw [this]; simp [ofInts,hl]; omega
  ·intro i row hi
   simp only [ofInts,List.getElem?_map,Option.map_eq_some_iff] at hi
   obtain ⟨y,_,rfl⟩:=hi
   rfl
  ·intro i row j x hi hj
   simp only [ofInts,List.getElem?_map,Option.map_eq_some_iff] at hi
   obtain ⟨y,hy,rfl⟩:=hi
   have hj0:j=0:=by
    have:=(List.getElem?_eq_some_iff.1 hj).1
    simp at this; exact this
   subst hj0
   simp only [List.getElem?_cons_zero,Option.some.injEq] at hj
   subst hj
   have hlt:i<ys.length:=(List.getElem?_eq_some_iff.1 hy).1
   obtain ⟨row,hrow⟩ : ∃ row,rs[i]? = some row:=⟨_,List.getElem?_eq_getElem (by omega)⟩
   have hrl:=h4 i row hrow
   obtain ⟨x0,hx0⟩ : ∃ x0,row[0]? = some x0:=⟨_,List.getElem?_eq_getElem (by omega)⟩
   obtain ⟨v,hv,_⟩:=h5 i row 0 x0 hrow hx0
   refine ⟨.int .i64 y, ?_, .t (.int _ _)⟩
   rw [putCells_get,hv]
   simp [hy]
theorem rel_grow (R:Rel N c 0 A μ lam (.init [] H n) bareAct w) (os:Array Obj):Rel N c 0 A μ lam (.init [] H n) bareAct (grow w os):=by
 have hget : ∀ r,r<w.heap.size->(grow w os).heap[r]? = w.heap[r]? := fun r hr=>by simp [grow,Array.getElem?_append,hr]
 refine R.world (by simp [grow]) ?_ ?_ ?_ (Marks.nil _ _ _) ⟨rfl,rfl⟩
 ·rintro r (h | h | ⟨k,o,hk,hl,rfl⟩)
  ·exact hget r (R.alt r h)
  ·obtain ⟨t,ht,_⟩:=h
   simp [St.init] at ht
  ·exact hget _ (R.lt_live hk hl)
 ·intro r hr _
  exact hget r (Nat.lt_of_lt_of_le hr R.csize)
 ·intro r x hx
  unfold World.shape? at hx ⊢
  by_cases hr:r<w.heap.size
  ·rw [hget r hr]; exact hx
  ·rw [Array.getElem?_eq_none (by omega)] at hx; cases hx
theorem own_ints (R:Rel N c 0 A μ lam (.init [] H n) bareAct w) {k len:Nat} {rs:List (List V)} {zs:List Int} (hk:H k=some (.rows 1 rs false)) (hz:intsOf rs=some zs) (hl:zs.length=len)
 {v:Value} (hv:RepV w A N.nm μ H v (.ms k 0 len)) :
 ∃ a cap,v = .slice a zs.length cap/\zs.length<=cap/\(zs=[]\/a=some ⟨μ k,0,none⟩)/\Holds (Value.int .i64) w (μ k) 0 zs.toArray/\μ k<w.heap.size/\(cap=0\/(a=some ⟨μ k,0,none⟩ /\ ∃ e m,w.shape? (μ k)=some (e,m)/\cap<=m)):=by
 obtain ⟨i1,i2⟩:=intsOf_get hz
 obtain ⟨cc,e0,z,h1,h2,h3,h4,h5⟩:=R.heap k _ hk
 have hzz:=h2 rfl
 subst hzz
 have hlt:μ k<w.heap.size:=R.lt_live hk rfl
 have hH:Holds (Value.int .i64) w (μ k) 0 zs.toArray:=by
  intro j hj
  have hj' : j<zs.length:=by simpa using hj
  refine ⟨?_,by simp [World.frozen?,h1]⟩
  have hzj:zs[j]? = some zs[j]:=List.getElem?_eq_getElem hj'
  obtain ⟨u,hu,hr⟩:=h5 j _ 0 _ (i2 j _ hzj) rfl
  cases hr with
  | t hr =>
   cases hr
   simp only [World.cell?,h1,Nat.zero_add]
   simp only [Nat.mul_one,Nat.add_zero] at hu
   simp [hu,hj']
 have hv1:RepC w A N.nm μ H v (.ms k 0 len):=hv
 cases hv1 with
 | ms _ _ _ cap sz rs' frz a hk' hi hc ha =>
  rw [hk] at hk'; cases hk'
  subst hl
  refine ⟨a,cap,rfl,by omega, ?_,hH,hlt, ?_⟩
  ·rcases ha with h0 | ⟨rfl,_⟩
   ·exact .inl (List.eq_nil_of_length_eq_zero (by omega))
   ·exact .inr (by simp)
  ·rcases ha with h0 | ⟨rfl,e,m,hs,hm⟩
   ·exact .inl h0
   ·exact .inr ⟨by simp,e,m,hs,by omega⟩
 | dms _ _ _ hk' _=>rw [hk] at hk'; cases hk'
end
theorem one_arg {w:World} {A:Nat->Prop} {nm μ:Nat->Nat} {H:Nat->Option O} {vs:Array Value} {x:V} (h:RepArgs w A nm μ H vs [x]) : ∃ v,vs = #[v]/\RepV w A nm μ H v x:=by
 obtain ⟨h1,h2⟩:=h
 obtain ⟨v,hv,hr⟩:=h2 0 x rfl
 refine ⟨v, ?_,hr⟩
 apply Array.ext_getElem?
 intro i
 cases i with
 | zero=>simpa using hv
 | succ i=>rw [Array.getElem?_eq_none (by simp at h1; omega),Array.getElem?_eq_none (by simp)]
theorem upd_id {H:Nat->Option O} {k:Nat} {o:O} (h:H k=some o):upd H k (some o)=H:=by
 funext j; unfold upd; split
 ·rename_i e; rw [e,h]
 ·rfl
theorem intsOf_nil {rs:List (List V)} (h:intsOf rs=some []):rs=[]:=List.eq_nil_of_length_eq_zero (by simpa using (intsOf_get h).1)
theorem ext_sort {P:Program} {N:Nam} {g:Nat} {ρ:Ren} (Ly:Go.Proofs.Lays.n189 P ρ) (hf:ρ.f 189=N.nm g) {rf:Func} (hr:Real P (N.nm g) rf):ExtOK P N g .sortI:=by
 refine ⟨⟨rf,hr⟩,fun args H n r H' n' h c A μ lam w vs R ha => ?_,fun _ _ h=>by simp [extPure] at h⟩
 rw [<- hf]
 unfold extSem at h
 split at h
 all_goals (try contradiction)
 ·cases h
  obtain ⟨v,rfl,hv⟩:=one_arg ha
  cases hv.t_inv
  refine (Go.Proofs.Any.slices_Sort_int_none Ly _ _ w).mono ?_
  rintro e w' ⟨rfl,rfl⟩
  exact ⟨_,A,μ,lam,rfl,R,⟨#[],rfl,rfl,by simp⟩⟩
 ·rename_i k len _
  split at h
  ·rename_i rs hk
   simp only [Option.bind_eq_some_iff] at h
   obtain ⟨zs,hz,h⟩:=h
   split at h
   ·rename_i hl
    cases h
    obtain ⟨v,rfl,hv⟩:=one_arg ha
    obtain ⟨a,cap,rfl,hc,hor,hH,hlt,_⟩:=own_ints R hk hz hl.1 hv
    by_cases h0:zs=[]
    ·subst h0
     refine (Go.Proofs.Any.slices_Sort_int_none Ly _ _ w).mono ?_
     rintro e w' ⟨rfl,rfl⟩
     have hrs:=intsOf_nil hz
     subst hrs
     refine ⟨_,A,μ,lam,rfl, ?_,⟨#[],rfl,rfl,by simp⟩⟩
     rw [List.mergeSort_nil,show ofInts []=[] from rfl,upd_id hk]
     exact R
    ·obtain rfl:=hor.resolve_left h0
     refine (Go.Proofs.Any.slices_Sort_int Ly (μ k) 0 cap zs w hH hlt (by omega)).mono ?_
     rintro e w' ⟨rfl,q,os,rfl⟩
     refine ⟨_,A,μ,lam,rfl,rel_grow (rel_putInts R hk _ ?_ q) os,⟨#[],rfl,rfl,by simp⟩⟩
     rw [List.length_mergeSort,(intsOf_get hz).1]
   ·cases h
  ·cases h
theorem compact_le (zs:List Int):(Go.Lib.compact zs).length<=zs.length:=by
 unfold Go.Lib.compact Go.Lib.compactUpTo
 rw [List.length_map]
 exact Nat.le_trans (List.length_filter_le _ _) (by simp)
theorem ext_compact {P:Program} {N:Nam} {g:Nat} {ρ:Ren} (Ly:Go.Proofs.Lays2.n20 P ρ) (hf:ρ.f 20=N.nm g) {rf:Func} (hr:Real P (N.nm g) rf):ExtOK P N g .compactI:=by
 refine ⟨⟨rf,hr⟩,fun args H n r H' n' h c A μ lam w vs R ha => ?_,fun _ _ h=>by simp [extPure] at h⟩
 rw [<- hf]
 unfold extSem at h
 split at h
 all_goals (try contradiction)
 ·cases h
  obtain ⟨v,rfl,hv⟩:=one_arg ha
  cases hv.t_inv
  refine (Go.Proofs.Any.slices_Compact_int_empty Ly _ _ w).mono ?_
  rintro e w' ⟨rfl,rfl⟩
  exact ⟨_,A,μ,lam,rfl,R,hv⟩
 ·rename_i k len _
  split at h
  ·rename_i rs hk
   simp only [Option.bind_eq_some_iff] at h
   obtain ⟨zs,hz,h⟩:=h
   split at h
   ·rename_i hl
    cases h
    obtain ⟨v,rfl,hv⟩:=one_arg ha
    obtain ⟨a,cap,rfl,hc,hor,hH,hlt,hcap⟩:=own_ints R hk hz hl.1 hv
    have hcl:=compact_le zs
    by_cases h0:zs=[]
    ·subst h0
     refine (Go.Proofs.Any.slices_Compact_int_empty Ly _ _ w).mono ?_
     rintro e w' ⟨rfl,rfl⟩
     have hrs:=intsOf_nil hz
     subst hrs
     have hcn:Go.Lib.compact ([]:List Int)=[]:=rfl
     have hl0:len=0:=by simpa using hl.1.symm
     subst hl0
     refine ⟨_,A,μ,lam,rfl, ?_, ?_⟩
     ·rw [hcn,show ofInts ([]++List.replicate (([]:List Int).length-([]:List Int).length) 0)=[] from rfl,upd_id hk]
      exact R
     ·rw [hcn,show ofInts ([]++List.replicate (([]:List Int).length-([]:List Int).length) 0)=[] from rfl,upd_id hk]
      exact hv
    ·obtain rfl:=hor.resolve_left h0
     refine (Go.Proofs.Any.slices_Compact_int Ly (μ k) 0 cap zs w hH (by omega) hc).mono ?_
     rintro e w' ⟨rfl,q,rfl⟩
     have hlen:(Go.Lib.compact zs++List.replicate (zs.length-(Go.Lib.compact zs).length) 0).length=rs.length:=by
      rw [List.length_append,List.length_replicate,(intsOf_get hz).1]; omega
     have R1:=rel_putInts R hk _ hlen q
     refine ⟨_,A,μ,lam,rfl,R1, ?_⟩
     have hcap0:cap≠0:=by
      intro hcc
      exact h0 (List.eq_nil_of_length_eq_zero (by omega))
     obtain ⟨_,e,m,hs,hm⟩:=hcap.resolve_left hcap0
     refine .ms k 0 _ cap 1 _ false _ (upd_same _ _ _) ?_ (by have e1:=(intsOf_get hz).1; simp only [ofInts,List.length_map,hlen]; omega) (.inr ⟨by simp,e,m, ?_,by omega⟩)
     ·simp only [ofInts,List.length_map,hlen,(intsOf_get hz).1]; omega
     ·exact putRow_shape w q (μ k) _ _ _ hs
   ·cases h
  ·cases h
theorem Rel.more {N:Nam} {c:Ctx} {A:Nat->Prop} {μ lam:Nat->Nat} {w:World} {H:Nat->Option O} {n:Nat} (R:Rel N c 0 A μ lam (.init [] H n) bareAct w) {m:Nat} (hm:n<=m):Rel N c 0 A μ lam (.init [] H m) bareAct w :=
 { R with fresh:=fun k hk=>R.fresh k (Nat.le_trans hm hk) }
end Rg
end
section
namespace Rg
open Go Go.Proofs Go.Lib Go.Shelf Go.RowKit
structure Added (w:World) (v:Value) (n:Nat) (xs news:List Value) (e:TypeId) (v' : Value) (w' : World):Prop where
 own:w'.ownsRow 0 e 1 v' (n+news.length) (xs++news)
 gr:w.grownBy w' v.ownBlock
 shp : ∀ k x,w.shape? k=some x->w'.shape? k=some x
 blk:v'.ownBlock=v.ownBlock \/ ∃ g',v'.ownBlock=some g' /\ w.heap.size<=g'
 nil:v' = .slice none 0 0<->v = .slice none 0 0/\news=[]
theorem shape_of_block {w w' : World} {k:Nat} {x:TypeId×Nat} (h:w'.heap[k]? = w.heap[k]?) (hx:w.shape? k=some x):w'.shape? k=some x:=by
 unfold World.shape? at hx ⊢; rw [h]; exact hx
theorem lt_of_shape {w:World} {k:Nat} {x:TypeId×Nat} (hx:w.shape? k=some x):k<w.heap.size:=by
 unfold World.shape? at hx
 rcases Nat.lt_or_ge k w.heap.size with h | h
 ·exact h
 ·rw [Array.getElem?_eq_none h] at hx; cases hx
theorem owned_ge {w:World} {B:Nat} {e:TypeId} {v:Value} {n:Nat} {xs:List Value} (h:w.ownsRow B e 1 v n xs):v.ownBlock=none \/ ∃ g,v.ownBlock=some g/\B<=g:=by
 rcases h.2 with ⟨rfl,_⟩ | ⟨g,cap,cur,rfl,hb,_⟩
 ·exact .inl rfl
 ·exact .inr ⟨g,rfl,hb⟩
theorem strCells_nil {s:ByteArray}:strCells s=[]<->s.size=0:=by
 rw [<- strCells_length]
 exact List.length_eq_zero_iff.symm
section
variable {P:Program} (w:World)
theorem added_string (t u ty e:TypeId) (i:TypeInfo) (ht:P.underlying t=some (.slice e)) (hu:P.underlying u=some .string) (hi:P.info? e=some i) (hz:i.zero=some (.int .u8 0))
 (hsize:i.size=1) (hby:i.bytes=1) (v:Value) (n:Nat) (xs:List Value) (hown:w.ownsRow 0 e 1 v n xs) (s:ByteArray) (hbytes:n+s.size<=140737488355328) :
 ∃ v' w',(Builtin.append_ #[t,u] ty #[v, .string s]).run P w = .ok v' w' /\ Added w v n xs (strCells s) e v' w' := by
 have h63:n+s.size<=maxLen:=by unfold maxLen; omega
 obtain ⟨v',w',hr,h1,h2,h3⟩:=run_append_own_string (P:=P) w 0 t u ty e i ht hu hi hz hsize hby v n xs hown s h63 hbytes (Nat.zero_le _)
 have hxl:xs.length=n:=by simpa using hown.1
 have hnil:v' = .slice none 0 0<->v = .slice none 0 0/\strCells s=[]:=by rw [strCells_nil]; exact h3
 have h1' : w'.ownsRow 0 e 1 v' (n+(strCells s).length) (xs++strCells s):=by rw [strCells_length]; exact h1
 refine ⟨v',w',hr, ?_⟩
 rcases hown.2 with ⟨rfl,rfl⟩ | ⟨g,cap,cur,rfl,hbg,hg,hnc,hcm,hcs,htake⟩
 ·have hx:xs=[]:=List.eq_nil_of_length_eq_zero hxl
  subst hx
  obtain ⟨v2,w2,hr2,g1,_,_⟩:=run_append_own_string (P:=P) w w.heap.size t u ty e i ht hu hi hz hsize hby (.slice none 0 0) 0 [] (World.ownsRow_nil w _ e 1) s h63 hbytes (Nat.le_refl _)
  rw [hr] at hr2
  cases hr2
  refine ⟨h1',h2,fun k x hx=>shape_of_block (h2.block k (lt_of_shape hx) (by simp [Value.ownBlock])) hx, ?_,hnil⟩
  rcases owned_ge g1 with h | h
  ·exact .inl h
  ·exact .inr h
 ·by_cases hroom:n+s.size<=cap
  ·have hcs' : cur.size=cap:=by simpa using hcs
   have hr2:=run_append_room_string (P:=P) w t u ty e i ht hu hi hsize g n cap cur hg s hroom (by omega)
   rw [hr] at hr2
   cases hr2
   refine ⟨h1',h2,shape?_setRow hg ?_, .inl rfl,hnil⟩
   simp only [List.size_toArray,List.length_append,List.length_take,List.length_drop,Array.length_toList,strCells_length]
   omega
  ·have holds : ∀ j u,xs[j]? = some u->w.cell? ((⟨g,0,none⟩:Addr).add j)=some u:=hown.cells (g:=g) rfl
   have hr2:=run_append_grow_string (P:=P) w t u ty e i (.int .u8 0) ht hu hi hz ⟨g,0,none⟩ n cap xs (by rw [hsize]; simpa using hxl) holds s (by omega) (by unfold maxLen at h63; omega) (by rw [hby]; exact growslice_fits (by omega) (by omega))
   rw [hr] at hr2
   cases hr2
   exact ⟨h1',h2,fun k x hx=>shape?_push w.drew _ k x hx, .inr ⟨_,rfl,Nat.le_refl _⟩,hnil⟩
theorem added_byte (t ty e:TypeId) (i:TypeInfo) (ht:P.underlying t=some (.slice e)) (hi:P.info? e=some i) (hz:i.zero=some (.int .u8 0))
 (hsize:i.size=1) (hby:i.bytes=1) (v:Value) (n:Nat) (xs:List Value) (hown:w.ownsRow 0 e 1 v n xs) (ad:Addr) (c:Nat) (z:Int) (hc:w.cell? ad=some (.int .u8 z)) (hbytes:n+1<=140737488355328) :
 ∃ v' w',(Builtin.append_ #[t,t] ty #[v, .slice (some ad) 1 c]).run P w = .ok v' w' /\ Added w v n xs [.int .u8 z] e v' w' := by
 have h63:n+1<=maxLen:=by unfold maxLen; omega
 have hnews : ∀ (j:Nat) (u:Value),[Value.int .u8 z][j]? = some u->w.cell? (ad.add j)=some u:=by
  intro j u hj
  match j,hj with
  | 0,hj=>simp at hj; subst hj; simpa [Addr.add] using hc
 have hone : ∀ u∈[Value.int .u8 z],u.oneCell' = true:=by intro u hu; simp at hu; subst hu; rfl
 obtain ⟨v',w',hr,h1,h2,h3⟩:=run_append_own (P:=P) w 0 t ty e i (.int .u8 0) 1 1 ht hi hz hsize hby rfl (by decide) v n xs hown ad 1 c [.int .u8 z] rfl hnews hone h63 (by omega) (Nat.zero_le _)
 have hxl:xs.length=n:=by simpa using hown.1
 have hnil:v' = .slice none 0 0<->v = .slice none 0 0/\[Value.int .u8 z]=[]:=by rw [h3]; simp
 refine ⟨v',w',hr, ?_⟩
 rcases hown.2 with ⟨rfl,rfl⟩ | ⟨g,cap,cur,rfl,hbg,hg,hnc,hcm,hcs,htake⟩
 ·have hx:xs=[]:=List.eq_nil_of_length_eq_zero hxl
  subst hx
  obtain ⟨v2,w2,hr2,g1,_,_⟩:=run_append_own (P:=P) w w.heap.size t ty e i (.int .u8 0) 1 1 ht hi hz hsize hby rfl (by decide) (.slice none 0 0) 0 [] (World.ownsRow_nil w _ e 1) ad 1 c [.int .u8 z] rfl hnews hone h63 (by omega) (Nat.le_refl _)
  rw [hr] at hr2
  cases hr2
  refine ⟨h1,h2,fun k x hx=>shape_of_block (h2.block k (lt_of_shape hx) (by simp [Value.ownBlock])) hx, ?_,hnil⟩
  rcases owned_ge g1 with h | h
  ·exact .inl h
  ·exact .inr h
 ·by_cases hroom:n+1<=cap
  ·have hcs' : cur.size=cap:=by simpa using hcs
   have hr2:=run_append_room (P:=P) w t ty e i ht hi g n cap cur hg ad 1 c [.int .u8 z] (by rw [hsize]; rfl) hnews hone hroom (by rw [hsize]; simp; omega)
   rw [hr] at hr2
   cases hr2
   refine ⟨h1,h2,shape?_setRow hg ?_, .inl rfl,hnil⟩
   rw [hsize]
   simp only [List.size_toArray,List.length_append,List.length_take,List.length_drop,Array.length_toList,List.length_cons,List.length_nil]
   omega
  ·have holds : ∀ j u,xs[j]? = some u->w.cell? ((⟨g,0,none⟩:Addr).add j)=some u:=hown.cells (g:=g) rfl
   have hr2:=run_append_grow (P:=P) w t ty e i (.int .u8 0) ht hi hz ⟨g,0,none⟩ n cap xs (by rw [hsize]; simpa using hxl) holds ad 1 c [.int .u8 z] (by rw [hsize]; rfl) hnews (by omega) (by unfold maxLen at h63; omega) (by rw [hby]; exact growslice_fits (by omega) (by omega))
   rw [hr] at hr2
   cases hr2
   exact ⟨h1,h2,fun k x hx=>shape?_push w.drew _ k x hx, .inr ⟨_,rfl,Nat.le_refl _⟩,hnil⟩
theorem wpList_added_string {ops:Array Oper} {rest:List Oper} {o:Oper} {a:Act} {Q:Exit->Act->World->Prop} (hgd:o.guard=none) (sl x:Operand) (t u:TypeId)
 (ho:o.op = .call { callee:=.builtin .append,args := #[sl,x],argTypes := #[t,u] }) (e:TypeId) (i:TypeInfo) (ht:P.underlying t=some (.slice e)) (hu:P.underlying u=some .string) (hi:P.info? e=some i) (hz:i.zero=some (.int .u8 0))
 (hsize:i.size=1) (hby:i.bytes=1) (v:Value) (n:Nat) (xs:List Value) (hs:a.eval sl=v) (hown:w.ownsRow 0 e 1 v n xs) (s:ByteArray) (hx:a.eval x = .string s) (hbytes:n+s.size<=140737488355328)
 (h : ∀ v' w',Added w v n xs (strCells s) e v' w' -> wpList P ops Q rest (a.put o.dst v') w'):wpList P ops Q (o::rest) a w:=by
 refine wpList_plain hgd fun K hK => ?_
 obtain ⟨v',w',hr,h2⟩:=added_string (P:=P) w t u o.type e i ht hu hi hz hsize hby v n xs hown s hbytes
 unfold Oper.wp execOp
 simp only [ho,resolve,invoke,builtin,Sem.run_bind,Sem.run_pure,Result.andThen_ok,List.map_toArray,List.map_cons,List.map_nil,hs,hx,hr]
 exact hK _ _ (h v' w' h2)
theorem wpList_added_byte {ops:Array Oper} {rest:List Oper} {o:Oper} {a:Act} {Q:Exit->Act->World->Prop} (hgd:o.guard=none) (sl x:Operand) (t:TypeId)
 (ho:o.op = .call { callee:=.builtin .append,args := #[sl,x],argTypes := #[t,t] }) (e:TypeId) (i:TypeInfo) (ht:P.underlying t=some (.slice e)) (hi:P.info? e=some i) (hz:i.zero=some (.int .u8 0))
 (hsize:i.size=1) (hby:i.bytes=1) (v:Value) (n:Nat) (xs:List Value) (hs:a.eval sl=v) (hown:w.ownsRow 0 e 1 v n xs) (ad:Addr) (c:Nat) (z:Int) (hx:a.eval x = .slice (some ad) 1 c) (hc:w.cell? ad=some (.int .u8 z)) (hbytes:n+1<=140737488355328)
 (h : ∀ v' w',Added w v n xs [.int .u8 z] e v' w' -> wpList P ops Q rest (a.put o.dst v') w'):wpList P ops Q (o::rest) a w:=by
 refine wpList_plain hgd fun K hK => ?_
 obtain ⟨v',w',hr,h2⟩:=added_byte (P:=P) w t o.type e i ht hi hz hsize hby v n xs hown ad c z hc hbytes
 unfold Oper.wp execOp
 simp only [ho,resolve,invoke,builtin,Sem.run_bind,Sem.run_pure,Result.andThen_ok,List.map_toArray,List.map_cons,List.map_nil,hs,hx,hr]
 exact hK _ _ (h v' w' h2)
end
end Rg
end

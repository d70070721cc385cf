/- Part of the proof of laws of relyguardlaw31. No condition. -/
import Derived.Test.YtcmeofagpechdaaGreatDoorRartAO
import Derived.Shelf.Sort.Plain
import Derived.Shelf.Slices.In.SortNone
import Derived.Shelf.Slices.CompactI
import Derived.Shelf.Slices.Clone
import Derived.Test.YtcmeofagpechdaaGreatDoorRartAM
import Derived.Shelf.SlicesE.Clone
import Derived.Test.YtcmeofagpechdaaGreatDoorRows
set_option linter.unusedSimpArgs false
set_option linter.unusedVariables false
section
set_option maxRecDepth 20000
namespace Rg
open Go
def zst:List (Nat×F):=[(9,f9),
 (11,f11),
 (12,f12),
 (17,f17),
 (18,f18),
 (23,f23),
 (24,f24),
 (27,f27),
 (28,f28),
 (31,f31),
 (33,f33),
 (34,f34),
 (36,f36),
 (37,f37),
 (38,f38),
 (39,f39),
 (43,f43),
 (44,f44),
 (45,f45),
 (47,f47),
 (48,f48),
 (49,f49),
 (51,f51),
 (56,f56),
 (57,f57),
 (60,f60),
 (61,f61),
 (62,f62),
 (64,f64),
 (65,f65),
 (67,f67),
 (68,f68),
 (70,f70),
 (71,f71),
 (72,f72),
 (73,f73),
 (74,f74),
 (75,f75),
 (76,f76),
 (77,f77),
 (78,f78),
 (79,f79),
 (80,f80),
 (81,f81),
 (82,f82),
 (83,f83),
 (84,f84),
 (85,f85),
 (86,f86),
 (87,f87),
 (88,f88),
 (89,f89),
 (91,f91),
 (92,f92),
 (95,f95),
 (96,f96),
 (97,f97),
 (98,f98),
 (99,f99),
 (100,f100),
 (101,f101),
 (102,f102),
 (103,f103),
 (104,f104),
 (105,f105),
 (106,f106),
 (107,f107),
 (108,f108),
 (109,f109),
 (110,f110),
 (111,f111),
 (112,f112),
 (113,f113),
 (114,f114),
 (115,f115),
 (116,f116),
 (126,f126),
 (131,f131),
 (132,f132),
 (133,f133),
 (134,f134),
 (135,f135),
 (136,f136),
 (137,f137),
 (138,f138),
 (144,f144),
 (145,f145),
 (146,f146),
 (147,f147),
 (148,f148),
 (149,f149),
 (150,f150),
 (151,f151),
 (152,f152),
 (153,f153),
 (154,f154),
 (155,f155),
 (156,f156),
 (157,f157),
 (158,f158),
 (159,f159),
 (161,zrO),
 (162,zrN),
 (163,zrM),
 (164,zrL),
 (165,zrK),
 (166,f166),
 (179,f179),
 (180,f180),
 (187,f187),
 (188,f188),
 (189,f189),
 (190,f190),
 (191,f191),
 (192,f192),
 (195,zBD),
 (196,zBC),
 (198,zs0),
 (199,zBu),
 (200,f200),
 (201,f201),
 (202,f202),
 (203,f203),
 (205,f205),
 (206,f206),
 (207,f207),
 (228,f228),
 (253,zrJ),
 (289,zrI),
 (299,f299),
 (300,f300),
 (301,f301),
 (307,zrH),
 (309,zrG),
 (310,zqg),
 (311,zrF),
 (312,zrE),
 (313,zrD),
 (314,zrC),
 (315,zqf),
 (316,zrB),
 (318,zrA),
 (319,zrz),
 (320,zry),
 (321,zrx),
 (322,zrw),
 (325,zrv),
 (400,zBA),
 (401,zsZ),
 (403,zrr),
 (404,zrq),
 (406,zw4),
 (408,zw2),
 (409,zro),
 (411,zBy),
 (412,zsY),
 (413,zsX),
 (415,zrm),
 (416,zrl),
 (417,zrk),
 (418,zrj),
 (419,zsW),
 (420,zw1),
 (421,zw0),
 (422,zwZ),
 (423,zBx),
 (424,zri),
 (425,zrh),
 (426,zqe),
 (427,zrg),
 (428,zsV),
 (429,zrf),
 (430,zre),
 (431,zwY),
 (432,zwX),
 (433,zwW),
 (434,zrd),
 (435,zrc),
 (436,zrb),
 (437,zra),
 (438,zq9),
 (439,zq8),
 (440,zq7)]
def Γ:Nat->Option F:=fun k=>zst.lookup k
def G:Nat->List T
 | 0=>[.int .i64 0,.int .i64 1,.int .i64 3,.int .i64 7,.int .i64 15,.int .i64 31,.int .i64 63,.int .i64 127,.int .i64 255]
 | _=>[]
theorem Γ9:Γ 9=some f9:=by rfl
theorem Γ11:Γ 11=some f11:=by rfl
theorem Γ12:Γ 12=some f12:=by rfl
theorem Γ17:Γ 17=some f17:=by rfl
theorem Γ18:Γ 18=some f18:=by rfl
theorem Γ23:Γ 23=some f23:=by rfl
theorem Γ24:Γ 24=some f24:=by rfl
theorem Γ27:Γ 27=some f27:=by rfl
theorem Γ28:Γ 28=some f28:=by rfl
theorem Γ31:Γ 31=some f31:=by rfl
theorem Γ33:Γ 33=some f33:=by rfl
theorem Γ34:Γ 34=some f34:=by rfl
theorem Γ36:Γ 36=some f36:=by rfl
theorem Γ37:Γ 37=some f37:=by rfl
theorem Γ38:Γ 38=some f38:=by rfl
theorem Γ39:Γ 39=some f39:=by rfl
theorem Γ43:Γ 43=some f43:=by rfl
theorem Γ44:Γ 44=some f44:=by rfl
theorem Γ45:Γ 45=some f45:=by rfl
theorem Γ47:Γ 47=some f47:=by rfl
theorem Γ48:Γ 48=some f48:=by rfl
theorem Γ49:Γ 49=some f49:=by rfl
theorem Γ51:Γ 51=some f51:=by rfl
theorem Γ56:Γ 56=some f56:=by rfl
theorem Γ57:Γ 57=some f57:=by rfl
theorem Γ60:Γ 60=some f60:=by rfl
theorem Γ61:Γ 61=some f61:=by rfl
theorem Γ62:Γ 62=some f62:=by rfl
theorem Γ64:Γ 64=some f64:=by rfl
theorem Γ65:Γ 65=some f65:=by rfl
theorem Γ67:Γ 67=some f67:=by rfl
theorem Γ68:Γ 68=some f68:=by rfl
theorem Γ70:Γ 70=some f70:=by rfl
theorem Γ71:Γ 71=some f71:=by rfl
theorem Γ72:Γ 72=some f72:=by rfl
theorem Γ73:Γ 73=some f73:=by rfl
theorem Γ74:Γ 74=some f74:=by rfl
theorem Γ75:Γ 75=some f75:=by rfl
theorem Γ76:Γ 76=some f76:=by rfl
theorem Γ77:Γ 77=some f77:=by rfl
theorem Γ78:Γ 78=some f78:=by rfl
theorem Γ79:Γ 79=some f79:=by rfl
theorem Γ80:Γ 80=some f80:=by rfl
theorem Γ81:Γ 81=some f81:=by rfl
theorem Γ82:Γ 82=some f82:=by rfl
theorem Γ83:Γ 83=some f83:=by rfl
theorem Γ84:Γ 84=some f84:=by rfl
theorem Γ85:Γ 85=some f85:=by rfl
theorem Γ86:Γ 86=some f86:=by rfl
theorem Γ87:Γ 87=some f87:=by rfl
theorem Γ88:Γ 88=some f88:=by rfl
theorem Γ89:Γ 89=some f89:=by rfl
theorem Γ91:Γ 91=some f91:=by rfl
theorem Γ92:Γ 92=some f92:=by rfl
theorem Γ95:Γ 95=some f95:=by rfl
theorem Γ96:Γ 96=some f96:=by rfl
theorem Γ97:Γ 97=some f97:=by rfl
theorem Γ98:Γ 98=some f98:=by rfl
theorem Γ99:Γ 99=some f99:=by rfl
theorem Γ100:Γ 100=some f100:=by rfl
theorem Γ101:Γ 101=some f101:=by rfl
theorem Γ102:Γ 102=some f102:=by rfl
theorem Γ103:Γ 103=some f103:=by rfl
theorem Γ104:Γ 104=some f104:=by rfl
theorem Γ105:Γ 105=some f105:=by rfl
theorem Γ106:Γ 106=some f106:=by rfl
theorem Γ107:Γ 107=some f107:=by rfl
theorem Γ108:Γ 108=some f108:=by rfl
theorem Γ109:Γ 109=some f109:=by rfl
theorem Γ110:Γ 110=some f110:=by rfl
theorem Γ111:Γ 111=some f111:=by rfl
theorem Γ112:Γ 112=some f112:=by rfl
theorem Γ113:Γ 113=some f113:=by rfl
theorem Γ114:Γ 114=some f114:=by rfl
theorem Γ115:Γ 115=some f115:=by rfl
theorem Γ116:Γ 116=some f116:=by rfl
theorem Γ126:Γ 126=some f126:=by rfl
theorem Γ131:Γ 131=some f131:=by rfl
theorem Γ132:Γ 132=some f132:=by rfl
theorem Γ133:Γ 133=some f133:=by rfl
theorem Γ134:Γ 134=some f134:=by rfl
theorem Γ135:Γ 135=some f135:=by rfl
theorem Γ136:Γ 136=some f136:=by rfl
theorem Γ137:Γ 137=some f137:=by rfl
theorem Γ138:Γ 138=some f138:=by rfl
theorem Γ144:Γ 144=some f144:=by rfl
theorem Γ145:Γ 145=some f145:=by rfl
theorem Γ146:Γ 146=some f146:=by rfl
theorem Γ147:Γ 147=some f147:=by rfl
theorem Γ148:Γ 148=some f148:=by rfl
theorem Γ149:Γ 149=some f149:=by rfl
theorem Γ150:Γ 150=some f150:=by rfl
theorem Γ151:Γ 151=some f151:=by rfl
theorem Γ152:Γ 152=some f152:=by rfl
theorem Γ153:Γ 153=some f153:=by rfl
theorem Γ154:Γ 154=some f154:=by rfl
theorem Γ155:Γ 155=some f155:=by rfl
theorem Γ156:Γ 156=some f156:=by rfl
theorem Γ157:Γ 157=some f157:=by rfl
theorem Γ158:Γ 158=some f158:=by rfl
theorem Γ159:Γ 159=some f159:=by rfl
theorem Γ161:Γ 161=some zrO:=by rfl
theorem Γ162:Γ 162=some zrN:=by rfl
theorem Γ163:Γ 163=some zrM:=by rfl
theorem Γ164:Γ 164=some zrL:=by rfl
theorem Γ165:Γ 165=some zrK:=by rfl
theorem Γ166:Γ 166=some f166:=by rfl
theorem Γ179:Γ 179=some f179:=by rfl
theorem Γ180:Γ 180=some f180:=by rfl
theorem Γ187:Γ 187=some f187:=by rfl
theorem Γ188:Γ 188=some f188:=by rfl
theorem Γ189:Γ 189=some f189:=by rfl
theorem Γ190:Γ 190=some f190:=by rfl
theorem Γ191:Γ 191=some f191:=by rfl
theorem Γ192:Γ 192=some f192:=by rfl
theorem Γ195:Γ 195=some zBD:=by rfl
theorem Γ196:Γ 196=some zBC:=by rfl
theorem Γ198:Γ 198=some zs0:=by rfl
theorem Γ199:Γ 199=some zBu:=by rfl
theorem Γ200:Γ 200=some f200:=by rfl
theorem Γ201:Γ 201=some f201:=by rfl
theorem Γ202:Γ 202=some f202:=by rfl
theorem Γ203:Γ 203=some f203:=by rfl
theorem Γ205:Γ 205=some f205:=by rfl
theorem Γ206:Γ 206=some f206:=by rfl
theorem Γ207:Γ 207=some f207:=by rfl
theorem Γ228:Γ 228=some f228:=by rfl
theorem Γ253:Γ 253=some zrJ:=by rfl
theorem Γ289:Γ 289=some zrI:=by rfl
theorem Γ299:Γ 299=some f299:=by rfl
theorem Γ300:Γ 300=some f300:=by rfl
theorem Γ301:Γ 301=some f301:=by rfl
theorem Γ307:Γ 307=some zrH:=by rfl
theorem Γ309:Γ 309=some zrG:=by rfl
theorem Γ310:Γ 310=some zqg:=by rfl
theorem Γ311:Γ 311=some zrF:=by rfl
theorem Γ312:Γ 312=some zrE:=by rfl
theorem Γ313:Γ 313=some zrD:=by rfl
theorem Γ314:Γ 314=some zrC:=by rfl
theorem Γ315:Γ 315=some zqf:=by rfl
theorem Γ316:Γ 316=some zrB:=by rfl
theorem Γ318:Γ 318=some zrA:=by rfl
theorem Γ319:Γ 319=some zrz:=by rfl
theorem Γ320:Γ 320=some zry:=by rfl
theorem Γ321:Γ 321=some zrx:=by rfl
theorem Γ322:Γ 322=some zrw:=by rfl
theorem Γ325:Γ 325=some zrv:=by rfl
theorem Γ400:Γ 400=some zBA:=by rfl
theorem Γ401:Γ 401=some zsZ:=by rfl
theorem Γ403:Γ 403=some zrr:=by rfl
theorem Γ404:Γ 404=some zrq:=by rfl
theorem Γ406:Γ 406=some zw4:=by rfl
theorem Γ408:Γ 408=some zw2:=by rfl
theorem Γ409:Γ 409=some zro:=by rfl
theorem Γ411:Γ 411=some zBy:=by rfl
theorem Γ412:Γ 412=some zsY:=by rfl
theorem Γ413:Γ 413=some zsX:=by rfl
theorem Γ415:Γ 415=some zrm:=by rfl
theorem Γ416:Γ 416=some zrl:=by rfl
theorem Γ417:Γ 417=some zrk:=by rfl
theorem Γ418:Γ 418=some zrj:=by rfl
theorem Γ419:Γ 419=some zsW:=by rfl
theorem Γ420:Γ 420=some zw1:=by rfl
theorem Γ421:Γ 421=some zw0:=by rfl
theorem Γ422:Γ 422=some zwZ:=by rfl
theorem Γ423:Γ 423=some zBx:=by rfl
theorem Γ424:Γ 424=some zri:=by rfl
theorem Γ425:Γ 425=some zrh:=by rfl
theorem Γ426:Γ 426=some zqe:=by rfl
theorem Γ427:Γ 427=some zrg:=by rfl
theorem Γ428:Γ 428=some zsV:=by rfl
theorem Γ429:Γ 429=some zrf:=by rfl
theorem Γ430:Γ 430=some zre:=by rfl
theorem Γ431:Γ 431=some zwY:=by rfl
theorem Γ432:Γ 432=some zwX:=by rfl
theorem Γ433:Γ 433=some zwW:=by rfl
theorem Γ434:Γ 434=some zrd:=by rfl
theorem Γ435:Γ 435=some zrc:=by rfl
theorem Γ436:Γ 436=some zrb:=by rfl
theorem Γ437:Γ 437=some zra:=by rfl
theorem Γ438:Γ 438=some zq9:=by rfl
theorem Γ439:Γ 439=some zq8:=by rfl
theorem Γ440:Γ 440=some zq7:=by rfl
end Rg
end
section
namespace Rg
open Go Go.Sort Go.Shelf
theorem intsOf_get: ∀{rs:List (List V)} {zs:List Int},intsOf rs=some zs->rs.length=zs.length/\ ∀(i:Nat) (z:Int),zs[i]? =some z->rs[i]? =some [.t (.int .i64 z)]
 | [],zs,h=>by simp only[intsOf,zA]at h;subst h;simp
 | row::r,zs,h=>by
   unfold intsOf at h;split at h
   ·rename_i h0;simp at h0
   ·rename_i z r' h0;simp only[List.cons.injEq]at h0;obtain⟨rfl,rfl⟩:=h0;rw[zE]at h;obtain⟨zs',hz,rfl⟩:=h;obtain⟨h1,h2⟩:=intsOf_get hz;refine⟨by simp[h1],fun i z' hi=> ?_⟩
    cases i with
    | zero=>simp at hi;subst hi;rfl
    | succ i=>simpa using h2 i z' (by simpa using hi)
   ·cases h
theorem zgU (c:Array Value) (ys:List Int) (j:Nat):(putCells (Value.int .i64) 0 ys.toArray c)[j]? =(c[j]?).map fun x=>match ys[j]? with | some y=>Value.int .i64 y | none=>x:=by
 unfold putCells;rw[Array.getElem?_mapIdx]
 cases hc:c[j]? with
 | none=>rfl
 | some x=>
   simp only[Option.map_some,zA]
   by_cases hj:j<ys.length
   ·rw[if_pos (by simp[hj]),zI hj];simp[hj]
   ·rw[if_neg (by simp;omega),List.getElem?_eq_none (by omega)]
theorem zd1 (w:World) (q b:Nat) (ys:List Int) (r:Nat) (x:TypeId×Nat) (hx:w.shape? r=some x):(putRow (Value.int .i64) (Sort.ahead w q) b 0 ys.toArray).shape? r=some x:=by
 unfold World.shape? at hx⊢;simp only[putRow,mapBlock,Sort.ahead,Array.getElem?_modify]
 by_cases h:b=r
 ·subst h;rw[if_pos rfl]
  cases ho:w.heap[b]? with
  | none=>rw[ho]at hx;cases hx
  | some o=>
    rw[ho]at hx
    cases o with
    | cells c e fr=>simpa[onCells,putCells]using hx
    | _=>cases hx
 ·rw[if_neg h];exact hx
section
variable {N:Nam} {c:Ctx} {A:Nat->Prop} {μ lam:Nat->Nat} {w:World} {H:Nat->Option O} {n:Nat}
theorem rel_putInts (R:Rel N c 0 A μ lam (.init [] H n) zaB w) {k:Nat} {rs:List (List V)} (hk:H k=some (.rows 1 rs false)) (ys:List Int) (hl:ys.length=rs.length) (q:Nat):
 Rel N c 0 A μ lam (.init [] (upd H k (some (.rows 1 (ofInts ys) false))) n) zaB (putRow (Value.int .i64) (Sort.ahead w q) (μ k) 0 ys.toArray):=by
 obtain⟨cc,e0,z,h1,h2,h3,h4,h5⟩:=R.heap k _ hk;have hz:=h2 rfl;subst hz
 have hget: ∀r,(putRow (Value.int .i64) (Sort.ahead w q) (μ k) 0 ys.toArray).heap[r]? =if μ k=r then(w.heap[r]?).map (onCells (putCells (Value.int .i64) 0 ys.toArray))else w.heap[r]? :=by
  intro r;simp only[putRow,mapBlock,Sort.ahead,Array.getElem?_modify]
 refine R.changeH (o':= .rows 1 (ofInts ys) false) hk ⟨rfl,by simp[ofInts,hl]⟩ rfl (by simp) (by simp) rfl ?_ ?_ ?_ ?_ ⟨rfl,rfl⟩
 ·simp[putRow,mapBlock,Sort.ahead]
 ·intro r hr;rw[hget,if_neg (fun h=>hr h.symm)]
 ·exact fun r x hx=>zd1 w q (μ k) ys r x hx
 ·intro E;refine⟨putCells (Value.int .i64) 0 ys.toArray cc,e0,(0,0),?_,fun _=>rfl,?_,?_,?_⟩
  ·rw[hget,if_pos rfl,h1];rfl
  ·have:(putCells (Value.int .i64) 0 ys.toArray cc).size=cc.size:=by simp[putCells]
   rw[this];simp[ofInts,hl];omega
  ·intro i row hi;simp only[ofInts,zJ,zE]at hi;obtain⟨y,_,rfl⟩:=hi;rfl
  ·intro i row j x hi hj;simp only[ofInts,zJ,zE]at hi;obtain⟨y,hy,rfl⟩:=hi
   have hj0:j=0:=by
    have:=(zH.1 hj).1;simp at this;exact this
   subst hj0;simp only[List.getElem?_cons_zero,zA]at hj;subst hj;have hlt:i<ys.length:=(zH.1 hy).1;obtain⟨row,hrow⟩: ∃row,rs[i]? =some row:=⟨_,zI (by omega)⟩
   have hrl:=h4 i row hrow;obtain⟨x0,hx0⟩: ∃x0,row[0]? =some x0:=⟨_,zI (by omega)⟩
   obtain⟨v,hv,_⟩:=h5 i row 0 x0 hrow hx0;refine⟨.int .i64 y,?_,.t (.int _ _)⟩;rw[zgU,hv];simp[hy]
theorem zmJ (R:Rel N c 0 A μ lam (.init [] H n) zaB w) (os:Array Obj):Rel N c 0 A μ lam (.init [] H n) zaB (grow w os):=by
 have hget: ∀r,r<w.heap.size->(grow w os).heap[r]? =w.heap[r]? :=fun r hr=>by simp[grow,Array.getElem?_append,hr]
 refine R.world (by simp[grow]) ?_ ?_ ?_ (Marks.nil _ _ _) ⟨rfl,rfl⟩
 ·rintro r (h | h | ⟨k,o,hk,hl,rfl⟩)
  ·exact hget r (R.alt r h)
  ·obtain⟨t,ht,_⟩:=h;simp[St.init]at ht
  ·exact hget _ (R.lt_live hk hl)
 ·intro r hr _;exact hget r (Nat.lt_of_lt_of_le hr R.csize)
 ·intro r x hx;unfold World.shape? at hx⊢
  by_cases hr:r<w.heap.size
  ·rw[hget r hr];exact hx
  ·rw[Array.getElem?_eq_none (by omega)]at hx;cases hx
theorem rel_below (R:Rel N c 0 A μ lam (.init [] H n) zaB w) {w':World} (hb:Go.RowKit.Below w.heap.size w w'):Rel N c 0 A μ lam (.init [] H n) zaB w':=by
 refine R.world hb.size ?_ ?_ ?_ (Marks.nil _ _ _) ⟨hb.os,hb.output⟩
 ·rintro r (h | h | ⟨k,o,hk,hl,rfl⟩)
  ·exact hb.block r (R.alt r h)
  ·obtain⟨t,ht,_⟩:=h;simp[St.init]at ht
  ·exact hb.block _ (R.lt_live hk hl)
 ·intro r hr _;exact hb.block r (Nat.lt_of_lt_of_le hr R.csize)
 ·intro r x hx;unfold World.shape? at hx⊢
  by_cases hr:r<w.heap.size
  ·rw[hb.block r hr];exact hx
  ·rw[Array.getElem?_eq_none (by omega)]at hx;cases hx
theorem ziL (R:Rel N c 0 A μ lam (.init [] H n) zaB w) {k len:Nat} {rs:List (List V)} {zs:List Int} (hk:H k=some (.rows 1 rs false)) (hz:intsOf rs=some zs) (hl:zs.length=len)
 {v:Value} (hv:RepV w A N.nm μ H v (.ms k 0 len)):
 ∃a cap,v= .slice a zs.length cap/\zs.length<=cap/\(zs=[]\/a=some ⟨μ k,0,none⟩)/\Holds (Value.int .i64) w (μ k) 0 zs.toArray/\μ k<w.heap.size/\(cap=0\/(a=some ⟨μ k,0,none⟩/\ ∃e m,w.shape? (μ k)=some (e,m)/\cap<=m)):=by
 obtain⟨i1,i2⟩:=intsOf_get hz;obtain⟨cc,e0,z,h1,h2,h3,h4,h5⟩:=R.heap k _ hk;have hzz:=h2 rfl;subst hzz;have hlt:μ k<w.heap.size:=R.lt_live hk rfl
 have hH:Holds (Value.int .i64) w (μ k) 0 zs.toArray:=by
  intro j hj;have hj':j<zs.length:=by simpa using hj
  refine⟨?_,by simp[World.frozen?,h1]⟩;have hzj:zs[j]? =some zs[j]:=zI hj';obtain⟨u,hu,hr⟩:=h5 j _ 0 _ (i2 j _ hzj) rfl
  cases hr with
  | t hr=>
    cases hr;simp only[World.cell?,h1,Nat.zero_add];simp only[Nat.mul_one,Nat.add_zero]at hu;simp[hu,hj']
 have hv1:RepC w A N.nm μ H v (.ms k 0 len):=hv
 cases hv1 with
 | ms _ _ _ cap sz rs' frz a hk' hi hc ha=>
   rw[hk]at hk';cases hk';subst hl;refine⟨a,cap,rfl,by omega,?_,hH,hlt,?_⟩
   ·rcases ha with h0 | ⟨rfl,_⟩
    ·exact .inl (List.eq_nil_of_length_eq_zero (by omega))
    ·exact .inr (by simp)
   ·rcases ha with h0 | ⟨rfl,e,m,hs,hm⟩
    ·exact .inl h0
    ·exact .inr ⟨by simp,e,m,hs,by omega⟩
 | dms _ _ _ hk' _=>rw[hk]at hk';cases hk'
end
theorem zch {w:World} {A:Nat->Prop} {nm μ:Nat->Nat} {H:Nat->Option O} {vs:Array Value} {x:V} (h:zaT w A nm μ H vs [x]): ∃v,vs= #[v]/\RepV w A nm μ H v x:=by
 obtain⟨h1,h2⟩:=h;obtain⟨v,hv,hr⟩:=h2 0 x rfl;refine⟨v,?_,hr⟩;apply Array.ext_getElem?;intro i
 cases i with
 | zero=>simpa using hv
 | succ i=>rw[Array.getElem?_eq_none (by simp at h1;omega),Array.getElem?_eq_none (by simp)]
theorem zpv {H:Nat->Option O} {k:Nat} {o:O} (h:H k=some o):upd H k (some o)=H:=by
 funext j;unfold upd;split
 ·rename_i e;rw[e,h]
 ·rfl
theorem zfG {rs:List (List V)} (h:intsOf rs=some []):rs=[]:=List.eq_nil_of_length_eq_zero (by simpa using(intsOf_get h).1)
theorem znj {P:Program} {N:Nam} {g:Nat} {ρ:Ren} (Ly:Go.Proofs.Lays.n189 P ρ) (hf:ρ.f 189=N.nm g) {rf:Func} (hr:Real P (N.nm g) rf):zjY P N g .sortI:=by
 refine⟨⟨rf,hr⟩,fun args H n r H' n' h c A μ lam w vs R ha=> ?_,fun _ _ h=>by simp[extPure]at h⟩;rw[<- hf];unfold extSem at h;split at h
 all_goals(try contradiction)
 ·cases h;obtain⟨v,rfl,hv⟩:=zch ha;cases hv.t_inv;refine(Go.Proofs.Any.slices_Sort_int_none Ly _ _ w).mono ?_;rintro e w' ⟨rfl,rfl⟩;exact⟨_,A,μ,lam,rfl,R,⟨#[],rfl,rfl,by simp⟩⟩
 ·rename_i k len _;split at h
  ·rename_i rs hk;simp only[zB]at h;obtain⟨zs,hz,h⟩:=h;split at h
   ·rename_i hl;cases h;obtain⟨v,rfl,hv⟩:=zch ha;obtain⟨a,cap,rfl,hc,hor,hH,hlt,_⟩:=ziL R hk hz hl.1 hv
    by_cases h0:zs=[]
    ·subst h0;refine(Go.Proofs.Any.slices_Sort_int_none Ly _ _ w).mono ?_;rintro e w' ⟨rfl,rfl⟩;have hrs:=zfG hz;subst hrs;refine⟨_,A,μ,lam,rfl,?_,⟨#[],rfl,rfl,by simp⟩⟩;rw[List.mergeSort_nil,show ofInts []=[]from rfl,zpv hk];exact R
    ·obtain rfl:=hor.resolve_left h0;refine(Go.Proofs.Any.slices_Sort_int Ly (μ k) 0 cap zs w hH hlt (by omega)).mono ?_;rintro e w' ⟨rfl,q,os,rfl⟩;refine⟨_,A,μ,lam,rfl,zmJ (rel_putInts R hk _ ?_ q) os,⟨#[],rfl,rfl,by simp⟩⟩;rw[List.length_mergeSort,(intsOf_get hz).1]
   ·cases h
  ·cases h
theorem zjL (zs:List Int):(Go.Lib.compact zs).length<=zs.length:=by
 unfold Go.Lib.compact Go.Lib.compactUpTo;rw[List.length_map];exact Nat.le_trans (List.length_filter_le _ _) (by simp)
theorem ziQ (H:Nat->Option O) (d:Nat): ∀l:List Int,(ofInts l).mapM (fun row=>row.mapM (toT H d))=some (l.map fun z=>[T.int .i64 z])
 | []=>rfl
 | z::l=>by
   have e:ofInts (z::l)=[.t (.int .i64 z)]::ofInts l:=rfl;have e1:toT H d (.t (.int .i64 z))=some (.int .i64 z):=by cases d<;>rfl
   rw[e,List.mapM_cons,ziQ H d l];simp only[List.mapM_cons,List.mapM_nil,e1];rfl
theorem zfF (H:Nat->Option O) (d:Nat): ∀l:List Int,(ofInts l).flatMap (fun row=>row.flatMap (reach H d))=[]
 | []=>rfl
 | z::l=>by
   have e:ofInts (z::l)=[.t (.int .i64 z)]::ofInts l:=rfl;have e1:reach H d (.t (.int .i64 z))=[]:=by cases d<;>rfl
   rw[e,List.flatMap_cons,zfF H d l];simp only[List.flatMap_cons,List.flatMap_nil,e1];rfl
theorem zj1 {H:Nat->Option O} (k:Nat) (a b:Option O):upd (upd H k a) k b=upd H k b:=by
 funext j;unfold upd;split<;>rfl
theorem zh9 {P:Program} {N:Nam} {g:Nat} {ρ:Ren} (Ly:Go.Proofs.Lays2.n20 P ρ) (hf:ρ.f 20=N.nm g) {rf:Func} (hr:Real P (N.nm g) rf):zjY P N g .compactI:=by
 refine⟨⟨rf,hr⟩,fun args H n r H' n' h c A μ lam w vs R ha=> ?_,fun _ _ h=>by simp[extPure]at h⟩;rw[<- hf];unfold extSem at h;split at h
 all_goals(try contradiction)
 ·cases h;obtain⟨v,rfl,hv⟩:=zch ha;cases hv.t_inv;refine(Go.Proofs.Any.slices_Compact_int_empty Ly _ _ w).mono ?_;rintro e w' ⟨rfl,rfl⟩;exact⟨_,A,μ,lam,rfl,R,(RepC.t (.sl0 _ _)).toV⟩
 ·rename_i k len _;split at h
  ·rename_i rs hk;simp only[zB]at h;obtain⟨zs,hz,h⟩:=h;split at h
   ·rename_i hl;cases h;obtain⟨v,rfl,hv⟩:=zch ha;obtain⟨a,cap,rfl,hc,hor,hH,hlt,hcap⟩:=ziL R hk hz hl.1 hv;have hcl:=zjL zs
    by_cases h0:zs=[]
    ·subst h0;refine(Go.Proofs.Any.slices_Compact_int_empty Ly _ _ w).mono ?_;rintro e w' ⟨rfl,rfl⟩;have hrs:=zfG hz;subst hrs;exact⟨_,_,μ,lam,rfl,R.freeze hk,(RepC.t (.sl0 _ _)).toV⟩
    ·obtain rfl:=hor.resolve_left h0;refine(Go.Proofs.Any.slices_Compact_int Ly (μ k) 0 cap zs w hH (by omega) hc).mono ?_;rintro e w' ⟨rfl,q,rfl⟩
     have hlen:(Go.Lib.compact zs++List.replicate (zs.length-(Go.Lib.compact zs).length) 0).length=rs.length:=by
      rw[List.length_append,List.length_replicate,(intsOf_get hz).1];omega
     have R1:=rel_putInts R hk _ hlen q;have R2:Rel N c 0 (fun r=>A r\/r=μ k) μ lam (.init [] (upd (upd H k (some (.rows 1 (ofInts (Go.Lib.compact zs++List.replicate (zs.length-(Go.Lib.compact zs).length) 0)) false))) k (some (.rows 1 (ofInts (Go.Lib.compact zs++List.replicate (zs.length-(Go.Lib.compact zs).length) 0)) true))) n) zaB _:=R1.freeze (k:=k) (upd_same _ _ _);rw[zj1]at R2;refine⟨_,_,μ,lam,rfl,R2,?_⟩
     have hcap0:cap≠0:=by
      intro hcc;exact h0 (List.eq_nil_of_length_eq_zero (by omega))
     obtain⟨_,e,m,hs,hm⟩:=hcap.resolve_left hcap0
     have hrep:RepC (putRow (Value.int .i64) (Sort.ahead w q) (μ k) 0 (Go.Lib.compact zs++List.replicate (zs.length-(Go.Lib.compact zs).length) 0).toArray) A N.nm μ (upd H k (some (.rows 1 (ofInts (Go.Lib.compact zs++List.replicate (zs.length-(Go.Lib.compact zs).length) 0)) false))) (.slice (some ⟨μ k,0,none⟩) (Go.Lib.compact zs).length cap) (.ms k 0 (Go.Lib.compact zs).length):=by
      refine .ms k 0 _ cap 1 _ false _ (upd_same _ _ _) ?_ (by have e1:=(intsOf_get hz).1;simp only[ofInts,List.length_map,hlen];omega) (.inr ⟨by simp,e,m,?_,by omega⟩)
      ·simp only[ofInts,List.length_map,hlen,(intsOf_get hz).1];omega
      ·exact zd1 w q (μ k) _ _ _ hs
     have hrd:rd (ofInts (Go.Lib.compact zs++List.replicate (zs.length-(Go.Lib.compact zs).length) 0)) 0 (Go.Lib.compact zs).length=some (ofInts (Go.Lib.compact zs)):=by
      unfold rd;rw[if_pos (by simp[ofInts]),List.drop_zero];simp[ofInts,List.map_append]
     have hT:toT (upd H k (some (.rows 1 (ofInts (Go.Lib.compact zs++List.replicate (zs.length-(Go.Lib.compact zs).length) 0)) false))) 1000 (.ms k 0 (Go.Lib.compact zs).length)=some (.sl ((Go.Lib.compact zs).map fun z=>[.int .i64 z])):=by
      simp only[toT,upd_same,hrd,zC,zD,ziQ]
     have hR:reach (upd H k (some (.rows 1 (ofInts (Go.Lib.compact zs++List.replicate (zs.length-(Go.Lib.compact zs).length) 0)) false))) 1000 (.ms k 0 (Go.Lib.compact zs).length)=[k]:=by
      simp only[reach,upd_same,zfF]
     have hrt:=toT_rep R1.heap 1000 _ _ _ hT hrep;refine(RepC.t (hrt.mono (fun _ _=>rfl) ?_)).toV;rintro r (h | ⟨k',hk',_,rfl⟩)
     ·exact .inl h
     ·have h1:k'∈ [k]:=by rw[<- hR];exact hk'
      rw[List.mem_singleton]at h1;subst h1;exact .inr rfl
   ·cases h
  ·cases h
theorem Rel.more {N:Nam} {c:Ctx} {A:Nat->Prop} {μ lam:Nat->Nat} {w:World} {H:Nat->Option O} {n:Nat} (R:Rel N c 0 A μ lam (.init [] H n) zaB w) {m:Nat} (hm:n<=m):Rel N c 0 A μ lam (.init [] H m) zaB w:=
 { R with fresh:=fun k hk=>R.fresh k (Nat.le_trans hm hk) }
theorem zhZ {es:List (List T)} {zs:List Int} (h:intsOf (es.map (·.map V.t))=some zs):es.length=zs.length/\ ∀(i:Nat) (z:Int),zs[i]? =some z->es[i]? =some [.int .i64 z]:=by
 obtain⟨h1,h2⟩:=intsOf_get h;refine⟨by simpa using h1,fun i z hi=> ?_⟩;have:=h2 i z hi;rw[zJ,zE]at this;obtain⟨e,he,h3⟩:=this
 match e,h3 with
 | [],h3=>simp at h3
 | [x],h3=>simp only[List.map_cons,List.map_nil,List.cons.injEq,V.t.injEq,and_true]at h3;rw[he,h3]
 | _::_::_,h3=>simp at h3
theorem zlC {P:Program} {N:Nam} {g:Nat} {ρ:Ren} (Ly:Go.Proofs.Lays2.n15 P ρ) (hf:ρ.f 15=N.nm g) {rf:Func} (hr:Real P (N.nm g) rf):zjY P N g .cloneI:=by
 refine⟨⟨rf,hr⟩,fun args H n r H' n' h c A μ lam w vs R ha=> ?_,fun _ _ h=>by simp[extPure]at h⟩;rw[<- hf]
 have empty: ∀(a:Option Addr) (cap:Nat),Calls P (ρ.f 15) #[.slice a 0 cap] w fun e w'=> ∃v A' μ' lam',e= .returned v/\Rel N c 0 A' μ' lam' (.init [] H n) zaB w'/\RepV w' A' N.nm μ' H v (.t (.sl [])):=by
  intro a cap
  cases a with
  | none=>
    refine(Go.Proofs.Any.slices_Clone_int_nil Ly _ _ w).mono ?_;rintro e w' ⟨rfl,rfl⟩
    exact⟨_,A,μ,lam,rfl,R,(RepC.t (.sl0 _ _)).toV⟩
  | some a=>
    refine(Go.Proofs.Any.slices_Clone_int_zero Ly a cap w).mono ?_;rintro e w' ⟨v',rfl,ho,_,hb⟩;have R1:Rel N c 0 A μ lam (.init [] H n) zaB w':=rel_below R hb;refine⟨_,A,μ,lam,rfl,R1,?_⟩;rcases ho.2 with⟨rfl,_⟩ | ⟨g,cp,cur,rfl,_⟩
    ·exact(RepC.t (.sl0 _ _)).toV
    ·exact(RepC.t (.sl0 _ _)).toV
 unfold extSem at h;split at h
 all_goals(try contradiction)
 ·cases h;obtain⟨v,rfl,hv⟩:=zch ha;cases hv.t_inv;exact empty _ _
 ·cases h;obtain⟨v,rfl,hv⟩:=zch ha
  cases hv.t_inv with
  | sl0 a cap=>exact empty _ _
  | sl r off cap sz es vf h0=>exact absurd h0 (by simp)
 ·rename_i es hne;simp only[zB]at h;obtain⟨zs,hz,h⟩:=h;split at h
  ·rename_i hl;cases h;obtain⟨v,rfl,hv⟩:=zch ha;obtain⟨i1,i2⟩:=zhZ hz
   cases hv.t_inv with
   | sl0 a cap=>simp_all
   | sl r0 off cap sz es vf h0 hc hA hs hvv hrr=>
     have hcell: ∀j,j<zs.length->w.cell? ⟨r0,off+j,none⟩=some (.int .i64 (zs.getD j 0)):=by
      intro j hj;have hzj:zs[j]? =some zs[j]:=zI hj;have hej:=i2 j _ hzj;have h1:=hs j _ hej;simp at h1;subst h1;have h2:=hvv j _ 0 _ hej rfl;have h3:=hrr j _ 0 _ hej rfl;cases h3':vf j 0<;>rw[h3']at h3<;>cases h3
      rw[h3']at h2;simpa[hj]using h2
     rw[i1];refine(Go.Proofs.Any.slices_Clone_int Ly r0 off zs.length cap zs w (Nat.le_refl _) (by omega) hcell).mono ?_;rintro e w' ⟨v',rfl,ho,_,hb⟩;have R1:Rel N c 0 A μ lam (.init [] H (n+1)) zaB w':=(rel_below R hb).more (Nat.le_succ _);rcases ho.2 with⟨_,h00⟩ | ⟨g0,cp,cur,rfl,hg,hcur,hcp,_,hsz,htk⟩
     ·omega
     ·have hsz1:cur.size=cp:=by simpa using hsz
      rw[List.take_length,Nat.mul_one]at htk
      have R2:=R1.adoptH (k:=n) (r:=g0) (o:=.rows 1 (ofInts zs) false) (R.fresh n (Nat.le_refl _)) (Nat.lt_succ_self _) ⟨fun h=>Nat.lt_irrefl _ (Nat.lt_of_lt_of_le (R.alt _ h) hg),fun t ht=>by simp[St.init]at ht,fun k o hk hlv e=>by
       have:=R.lt_live hk hlv
       omega,.inr (Nat.le_trans R.csize hg)⟩ ⟨cur,_,(0,0),hcur,fun _=>rfl,by simp[ofInts];omega,fun i row hi=>by
       simp only[ofInts,zJ,zE]at hi;obtain⟨y,_,rfl⟩:=hi;rfl,fun i row j x hi hj=>by
       simp only[ofInts,zJ,zE]at hi;obtain⟨y,hy,rfl⟩:=hi
       have hj0:j=0:=by
        have:=(zH.1 hj).1;simp at this;exact this
       subst hj0;simp only[List.getElem?_cons_zero,zA]at hj;subst hj;refine⟨.int .i64 y,?_,.t (.int _ _)⟩;have hlt:i<zs.length:=(zH.1 hy).1;have h5:(cur.toList.take zs.length)[i]? =some (.int .i64 y):=by rw[htk,zJ,hy];rfl
       rw[List.getElem?_take,if_pos hlt,Array.getElem?_toList]at h5
       simpa using h5⟩ (by simp)
      refine⟨_,A,_,lam,rfl,R2,?_⟩;refine RepC.toV (.ms n 0 zs.length cp 1 (ofInts zs) false _ (upd_same _ _ _) (by simp[ofInts]) (by simp[ofInts];omega) (.inr ⟨?_,ρ.t 3,cur.size,?_,by omega⟩))
      ·rw[upd_same]
      ·rw[upd_same];unfold World.shape?;rw[hcur]
  ·cases h
end Rg
end
section
namespace Rg
open Go Go.Proofs Go.Shelf Go.RowKit Go.Lib
variable {P:Program} {ρ:Ren}
set_option maxHeartbeats 2000000 in
set_option maxRecDepth 100000 in
theorem clone_any (L:SlLaysE0.n41 P ρ) {i0:TypeInfo} {z:Value} {size bytes:Nat} (hi:P.info? (ρ.t 23)=some i0) (hz0:i0.zero=some z) (hz1:i0.size=size) (hz2:i0.bytes=bytes) (hzs:z.cells.size=size) (hsz:0<size)
 (z23: ∀w,(Go.sizeOf (ρ.t 23)).run P w= .ok size w) (ad:Addr) (n c:Nat) (news:List Value) (w:World) (hl:news.length=n*size) (hn:n<=maxLen) (hbig:n*bytes<=140737488355328)
 (hc: ∀j u,news[j]? =some u->w.cell? (ad.add j)=some u) (h1: ∀u∈news,u.oneCell'=true):
 Calls P (ρ.f 41) #[.slice (some ad) n c] w fun e w'=> ∃v',e= .returned v'/\w'.ownsRow w.heap.size (ρ.t 23) size v' n news/\Below w.heap.size w w':=by
 have mixed:=L.mixed;have t4:=L.t4;have a4:=L.a4;have z4:=L.z4;have v4:=L.v4;have t22:=L.t22;have a22:=L.a22;have z22:=L.z22;have v22:=L.v22;have q22: ∀(w:World) (a:Option Addr) (n c n' c':Nat),(binOp .eql (ρ.t 22) (.slice a n c) (.slice none n' c')).run P w= .ok (.bool a.isNone) w:=fun w a n c n' c'=>Lib.run_eql_slice_nil w _ _ a n c n' c' L.t22
 have u22: ∀w,Sem.run P (underlying (ρ.t 22)) w= .ok (TypeDesc.slice (ρ.t 23)) w:=run_underlying t22;have A:Aside (∀j u,news[j]? =some u->w.cell? (ad.add j)=some u):=hc;clear hc;obtain⟨_,_,FG⟩:=L.f41
 go_enter FG,SlBodyN.n41_ntmps ρ
 go_wp2_with (at_builtin;refine wpList_append_own _ rfl _ _ (ρ.t 22) rfl w.heap.size (ρ.t 23) i0 z size bytes t22 hi hz0 hz1 hz2 hzs hsz _ _ _ rfl (World.ownsRow_made w #[] 0 (Nat.le_refl _) (Nat.zero_le _) (by simp)) ad n c news rfl ?qc1 ?qc2 ?qc3 ?qc4 ?qc5 ?qc6 ?_)
 case qc1=>exact hl
 case qc2=>exact fun j u hj=>Lib.cell?_alloc_some _ (A.out j u hj)
 case qc3=>exact h1
 case qc4=>rw[Nat.zero_add];exact hn
 case qc5=>rw[Nat.zero_add];exact hbig
 case qc6=>simp
 intro v' w1 hown hgrow hnil
 go_wp2
 go_ret
 refine⟨v',rfl,by simpa using hown,?_⟩;exact((Below.refl _ w).alloc (Nat.le_refl _) _).grown hgrow (by simp) (by intro k hk;simp[Value.ownBlock]at hk;omega)
theorem zfN {N:Nam} {g:Nat} (L:SlLaysE0.n41 P ρ) {i0:TypeInfo} {z:Value} {size bytes:Nat} (hi:P.info? (ρ.t 23)=some i0) (hz0:i0.zero=some z) (hz1:i0.size=size) (hz2:i0.bytes=bytes) (hzs:z.cells.size=size) (hsz:0<size)
 (z23: ∀w,(Go.sizeOf (ρ.t 23)).run P w= .ok size w) (hby:bytes<=32768) (hf:ρ.f 41=N.nm g) {rf:Func} (hr:Real P (N.nm g) rf):zjY P N g (.cloneT size):=by
 refine⟨⟨rf,hr⟩,fun args H n r H' n' h=>by simp[extSem]at h,fun args r h=> ?_⟩;intro A w vs hA hgl ha;rw[<- hf]
 have empty: ∀(a:Option Addr) (cap:Nat),Calls P (ρ.f 41) #[.slice a 0 cap] w fun e w'=> ∃v,e= .returned v/\(w'.os=w.os/\w'.output=w.output)/\w.heap.size<=w'.heap.size/\(∀q,q<w.heap.size->w'.heap[q]? =w.heap[q]?)/\
  RepV w' (fun q=>A q\/(w.heap.size<=q/\q<w'.heap.size)) N.nm (fun _=>0) (fun _=>none) v (.t (.sl [])):=by
  intro a cap
  cases a with
  | none=>
    refine(AnyE.slices_Clone_nil L 0 cap w).mono ?_;rintro e w' ⟨rfl,rfl⟩
    exact⟨_,rfl,⟨rfl,rfl⟩,Nat.le_refl _,fun _ _=>rfl,(RepC.t (.sl0 _ _)).toV⟩
  | some a=>
    refine(clone_any L hi hz0 hz1 hz2 hzs hsz z23 a 0 cap [] w (by simp) (by omega) (by omega) (fun j u h=>by simp at h) (fun u h=>by simp at h)).mono ?_;rintro e w' ⟨v',rfl,ho,hb⟩;refine⟨_,rfl,⟨hb.os,hb.output⟩,hb.size,hb.block,?_⟩;rcases ho.2 with⟨rfl,_⟩ | ⟨g,cp,cur,rfl,_⟩
    ·exact(RepC.t (.sl0 _ _)).toV
    ·exact(RepC.t (.sl0 _ _)).toV
 unfold extPure at h;split at h
 all_goals(try contradiction)
 ·cases h;obtain⟨v,rfl,hv⟩:=zch ha;cases hv.t_inv;exact empty _ _
 ·rename_i e0 sz0 es heq;cases heq;split at h
  ·rename_i hle;cases h;obtain⟨v,rfl,hv⟩:=zch ha
   cases hv.t_inv with
   | sl0 a cap=>exact empty _ _
   | sl r0 off cap sz es vf h0 hc hA0 hs hvv hrr=>
     have hrow: ∀(i:Nat) (e:List T),es[i]? =some e->e.length=size:=fun i e he=>by
      have:=List.all_eq_true.1 hle.2 e (List.mem_of_getElem? he);simpa using this
     have hsz2:sz=size:=by
      have h2:es[0]? =some es[0]:=zI h0;rw[<- hs 0 _ h2,hrow 0 _ h2]
     subst hsz2
     have hget: ∀q,q<es.length*sz-> ∃e x,es[q/ sz]? =some e/\e[q % sz]? =some x:=by
      intro q hq;have h1:q/ sz<es.length:=Nat.div_lt_of_lt_mul (by rw[Nat.mul_comm];exact hq);have h2:es[q/ sz]? =some es[q/ sz]:=zI h1;have h3:q % sz<(es[q/ sz]).length:=by rw[hrow _ _ h2];exact Nat.mod_lt _ hsz
      exact⟨_,_,h2,zI h3⟩
     have hnews: ∀(j:Nat) (u:Value),((List.range (es.length*sz)).map fun q=>vf (q/ sz) (q % sz))[j]? =some u->j<es.length*sz/\u=vf (j/ sz) (j % sz):=by
      intro j u hj;rw[zJ,zE]at hj;obtain⟨q,hq,rfl⟩:=hj;have hlt:=(zH.1 hq).1;rw[List.length_range]at hlt;rw[List.getElem?_range hlt]at hq;cases hq;exact⟨hlt,rfl⟩
     have hdm: ∀j,j/ sz*sz+j % sz=j:=fun j=>by rw[Nat.mul_comm];exact Nat.div_add_mod j sz
     have hle1:=hle.1;refine(clone_any L hi hz0 hz1 hz2 hzs hsz z23 ⟨r0,off,none⟩ es.length cap ((List.range (es.length*sz)).map fun q=>vf (q/ sz) (q % sz)) w (by simp) (by unfold maxLen;omega) ?_ ?_ ?_).mono ?_
     ·exact Nat.le_trans (Nat.mul_le_mul (Nat.le_of_lt hle1) hby) (by decide)
     ·intro j u hj;obtain⟨hlt,rfl⟩:=hnews j u hj;obtain⟨e,x,he,hx⟩:=hget j hlt;have:=hvv _ _ _ _ he hx;rw[Nat.add_assoc,hdm]at this;rw[za1];exact this
     ·intro u hu;obtain⟨j,hj⟩:=List.getElem?_of_mem hu;obtain⟨hlt,rfl⟩:=hnews j u hj;obtain⟨e,x,he,hx⟩:=hget j hlt;exact(hrr _ _ _ _ he hx).one
     ·rintro e w' ⟨v',rfl,ho,hb⟩;refine⟨_,rfl,⟨hb.os,hb.output⟩,hb.size,hb.block,?_⟩;rcases ho.2 with⟨rfl,h5⟩ | ⟨g,cp,cur,rfl,hg,hcur,hcp,_,hcs,htk⟩
      ·omega
      ·have hgl':g<w'.heap.size:=(Array.getElem?_eq_some_iff.1 hcur).1;refine(RepC.t (RepT.sl g 0 cp sz es vf h0 hcp (.inr ⟨hg,hgl'⟩) hs (fun i e j x he hx=> ?_) (fun i e j x he hx=> ?_))).toV
       ·have hil:=(zH.1 he).1;have hjl:=(zH.1 hx).1;rw[hs i e he]at hjl;have hq:i*sz+j<es.length*sz:=Nat.lt_of_lt_of_le (show i*sz+j<(i+1)*sz by rw[Nat.add_mul];omega) (Nat.mul_le_mul_right _ hil)
        have h6:((List.range (es.length*sz)).map fun q=>vf (q/ sz) (q % sz))[i*sz+j]? =some (vf i j):=by
         rw[zJ,List.getElem?_range hq,Option.map_some]
         congr 2
         ·rw[Nat.mul_comm,Nat.mul_add_div hsz,Nat.div_eq_of_lt hjl,Nat.add_zero]
         ·rw[Nat.mul_comm,Nat.mul_add_mod,Nat.mod_eq_of_lt hjl]
        rw[<- htk,List.getElem?_take]at h6;rw[if_pos hq,Array.getElem?_toList]at h6;simp only[World.cell?,hcur,Nat.zero_add,h6];rfl
       ·exact(hrr _ _ _ _ he hx).mono (fun r hr=>hb.block r (hA r hr)) (fun r hr=> .inl hr)
  ·cases h
end Rg
end
section
namespace Go.Proofs
open Go.Shelf
def Tryz.lays189_ren:Go.Shelf.Ren:=⟨fun | 189=>70 | 125=>118 | 257=>117 | 128=>169 | 129=>170 | 294=>160 | 295=>161 | 296=>162 | 297=>163 | 298=>164 | 299=>165 | 216=>166 | 300=>167 | 301=>168 | 328=>195 | 329=>196 | 330=>197 | 331=>198 | 332=>199 | 215=>200 | 343=>221 | n=>n,fun | 28=>44 | 3=>3 | 46=>183 | 0=>0 | 51=>222 | 53=>133 | 4=>4 | 183=>216 | 182=>215 | 131=>79 | 5=>5 | 9=>9 | 218=>243 | 222=>247 | 228=>259 | 229=>260 | n=>n,fun | n=>n⟩
theorem Tryz.lays189:Go.Proofs.Lays.n189 Tryz.prog Tryz.lays189_ren:={
 mixed:=by kernel_rfl
 f125:=Tryz.func118.trans (congrArg some (by kernel_rfl))
 f128:=Tryz.func169.trans (congrArg some (by kernel_rfl))
 f129:=Tryz.func170.trans (congrArg some (by kernel_rfl))
 f189:=Tryz.func70.trans (congrArg some (by kernel_rfl))
 f215:=Tryz.func200.trans (congrArg some (by kernel_rfl))
 f216:=Tryz.func166.trans (congrArg some (by kernel_rfl))
 f257:=Tryz.func117.trans (congrArg some (by kernel_rfl))
 f294:=Tryz.func160.trans (congrArg some (by kernel_rfl))
 f295:=Tryz.func161.trans (congrArg some (by kernel_rfl))
 f296:=Tryz.func162.trans (congrArg some (by kernel_rfl))
 f297:=Tryz.func163.trans (congrArg some (by kernel_rfl))
 f298:=Tryz.func164.trans (congrArg some (by kernel_rfl))
 f299:=Tryz.func165.trans (congrArg some (by kernel_rfl))
 f300:=Tryz.func167.trans (congrArg some (by kernel_rfl))
 f301:=Tryz.func168.trans (congrArg some (by kernel_rfl))
 f328:=Tryz.func195.trans (congrArg some (by kernel_rfl))
 f329:=Tryz.func196.trans (congrArg some (by kernel_rfl))
 f330:=Tryz.func197.trans (congrArg some (by kernel_rfl))
 f331:=Tryz.func198.trans (congrArg some (by kernel_rfl))
 f332:=Tryz.func199.trans (congrArg some (by kernel_rfl))
 f343:=Tryz.func221.trans (congrArg some (by kernel_rfl))
 t0:=Tryz.underlying0
 a0:=Tryz.isAgg0
 z0:=Tryz.sizeOf0
 v0:=Tryz.zeroValue0
 t3:=Tryz.underlying3
 a3:=Tryz.isAgg3
 z3:=Tryz.sizeOf3
 v3:=Tryz.zeroValue3
 t4:=Tryz.underlying4
 a4:=Tryz.isAgg4
 z4:=Tryz.sizeOf4
 v4:=Tryz.zeroValue4
 t5:=Tryz.underlying5
 a5:=Tryz.isAgg5
 z5:=Tryz.sizeOf5
 v5:=Tryz.zeroValue5
 t9:=Tryz.underlying9
 a9:=Tryz.isAgg9
 z9:=Tryz.sizeOf9
 v9:=Tryz.zeroValue9
 t28:=Tryz.underlying44
 a28:=Tryz.isAgg44
 z28:=Tryz.sizeOf44
 v28:=Tryz.zeroValue44
 t46:=Tryz.underlying183
 a46:=Tryz.isAgg183
 z46:=Tryz.sizeOf183
 v46:=Tryz.zeroValue183
 t51:=Tryz.underlying222
 a51:=Tryz.isAgg222
 z51:=Tryz.sizeOf222
 v51:=Tryz.zeroValue222
 t53:=Tryz.underlying133
 a53:=Tryz.isAgg133
 z53:=Tryz.sizeOf133
 v53:=Tryz.zeroValue133
 t131:=Tryz.underlying79
 a131:=Tryz.isAgg79
 z131:=Tryz.sizeOf79
 v131:=Tryz.zeroValue79
 t182:=Tryz.underlying215
 a182:=Tryz.isAgg215
 z182:=Tryz.sizeOf215
 v182:=Tryz.zeroValue215
 t183:=Tryz.underlying216
 a183:=Tryz.isAgg216
 z183:=Tryz.sizeOf216
 v183:=Tryz.zeroValue216
 t218:=Tryz.underlying243
 a218:=Tryz.isAgg243
 z218:=Tryz.sizeOf243
 v218:=Tryz.zeroValue243
 t222:=Tryz.underlying247
 a222:=Tryz.isAgg247
 z222:=Tryz.sizeOf247
 v222:=Tryz.zeroValue247
 t228:=Tryz.underlying259
 a228:=Tryz.isAgg259
 z228:=Tryz.sizeOf259
 v228:=Tryz.zeroValue259
 t229:=Tryz.underlying260
 a229:=Tryz.isAgg260
 z229:=Tryz.sizeOf260
 v229:=Tryz.zeroValue260 }
def Tryz.lays2n20_ren:Go.Shelf.Ren:=⟨fun | 20=>71 | n=>n,fun | 22=>44 | 3=>3 | 4=>4 | 0=>0 | n=>n,fun | n=>n⟩
theorem Tryz.lays2n20:Go.Proofs.Lays2.n20 Tryz.prog Tryz.lays2n20_ren:={
 mixed:=by kernel_rfl
 f20:=Tryz.func71.trans (congrArg some (by kernel_rfl))
 t0:=Tryz.underlying0
 a0:=Tryz.isAgg0
 z0:=Tryz.sizeOf0
 v0:=Tryz.zeroValue0
 t3:=Tryz.underlying3
 a3:=Tryz.isAgg3
 z3:=Tryz.sizeOf3
 v3:=Tryz.zeroValue3
 t4:=Tryz.underlying4
 a4:=Tryz.isAgg4
 z4:=Tryz.sizeOf4
 v4:=Tryz.zeroValue4
 t22:=Tryz.underlying44
 a22:=Tryz.isAgg44
 z22:=Tryz.sizeOf44
 v22:=Tryz.zeroValue44
 i3:=by kernel_rfl }
def Tryz.lays2n15_ren:Go.Shelf.Ren:=⟨fun | 15=>74 | n=>n,fun | 22=>44 | 3=>3 | 4=>4 | n=>n,fun | n=>n⟩
theorem Tryz.lays2n15:Go.Proofs.Lays2.n15 Tryz.prog Tryz.lays2n15_ren:={
 mixed:=by kernel_rfl
 f15:=Tryz.func74.trans (congrArg some (by kernel_rfl))
 t3:=Tryz.underlying3
 a3:=Tryz.isAgg3
 z3:=Tryz.sizeOf3
 v3:=Tryz.zeroValue3
 t4:=Tryz.underlying4
 a4:=Tryz.isAgg4
 z4:=Tryz.sizeOf4
 v4:=Tryz.zeroValue4
 t22:=Tryz.underlying44
 a22:=Tryz.isAgg44
 z22:=Tryz.sizeOf44
 v22:=Tryz.zeroValue44
 i3:=by kernel_rfl }
def Tryz.lays41_35_ren:Go.Shelf.Ren:=⟨fun | 41=>35 | n=>n,fun | 22=>30 | 23=>67 | 4=>4 | n=>n,fun | n=>n⟩
theorem Tryz.lays41_35:Go.Proofs.SlLaysE0.n41 Tryz.prog Tryz.lays41_35_ren:={
 mixed:=by kernel_rfl
 f41:=⟨Tryz.f35.name,by decide,Tryz.func35.trans (congrArg some (by kernel_rfl))⟩
 t4:=Tryz.underlying4
 a4:=Tryz.isAgg4
 z4:=Tryz.sizeOf4
 v4:=Tryz.zeroValue4
 t22:=Tryz.underlying30
 a22:=Tryz.isAgg30
 z22:=Tryz.sizeOf30
 v22:=Tryz.zeroValue30 }
def Tryz.lays41_72_ren:Go.Shelf.Ren:=⟨fun | 41=>72 | n=>n,fun | 22=>22 | 23=>90 | 4=>4 | n=>n,fun | n=>n⟩
theorem Tryz.lays41_72:Go.Proofs.SlLaysE0.n41 Tryz.prog Tryz.lays41_72_ren:={
 mixed:=by kernel_rfl
 f41:=⟨Tryz.f72.name,by decide,Tryz.func72.trans (congrArg some (by kernel_rfl))⟩
 t4:=Tryz.underlying4
 a4:=Tryz.isAgg4
 z4:=Tryz.sizeOf4
 v4:=Tryz.zeroValue4
 t22:=Tryz.underlying22
 a22:=Tryz.isAgg22
 z22:=Tryz.sizeOf22
 v22:=Tryz.zeroValue22 }
end Go.Proofs
end

/- Part of the proof of the laws of the package relyguardlaw36: an abstract machine for the program's functions, what they compute, and that the machine is the program's. No condition. (FnTab RgExt RgBl RgBm) -/
import Derived.Test.YtaiokglcgiemnaaGreatDoorPartAO
import Derived.Test.YtaiokglcgiemnaaGreatDoorPartAP
import Derived.Shelf.Sort.Plain
import Derived.Shelf.Slices.In.SortNone
import Derived.Shelf.Slices.CompactI
import Derived.Shelf.Slices.Clone
import Derived.Test.YtaiokglcgiemnaaGreatDoorPartAM
import Derived.Shelf.Strings.Builder1
set_option linter.unusedVariables false
section
set_option maxRecDepth 20000
namespace Rg
open Go
def tabL:List (Nat×F):=[(9,f9),
 (12,f12),
 (17,f17),
 (18,f18),
 (23,f23),
 (24,f24),
 (27,f27),
 (33,f33),
 (36,f36),
 (38,f38),
 (39,f39),
 (40,f40),
 (43,f43),
 (44,f44),
 (45,f45),
 (47,f47),
 (48,f48),
 (49,f49),
 (51,f51),
 (56,f56),
 (60,f60),
 (61,f61),
 (62,f62),
 (63,f63),
 (64,f64),
 (65,f65),
 (67,f67),
 (68,f68),
 (70,f70),
 (71,f71),
 (72,f72),
 (73,f73),
 (74,f74),
 (75,f75),
 (76,f76),
 (77,f77),
 (78,f78),
 (79,f79),
 (80,f80),
 (81,f81),
 (82,f82),
 (83,f83),
 (84,f84),
 (85,f85),
 (86,f86),
 (87,f87),
 (88,f88),
 (89,f89),
 (90,f90),
 (91,f91),
 (92,f92),
 (95,f95),
 (96,f96),
 (97,f97),
 (98,f98),
 (99,f99),
 (100,f100),
 (101,f101),
 (102,f102),
 (103,f103),
 (104,f104),
 (105,f105),
 (106,f106),
 (107,f107),
 (108,f108),
 (109,f109),
 (110,f110),
 (111,f111),
 (112,f112),
 (113,f113),
 (114,f114),
 (115,f115),
 (116,f116),
 (117,f117),
 (118,f118),
 (119,f119),
 (131,f131),
 (132,f132),
 (133,f133),
 (134,f134),
 (135,f135),
 (136,f136),
 (137,f137),
 (138,f138),
 (145,f145),
 (146,f146),
 (147,f147),
 (148,f148),
 (149,f149),
 (150,f150),
 (151,f151),
 (152,f152),
 (153,f153),
 (154,f154),
 (155,f155),
 (156,f156),
 (157,f157),
 (158,f158),
 (159,f159),
 (161,f161),
 (162,f162),
 (163,f163),
 (164,f164),
 (165,f165),
 (166,f166),
 (179,f179),
 (180,f180),
 (187,f187),
 (188,f188),
 (189,f189),
 (190,f190),
 (191,f191),
 (192,f192),
 (195,f195),
 (196,f196),
 (198,f198),
 (199,f199),
 (200,f200),
 (201,f201),
 (202,f202),
 (203,f203),
 (205,f205),
 (206,f206),
 (207,f207),
 (240,f240),
 (259,f259),
 (328,f328),
 (334,f334),
 (335,f335),
 (336,f336),
 (337,f337),
 (341,f341),
 (343,f343),
 (347,f347),
 (348,f348),
 (349,f349),
 (350,f350),
 (351,f351),
 (352,f352),
 (353,f353),
 (358,f358),
 (359,f359),
 (360,f360),
 (361,f361),
 (362,f362),
 (363,f363),
 (364,f364),
 (365,f365),
 (368,f368),
 (369,f369),
 (370,f370),
 (374,f374),
 (375,f375),
 (376,f376),
 (377,f377),
 (378,f378),
 (379,f379),
 (380,f380),
 (381,f381),
 (382,f382),
 (385,f385),
 (386,f386),
 (387,f387),
 (388,f388),
 (389,f389),
 (390,f390),
 (392,f392),
 (393,f393),
 (394,f394)]
def Γ:Nat->Option F:=fun k=>tabL.lookup k
def G:Nat->List T
 | 0=>[.int .i64 0,.int .i64 1,.int .i64 3,.int .i64 7,.int .i64 15,.int .i64 31,.int .i64 63,.int .i64 127,.int .i64 255]
 | 2=>[.int .u64 1,.int .u64 10,.int .u64 100,.int .u64 1000,.int .u64 10000,.int .u64 100000,.int .u64 1000000,.int .u64 10000000,.int .u64 100000000,.int .u64 1000000000,.int .u64 10000000000,.int .u64 100000000000,.int .u64 1000000000000,.int .u64 10000000000000,.int .u64 100000000000000,.int .u64 1000000000000000,.int .u64 10000000000000000,.int .u64 100000000000000000,.int .u64 1000000000000000000,.int .u64 10000000000000000000]
 | _=>[]
theorem Γ9:Γ 9=some f9:=by rfl
theorem Γ12:Γ 12=some f12:=by rfl
theorem Γ17:Γ 17=some f17:=by rfl
theorem Γ18:Γ 18=some f18:=by rfl
theorem Γ23:Γ 23=some f23:=by rfl
theorem Γ24:Γ 24=some f24:=by rfl
theorem Γ27:Γ 27=some f27:=by rfl
theorem Γ33:Γ 33=some f33:=by rfl
theorem Γ36:Γ 36=some f36:=by rfl
theorem Γ38:Γ 38=some f38:=by rfl
theorem Γ39:Γ 39=some f39:=by rfl
theorem Γ40:Γ 40=some f40:=by rfl
theorem Γ43:Γ 43=some f43:=by rfl
theorem Γ44:Γ 44=some f44:=by rfl
theorem Γ45:Γ 45=some f45:=by rfl
theorem Γ47:Γ 47=some f47:=by rfl
theorem Γ48:Γ 48=some f48:=by rfl
theorem Γ49:Γ 49=some f49:=by rfl
theorem Γ51:Γ 51=some f51:=by rfl
theorem Γ56:Γ 56=some f56:=by rfl
theorem Γ60:Γ 60=some f60:=by rfl
theorem Γ61:Γ 61=some f61:=by rfl
theorem Γ62:Γ 62=some f62:=by rfl
theorem Γ63:Γ 63=some f63:=by rfl
theorem Γ64:Γ 64=some f64:=by rfl
theorem Γ65:Γ 65=some f65:=by rfl
theorem Γ67:Γ 67=some f67:=by rfl
theorem Γ68:Γ 68=some f68:=by rfl
theorem Γ70:Γ 70=some f70:=by rfl
theorem Γ71:Γ 71=some f71:=by rfl
theorem Γ72:Γ 72=some f72:=by rfl
theorem Γ73:Γ 73=some f73:=by rfl
theorem Γ74:Γ 74=some f74:=by rfl
theorem Γ75:Γ 75=some f75:=by rfl
theorem Γ76:Γ 76=some f76:=by rfl
theorem Γ77:Γ 77=some f77:=by rfl
theorem Γ78:Γ 78=some f78:=by rfl
theorem Γ79:Γ 79=some f79:=by rfl
theorem Γ80:Γ 80=some f80:=by rfl
theorem Γ81:Γ 81=some f81:=by rfl
theorem Γ82:Γ 82=some f82:=by rfl
theorem Γ83:Γ 83=some f83:=by rfl
theorem Γ84:Γ 84=some f84:=by rfl
theorem Γ85:Γ 85=some f85:=by rfl
theorem Γ86:Γ 86=some f86:=by rfl
theorem Γ87:Γ 87=some f87:=by rfl
theorem Γ88:Γ 88=some f88:=by rfl
theorem Γ89:Γ 89=some f89:=by rfl
theorem Γ90:Γ 90=some f90:=by rfl
theorem Γ91:Γ 91=some f91:=by rfl
theorem Γ92:Γ 92=some f92:=by rfl
theorem Γ95:Γ 95=some f95:=by rfl
theorem Γ96:Γ 96=some f96:=by rfl
theorem Γ97:Γ 97=some f97:=by rfl
theorem Γ98:Γ 98=some f98:=by rfl
theorem Γ99:Γ 99=some f99:=by rfl
theorem Γ100:Γ 100=some f100:=by rfl
theorem Γ101:Γ 101=some f101:=by rfl
theorem Γ102:Γ 102=some f102:=by rfl
theorem Γ103:Γ 103=some f103:=by rfl
theorem Γ104:Γ 104=some f104:=by rfl
theorem Γ105:Γ 105=some f105:=by rfl
theorem Γ106:Γ 106=some f106:=by rfl
theorem Γ107:Γ 107=some f107:=by rfl
theorem Γ108:Γ 108=some f108:=by rfl
theorem Γ109:Γ 109=some f109:=by rfl
theorem Γ110:Γ 110=some f110:=by rfl
theorem Γ111:Γ 111=some f111:=by rfl
theorem Γ112:Γ 112=some f112:=by rfl
theorem Γ113:Γ 113=some f113:=by rfl
theorem Γ114:Γ 114=some f114:=by rfl
theorem Γ115:Γ 115=some f115:=by rfl
theorem Γ116:Γ 116=some f116:=by rfl
theorem Γ117:Γ 117=some f117:=by rfl
theorem Γ118:Γ 118=some f118:=by rfl
theorem Γ119:Γ 119=some f119:=by rfl
theorem Γ131:Γ 131=some f131:=by rfl
theorem Γ132:Γ 132=some f132:=by rfl
theorem Γ133:Γ 133=some f133:=by rfl
theorem Γ134:Γ 134=some f134:=by rfl
theorem Γ135:Γ 135=some f135:=by rfl
theorem Γ136:Γ 136=some f136:=by rfl
theorem Γ137:Γ 137=some f137:=by rfl
theorem Γ138:Γ 138=some f138:=by rfl
theorem Γ145:Γ 145=some f145:=by rfl
theorem Γ146:Γ 146=some f146:=by rfl
theorem Γ147:Γ 147=some f147:=by rfl
theorem Γ148:Γ 148=some f148:=by rfl
theorem Γ149:Γ 149=some f149:=by rfl
theorem Γ150:Γ 150=some f150:=by rfl
theorem Γ151:Γ 151=some f151:=by rfl
theorem Γ152:Γ 152=some f152:=by rfl
theorem Γ153:Γ 153=some f153:=by rfl
theorem Γ154:Γ 154=some f154:=by rfl
theorem Γ155:Γ 155=some f155:=by rfl
theorem Γ156:Γ 156=some f156:=by rfl
theorem Γ157:Γ 157=some f157:=by rfl
theorem Γ158:Γ 158=some f158:=by rfl
theorem Γ159:Γ 159=some f159:=by rfl
theorem Γ161:Γ 161=some f161:=by rfl
theorem Γ162:Γ 162=some f162:=by rfl
theorem Γ163:Γ 163=some f163:=by rfl
theorem Γ164:Γ 164=some f164:=by rfl
theorem Γ165:Γ 165=some f165:=by rfl
theorem Γ166:Γ 166=some f166:=by rfl
theorem Γ179:Γ 179=some f179:=by rfl
theorem Γ180:Γ 180=some f180:=by rfl
theorem Γ187:Γ 187=some f187:=by rfl
theorem Γ188:Γ 188=some f188:=by rfl
theorem Γ189:Γ 189=some f189:=by rfl
theorem Γ190:Γ 190=some f190:=by rfl
theorem Γ191:Γ 191=some f191:=by rfl
theorem Γ192:Γ 192=some f192:=by rfl
theorem Γ195:Γ 195=some f195:=by rfl
theorem Γ196:Γ 196=some f196:=by rfl
theorem Γ198:Γ 198=some f198:=by rfl
theorem Γ199:Γ 199=some f199:=by rfl
theorem Γ200:Γ 200=some f200:=by rfl
theorem Γ201:Γ 201=some f201:=by rfl
theorem Γ202:Γ 202=some f202:=by rfl
theorem Γ203:Γ 203=some f203:=by rfl
theorem Γ205:Γ 205=some f205:=by rfl
theorem Γ206:Γ 206=some f206:=by rfl
theorem Γ207:Γ 207=some f207:=by rfl
theorem Γ240:Γ 240=some f240:=by rfl
theorem Γ259:Γ 259=some f259:=by rfl
theorem Γ328:Γ 328=some f328:=by rfl
theorem Γ334:Γ 334=some f334:=by rfl
theorem Γ335:Γ 335=some f335:=by rfl
theorem Γ336:Γ 336=some f336:=by rfl
theorem Γ337:Γ 337=some f337:=by rfl
theorem Γ341:Γ 341=some f341:=by rfl
theorem Γ343:Γ 343=some f343:=by rfl
theorem Γ347:Γ 347=some f347:=by rfl
theorem Γ348:Γ 348=some f348:=by rfl
theorem Γ349:Γ 349=some f349:=by rfl
theorem Γ350:Γ 350=some f350:=by rfl
theorem Γ351:Γ 351=some f351:=by rfl
theorem Γ352:Γ 352=some f352:=by rfl
theorem Γ353:Γ 353=some f353:=by rfl
theorem Γ358:Γ 358=some f358:=by rfl
theorem Γ359:Γ 359=some f359:=by rfl
theorem Γ360:Γ 360=some f360:=by rfl
theorem Γ361:Γ 361=some f361:=by rfl
theorem Γ362:Γ 362=some f362:=by rfl
theorem Γ363:Γ 363=some f363:=by rfl
theorem Γ364:Γ 364=some f364:=by rfl
theorem Γ365:Γ 365=some f365:=by rfl
theorem Γ368:Γ 368=some f368:=by rfl
theorem Γ369:Γ 369=some f369:=by rfl
theorem Γ370:Γ 370=some f370:=by rfl
theorem Γ374:Γ 374=some f374:=by rfl
theorem Γ375:Γ 375=some f375:=by rfl
theorem Γ376:Γ 376=some f376:=by rfl
theorem Γ377:Γ 377=some f377:=by rfl
theorem Γ378:Γ 378=some f378:=by rfl
theorem Γ379:Γ 379=some f379:=by rfl
theorem Γ380:Γ 380=some f380:=by rfl
theorem Γ381:Γ 381=some f381:=by rfl
theorem Γ382:Γ 382=some f382:=by rfl
theorem Γ385:Γ 385=some f385:=by rfl
theorem Γ386:Γ 386=some f386:=by rfl
theorem Γ387:Γ 387=some f387:=by rfl
theorem Γ388:Γ 388=some f388:=by rfl
theorem Γ389:Γ 389=some f389:=by rfl
theorem Γ390:Γ 390=some f390:=by rfl
theorem Γ392:Γ 392=some f392:=by rfl
theorem Γ393:Γ 393=some f393:=by rfl
theorem Γ394:Γ 394=some f394:=by rfl
end Rg
end
section
namespace Rg
open Go Go.Sort Go.Shelf
theorem intsOf_get: ∀{rs:List (List V)} {zs:List Int},intsOf rs=some zs->rs.length=zs.length/\ ∀(i:Nat) (z:Int),zs[i]? =some z->rs[i]? =some [.t (.int .i64 z)]
 | [],zs,h=>by simp only[intsOf,Option.some.injEq]at h;subst h;simp
 | row::r,zs,h=>by
   unfold intsOf at h
   split at h
   ·rename_i h0;simp at h0
   ·rename_i z r' h0
    simp only[List.cons.injEq]at h0
    obtain⟨rfl,rfl⟩:=h0
    rw[Option.map_eq_some_iff]at h
    obtain⟨zs',hz,rfl⟩:=h
    obtain⟨h1,h2⟩:=intsOf_get hz
    refine⟨by simp[h1],fun i z' hi=> ?_⟩
    cases i with
    | zero=>simp at hi;subst hi;rfl
    | succ i=>simpa using h2 i z' (by simpa using hi)
   ·cases h
theorem putCells_get (c:Array Value) (ys:List Int) (j:Nat):(putCells (Value.int .i64) 0 ys.toArray c)[j]? =(c[j]?).map fun x=>match ys[j]? with | some y=>Value.int .i64 y | none=>x:=by
 unfold putCells
 rw[Array.getElem?_mapIdx]
 cases hc:c[j]? with
 | none=>rfl
 | some x=>
   simp only[Option.map_some,Option.some.injEq]
   by_cases hj:j<ys.length
   ·rw[if_pos (by simp[hj]),List.getElem?_eq_getElem hj]
    simp[hj]
   ·rw[if_neg (by simp;omega),List.getElem?_eq_none (by omega)]
theorem putRow_shape (w:World) (q b:Nat) (ys:List Int) (r:Nat) (x:TypeId×Nat) (hx:w.shape? r=some x):(putRow (Value.int .i64) (Sort.ahead w q) b 0 ys.toArray).shape? r=some x:=by
 unfold World.shape? at hx⊢
 simp only[putRow,mapBlock,Sort.ahead,Array.getElem?_modify]
 by_cases h:b=r
 ·subst h
  rw[if_pos rfl]
  cases ho:w.heap[b]? with
  | none=>rw[ho]at hx;cases hx
  | some o=>
    rw[ho]at hx
    cases o with
    | cells c e fr=>simpa[onCells,putCells]using hx
    | _=>cases hx
 ·rw[if_neg h];exact hx
section
variable {N:Nam} {c:Ctx} {A:Nat->Prop} {μ lam:Nat->Nat} {w:World} {H:Nat->Option O} {n:Nat}
theorem rel_putInts (R:Rel N c 0 A μ lam (.init [] H n) bareAct w) {k:Nat} {rs:List (List V)} (hk:H k=some (.rows 1 rs false)) (ys:List Int) (hl:ys.length=rs.length) (q:Nat):
 Rel N c 0 A μ lam (.init [] (upd H k (some (.rows 1 (ofInts ys) false))) n) bareAct (putRow (Value.int .i64) (Sort.ahead w q) (μ k) 0 ys.toArray):=by
 obtain⟨cc,e0,z,h1,h2,h3,h4,h5⟩:=R.heap k _ hk
 have hz:=h2 rfl
 subst hz
 have hget: ∀r,(putRow (Value.int .i64) (Sort.ahead w q) (μ k) 0 ys.toArray).heap[r]? =if μ k=r then(w.heap[r]?).map (onCells (putCells (Value.int .i64) 0 ys.toArray))else w.heap[r]? :=by
  intro r
  simp only[putRow,mapBlock,Sort.ahead,Array.getElem?_modify]
 refine R.changeH (o':= .rows 1 (ofInts ys) false) hk ⟨rfl,by simp[ofInts,hl]⟩ rfl (by simp) (by simp) rfl ?_ ?_ ?_ ?_ ⟨rfl,rfl⟩
 ·simp[putRow,mapBlock,Sort.ahead]
 ·intro r hr
  rw[hget,if_neg (fun h=>hr h.symm)]
 ·exact fun r x hx=>putRow_shape w q (μ k) ys r x hx
 ·intro E
  refine⟨putCells (Value.int .i64) 0 ys.toArray cc,e0,(0,0),?_,fun _=>rfl,?_,?_,?_⟩
  ·rw[hget,if_pos rfl,h1];rfl
  ·have:(putCells (Value.int .i64) 0 ys.toArray cc).size=cc.size:=by simp[putCells]
   rw[this];simp[ofInts,hl];omega
  ·intro i row hi
   simp only[ofInts,List.getElem?_map,Option.map_eq_some_iff]at hi
   obtain⟨y,_,rfl⟩:=hi
   rfl
  ·intro i row j x hi hj
   simp only[ofInts,List.getElem?_map,Option.map_eq_some_iff]at hi
   obtain⟨y,hy,rfl⟩:=hi
   have hj0:j=0:=by
    have:=(List.getElem?_eq_some_iff.1 hj).1
    simp at this;exact this
   subst hj0
   simp only[List.getElem?_cons_zero,Option.some.injEq]at hj
   subst hj
   have hlt:i<ys.length:=(List.getElem?_eq_some_iff.1 hy).1
   obtain⟨row,hrow⟩: ∃row,rs[i]? =some row:=⟨_,List.getElem?_eq_getElem (by omega)⟩
   have hrl:=h4 i row hrow
   obtain⟨x0,hx0⟩: ∃x0,row[0]? =some x0:=⟨_,List.getElem?_eq_getElem (by omega)⟩
   obtain⟨v,hv,_⟩:=h5 i row 0 x0 hrow hx0
   refine⟨.int .i64 y,?_,.t (.int _ _)⟩
   rw[putCells_get,hv]
   simp[hy]
theorem rel_grow (R:Rel N c 0 A μ lam (.init [] H n) bareAct w) (os:Array Obj):Rel N c 0 A μ lam (.init [] H n) bareAct (grow w os):=by
 have hget: ∀r,r<w.heap.size->(grow w os).heap[r]? =w.heap[r]? :=fun r hr=>by simp[grow,Array.getElem?_append,hr]
 refine R.world (by simp[grow]) ?_ ?_ ?_ (Marks.nil _ _ _) ⟨rfl,rfl⟩
 ·rintro r (h | h | ⟨k,o,hk,hl,rfl⟩)
  ·exact hget r (R.alt r h)
  ·obtain⟨t,ht,_⟩:=h
   simp[St.init]at ht
  ·exact hget _ (R.lt_live hk hl)
 ·intro r hr _
  exact hget r (Nat.lt_of_lt_of_le hr R.csize)
 ·intro r x hx
  unfold World.shape? at hx⊢
  by_cases hr:r<w.heap.size
  ·rw[hget r hr];exact hx
  ·rw[Array.getElem?_eq_none (by omega)]at hx;cases hx
theorem rel_below (R:Rel N c 0 A μ lam (.init [] H n) bareAct w) {w':World} (hb:Go.RowKit.Below w.heap.size w w'):Rel N c 0 A μ lam (.init [] H n) bareAct w':=by
 refine R.world hb.size ?_ ?_ ?_ (Marks.nil _ _ _) ⟨hb.os,hb.output⟩
 ·rintro r (h | h | ⟨k,o,hk,hl,rfl⟩)
  ·exact hb.block r (R.alt r h)
  ·obtain⟨t,ht,_⟩:=h
   simp[St.init]at ht
  ·exact hb.block _ (R.lt_live hk hl)
 ·intro r hr _
  exact hb.block r (Nat.lt_of_lt_of_le hr R.csize)
 ·intro r x hx
  unfold World.shape? at hx⊢
  by_cases hr:r<w.heap.size
  ·rw[hb.block r hr];exact hx
  ·rw[Array.getElem?_eq_none (by omega)]at hx;cases hx
theorem own_ints (R:Rel N c 0 A μ lam (.init [] H n) bareAct w) {k len:Nat} {rs:List (List V)} {zs:List Int} (hk:H k=some (.rows 1 rs false)) (hz:intsOf rs=some zs) (hl:zs.length=len)
 {v:Value} (hv:RepV w A N.nm μ H v (.ms k 0 len)):
 ∃a cap,v= .slice a zs.length cap/\zs.length<=cap/\(zs=[]\/a=some ⟨μ k,0,none⟩)/\Holds (Value.int .i64) w (μ k) 0 zs.toArray/\μ k<w.heap.size/\(cap=0\/(a=some ⟨μ k,0,none⟩/\ ∃e m,w.shape? (μ k)=some (e,m)/\cap<=m)):=by
 obtain⟨i1,i2⟩:=intsOf_get hz
 obtain⟨cc,e0,z,h1,h2,h3,h4,h5⟩:=R.heap k _ hk
 have hzz:=h2 rfl
 subst hzz
 have hlt:μ k<w.heap.size:=R.lt_live hk rfl
 have hH:Holds (Value.int .i64) w (μ k) 0 zs.toArray:=by
  intro j hj
  have hj':j<zs.length:=by simpa using hj
  refine⟨?_,by simp[World.frozen?,h1]⟩
  have hzj:zs[j]? =some zs[j]:=List.getElem?_eq_getElem hj'
  obtain⟨u,hu,hr⟩:=h5 j _ 0 _ (i2 j _ hzj) rfl
  cases hr with
  | t hr=>
    cases hr
    simp only[World.cell?,h1,Nat.zero_add]
    simp only[Nat.mul_one,Nat.add_zero]at hu
    simp[hu,hj']
 have hv1:RepC w A N.nm μ H v (.ms k 0 len):=hv
 cases hv1 with
 | ms _ _ _ cap sz rs' frz a hk' hi hc ha=>
   rw[hk]at hk';cases hk'
   subst hl
   refine⟨a,cap,rfl,by omega,?_,hH,hlt,?_⟩
   ·rcases ha with h0 | ⟨rfl,_⟩
    ·exact .inl (List.eq_nil_of_length_eq_zero (by omega))
    ·exact .inr (by simp)
   ·rcases ha with h0 | ⟨rfl,e,m,hs,hm⟩
    ·exact .inl h0
    ·exact .inr ⟨by simp,e,m,hs,by omega⟩
 | dms _ _ _ hk' _=>rw[hk]at hk';cases hk'
end
theorem one_arg {w:World} {A:Nat->Prop} {nm μ:Nat->Nat} {H:Nat->Option O} {vs:Array Value} {x:V} (h:RepArgs w A nm μ H vs [x]): ∃v,vs= #[v]/\RepV w A nm μ H v x:=by
 obtain⟨h1,h2⟩:=h
 obtain⟨v,hv,hr⟩:=h2 0 x rfl
 refine⟨v,?_,hr⟩
 apply Array.ext_getElem?
 intro i
 cases i with
 | zero=>simpa using hv
 | succ i=>rw[Array.getElem?_eq_none (by simp at h1;omega),Array.getElem?_eq_none (by simp)]
theorem upd_id {H:Nat->Option O} {k:Nat} {o:O} (h:H k=some o):upd H k (some o)=H:=by
 funext j;unfold upd;split
 ·rename_i e;rw[e,h]
 ·rfl
theorem intsOf_nil {rs:List (List V)} (h:intsOf rs=some []):rs=[]:=List.eq_nil_of_length_eq_zero (by simpa using(intsOf_get h).1)
theorem ext_sort {P:Program} {N:Nam} {g:Nat} {ρ:Ren} (Ly:Go.Proofs.Lays.n189 P ρ) (hf:ρ.f 189=N.nm g) {rf:Func} (hr:Real P (N.nm g) rf):ExtOK P N g .sortI:=by
 refine⟨⟨rf,hr⟩,fun args H n r H' n' h c A μ lam w vs R ha=> ?_,fun _ _ h=>by simp[extPure]at h⟩
 rw[<- hf]
 unfold extSem at h
 split at h
 all_goals(try contradiction)
 ·cases h
  obtain⟨v,rfl,hv⟩:=one_arg ha
  cases hv.t_inv
  refine(Go.Proofs.Any.slices_Sort_int_none Ly _ _ w).mono ?_
  rintro e w' ⟨rfl,rfl⟩
  exact⟨_,A,μ,lam,rfl,R,⟨#[],rfl,rfl,by simp⟩⟩
 ·rename_i k len _
  split at h
  ·rename_i rs hk
   simp only[Option.bind_eq_some_iff]at h
   obtain⟨zs,hz,h⟩:=h
   split at h
   ·rename_i hl
    cases h
    obtain⟨v,rfl,hv⟩:=one_arg ha
    obtain⟨a,cap,rfl,hc,hor,hH,hlt,_⟩:=own_ints R hk hz hl.1 hv
    by_cases h0:zs=[]
    ·subst h0
     refine(Go.Proofs.Any.slices_Sort_int_none Ly _ _ w).mono ?_
     rintro e w' ⟨rfl,rfl⟩
     have hrs:=intsOf_nil hz
     subst hrs
     refine⟨_,A,μ,lam,rfl,?_,⟨#[],rfl,rfl,by simp⟩⟩
     rw[List.mergeSort_nil,show ofInts []=[]from rfl,upd_id hk]
     exact R
    ·obtain rfl:=hor.resolve_left h0
     refine(Go.Proofs.Any.slices_Sort_int Ly (μ k) 0 cap zs w hH hlt (by omega)).mono ?_
     rintro e w' ⟨rfl,q,os,rfl⟩
     refine⟨_,A,μ,lam,rfl,rel_grow (rel_putInts R hk _ ?_ q) os,⟨#[],rfl,rfl,by simp⟩⟩
     rw[List.length_mergeSort,(intsOf_get hz).1]
   ·cases h
  ·cases h
theorem compact_le (zs:List Int):(Go.Lib.compact zs).length<=zs.length:=by
 unfold Go.Lib.compact Go.Lib.compactUpTo
 rw[List.length_map]
 exact Nat.le_trans (List.length_filter_le _ _) (by simp)
theorem ints_toT (H:Nat->Option O) (d:Nat): ∀l:List Int,(ofInts l).mapM (fun row=>row.mapM (toT H d))=some (l.map fun z=>[T.int .i64 z])
 | []=>rfl
 | z::l=>by
   have e:ofInts (z::l)=[.t (.int .i64 z)]::ofInts l:=rfl
   have e1:toT H d (.t (.int .i64 z))=some (.int .i64 z):=by cases d<;>rfl
   rw[e,List.mapM_cons,ints_toT H d l]
   simp only[List.mapM_cons,List.mapM_nil,e1];rfl
theorem ints_reach (H:Nat->Option O) (d:Nat): ∀l:List Int,(ofInts l).flatMap (fun row=>row.flatMap (reach H d))=[]
 | []=>rfl
 | z::l=>by
   have e:ofInts (z::l)=[.t (.int .i64 z)]::ofInts l:=rfl
   have e1:reach H d (.t (.int .i64 z))=[]:=by cases d<;>rfl
   rw[e,List.flatMap_cons,ints_reach H d l]
   simp only[List.flatMap_cons,List.flatMap_nil,e1];rfl
theorem upd_twice {H:Nat->Option O} (k:Nat) (a b:Option O):upd (upd H k a) k b=upd H k b:=by
 funext j;unfold upd;split<;>rfl
theorem ext_compact {P:Program} {N:Nam} {g:Nat} {ρ:Ren} (Ly:Go.Proofs.Lays2.n20 P ρ) (hf:ρ.f 20=N.nm g) {rf:Func} (hr:Real P (N.nm g) rf):ExtOK P N g .compactI:=by
 refine⟨⟨rf,hr⟩,fun args H n r H' n' h c A μ lam w vs R ha=> ?_,fun _ _ h=>by simp[extPure]at h⟩
 rw[<- hf]
 unfold extSem at h
 split at h
 all_goals(try contradiction)
 ·cases h
  obtain⟨v,rfl,hv⟩:=one_arg ha
  cases hv.t_inv
  refine(Go.Proofs.Any.slices_Compact_int_empty Ly _ _ w).mono ?_
  rintro e w' ⟨rfl,rfl⟩
  exact⟨_,A,μ,lam,rfl,R,(RepC.t (.sl0 _ _)).toV⟩
 ·rename_i k len _
  split at h
  ·rename_i rs hk
   simp only[Option.bind_eq_some_iff]at h
   obtain⟨zs,hz,h⟩:=h
   split at h
   ·rename_i hl
    cases h
    obtain⟨v,rfl,hv⟩:=one_arg ha
    obtain⟨a,cap,rfl,hc,hor,hH,hlt,hcap⟩:=own_ints R hk hz hl.1 hv
    have hcl:=compact_le zs
    by_cases h0:zs=[]
    ·subst h0
     refine(Go.Proofs.Any.slices_Compact_int_empty Ly _ _ w).mono ?_
     rintro e w' ⟨rfl,rfl⟩
     have hrs:=intsOf_nil hz
     subst hrs
     exact⟨_,_,μ,lam,rfl,R.freeze hk,(RepC.t (.sl0 _ _)).toV⟩
    ·obtain rfl:=hor.resolve_left h0
     refine(Go.Proofs.Any.slices_Compact_int Ly (μ k) 0 cap zs w hH (by omega) hc).mono ?_
     rintro e w' ⟨rfl,q,rfl⟩
     have hlen:(Go.Lib.compact zs++List.replicate (zs.length-(Go.Lib.compact zs).length) 0).length=rs.length:=by
      rw[List.length_append,List.length_replicate,(intsOf_get hz).1];omega
     have R1:=rel_putInts R hk _ hlen q
     have R2:Rel N c 0 (fun r=>A r\/r=μ k) μ lam (.init [] (upd (upd H k (some (.rows 1 (ofInts (Go.Lib.compact zs++List.replicate (zs.length-(Go.Lib.compact zs).length) 0)) false))) k (some (.rows 1 (ofInts (Go.Lib.compact zs++List.replicate (zs.length-(Go.Lib.compact zs).length) 0)) true))) n) bareAct _:=R1.freeze (k:=k) (upd_same _ _ _)
     rw[upd_twice]at R2
     refine⟨_,_,μ,lam,rfl,R2,?_⟩
     have hcap0:cap≠0:=by
      intro hcc
      exact h0 (List.eq_nil_of_length_eq_zero (by omega))
     obtain⟨_,e,m,hs,hm⟩:=hcap.resolve_left hcap0
     have hrep:RepC (putRow (Value.int .i64) (Sort.ahead w q) (μ k) 0 (Go.Lib.compact zs++List.replicate (zs.length-(Go.Lib.compact zs).length) 0).toArray) A N.nm μ (upd H k (some (.rows 1 (ofInts (Go.Lib.compact zs++List.replicate (zs.length-(Go.Lib.compact zs).length) 0)) false))) (.slice (some ⟨μ k,0,none⟩) (Go.Lib.compact zs).length cap) (.ms k 0 (Go.Lib.compact zs).length):=by
      refine .ms k 0 _ cap 1 _ false _ (upd_same _ _ _) ?_ (by have e1:=(intsOf_get hz).1;simp only[ofInts,List.length_map,hlen];omega) (.inr ⟨by simp,e,m,?_,by omega⟩)
      ·simp only[ofInts,List.length_map,hlen,(intsOf_get hz).1];omega
      ·exact putRow_shape w q (μ k) _ _ _ hs
     have hrd:rd (ofInts (Go.Lib.compact zs++List.replicate (zs.length-(Go.Lib.compact zs).length) 0)) 0 (Go.Lib.compact zs).length=some (ofInts (Go.Lib.compact zs)):=by
      unfold rd
      rw[if_pos (by simp[ofInts]),List.drop_zero]
      simp[ofInts,List.map_append]
     have hT:toT (upd H k (some (.rows 1 (ofInts (Go.Lib.compact zs++List.replicate (zs.length-(Go.Lib.compact zs).length) 0)) false))) 1000 (.ms k 0 (Go.Lib.compact zs).length)=some (.sl ((Go.Lib.compact zs).map fun z=>[.int .i64 z])):=by
      simp only[toT,upd_same,hrd,Option.bind_eq_bind,Option.bind_some,ints_toT]
     have hR:reach (upd H k (some (.rows 1 (ofInts (Go.Lib.compact zs++List.replicate (zs.length-(Go.Lib.compact zs).length) 0)) false))) 1000 (.ms k 0 (Go.Lib.compact zs).length)=[k]:=by
      simp only[reach,upd_same,ints_reach]
     have hrt:=toT_rep R1.heap 1000 _ _ _ hT hrep
     refine(RepC.t (hrt.mono (fun _ _=>rfl) ?_)).toV
     rintro r (h | ⟨k',hk',_,rfl⟩)
     ·exact .inl h
     ·have h1:k'∈ [k]:=by rw[<- hR];exact hk'
      rw[List.mem_singleton]at h1;subst h1;exact .inr rfl
   ·cases h
  ·cases h
theorem Rel.more {N:Nam} {c:Ctx} {A:Nat->Prop} {μ lam:Nat->Nat} {w:World} {H:Nat->Option O} {n:Nat} (R:Rel N c 0 A μ lam (.init [] H n) bareAct w) {m:Nat} (hm:n<=m):Rel N c 0 A μ lam (.init [] H m) bareAct w:=
 { R with fresh:=fun k hk=>R.fresh k (Nat.le_trans hm hk) }
theorem intsOf_tree {es:List (List T)} {zs:List Int} (h:intsOf (es.map (·.map V.t))=some zs):es.length=zs.length/\ ∀(i:Nat) (z:Int),zs[i]? =some z->es[i]? =some [.int .i64 z]:=by
 obtain⟨h1,h2⟩:=intsOf_get h
 refine⟨by simpa using h1,fun i z hi=> ?_⟩
 have:=h2 i z hi
 rw[List.getElem?_map,Option.map_eq_some_iff]at this
 obtain⟨e,he,h3⟩:=this
 match e,h3 with
 | [],h3=>simp at h3
 | [x],h3=>simp only[List.map_cons,List.map_nil,List.cons.injEq,V.t.injEq,and_true]at h3;rw[he,h3]
 | _::_::_,h3=>simp at h3
theorem ext_clone {P:Program} {N:Nam} {g:Nat} {ρ:Ren} (Ly:Go.Proofs.Lays2.n15 P ρ) (hf:ρ.f 15=N.nm g) {rf:Func} (hr:Real P (N.nm g) rf):ExtOK P N g .cloneI:=by
 refine⟨⟨rf,hr⟩,fun args H n r H' n' h c A μ lam w vs R ha=> ?_,fun _ _ h=>by simp[extPure]at h⟩
 rw[<- hf]
 have empty: ∀(a:Option Addr) (cap:Nat),Calls P (ρ.f 15) #[.slice a 0 cap] w fun e w'=> ∃v A' μ' lam',e= .returned v/\Rel N c 0 A' μ' lam' (.init [] H n) bareAct w'/\RepV w' A' N.nm μ' H v (.t (.sl [])):=by
  intro a cap
  cases a with
  | none=>
    refine(Go.Proofs.Any.slices_Clone_int_nil Ly _ _ w).mono ?_
    rintro e w' ⟨rfl,rfl⟩
    exact⟨_,A,μ,lam,rfl,R,(RepC.t (.sl0 _ _)).toV⟩
  | some a=>
    refine(Go.Proofs.Any.slices_Clone_int_zero Ly a cap w).mono ?_
    rintro e w' ⟨v',rfl,ho,_,hb⟩
    have R1:Rel N c 0 A μ lam (.init [] H n) bareAct w':=rel_below R hb
    refine⟨_,A,μ,lam,rfl,R1,?_⟩
    rcases ho.2 with⟨rfl,_⟩ | ⟨g,cp,cur,rfl,_⟩
    ·exact(RepC.t (.sl0 _ _)).toV
    ·exact(RepC.t (.sl0 _ _)).toV
 unfold extSem at h
 split at h
 all_goals(try contradiction)
 ·cases h
  obtain⟨v,rfl,hv⟩:=one_arg ha
  cases hv.t_inv
  exact empty _ _
 ·cases h
  obtain⟨v,rfl,hv⟩:=one_arg ha
  cases hv.t_inv with
  | sl0 a cap=>exact empty _ _
  | sl r off cap sz es vf h0=>exact absurd h0 (by simp)
 ·rename_i es hne
  simp only[Option.bind_eq_some_iff]at h
  obtain⟨zs,hz,h⟩:=h
  split at h
  ·rename_i hl
   cases h
   obtain⟨v,rfl,hv⟩:=one_arg ha
   obtain⟨i1,i2⟩:=intsOf_tree hz
   cases hv.t_inv with
   | sl0 a cap=>simp_all
   | sl r0 off cap sz es vf h0 hc hA hs hvv hrr=>
     have hcell: ∀j,j<zs.length->w.cell? ⟨r0,off+j,none⟩=some (.int .i64 (zs.getD j 0)):=by
      intro j hj
      have hzj:zs[j]? =some zs[j]:=List.getElem?_eq_getElem hj
      have hej:=i2 j _ hzj
      have h1:=hs j _ hej
      simp at h1
      subst h1
      have h2:=hvv j _ 0 _ hej rfl
      have h3:=hrr j _ 0 _ hej rfl
      cases h3':vf j 0<;>rw[h3']at h3<;>cases h3
      rw[h3']at h2
      simpa[hj]using h2
     rw[i1]
     refine(Go.Proofs.Any.slices_Clone_int Ly r0 off zs.length cap zs w (Nat.le_refl _) (by omega) hcell).mono ?_
     rintro e w' ⟨v',rfl,ho,_,hb⟩
     have R1:Rel N c 0 A μ lam (.init [] H (n+1)) bareAct w':=(rel_below R hb).more (Nat.le_succ _)
     rcases ho.2 with⟨_,h00⟩ | ⟨g0,cp,cur,rfl,hg,hcur,hcp,_,hsz,htk⟩
     ·omega
     ·have hsz1:cur.size=cp:=by simpa using hsz
      rw[List.take_length,Nat.mul_one]at htk
      have R2:=R1.adoptH (k:=n) (r:=g0) (o:=.rows 1 (ofInts zs) false) (R.fresh n (Nat.le_refl _)) (Nat.lt_succ_self _) ⟨fun h=>Nat.lt_irrefl _ (Nat.lt_of_lt_of_le (R.alt _ h) hg),fun t ht=>by simp[St.init]at ht,fun k o hk hlv e=>by
       have:=R.lt_live hk hlv
       omega,.inr (Nat.le_trans R.csize hg)⟩ ⟨cur,_,(0,0),hcur,fun _=>rfl,by simp[ofInts];omega,fun i row hi=>by
       simp only[ofInts,List.getElem?_map,Option.map_eq_some_iff]at hi
       obtain⟨y,_,rfl⟩:=hi
       rfl,fun i row j x hi hj=>by
       simp only[ofInts,List.getElem?_map,Option.map_eq_some_iff]at hi
       obtain⟨y,hy,rfl⟩:=hi
       have hj0:j=0:=by
        have:=(List.getElem?_eq_some_iff.1 hj).1
        simp at this;exact this
       subst hj0
       simp only[List.getElem?_cons_zero,Option.some.injEq]at hj
       subst hj
       refine⟨.int .i64 y,?_,.t (.int _ _)⟩
       have hlt:i<zs.length:=(List.getElem?_eq_some_iff.1 hy).1
       have h5:(cur.toList.take zs.length)[i]? =some (.int .i64 y):=by rw[htk,List.getElem?_map,hy];rfl
       rw[List.getElem?_take,if_pos hlt,Array.getElem?_toList]at h5
       simpa using h5⟩ (by simp)
      refine⟨_,A,_,lam,rfl,R2,?_⟩
      refine RepC.toV (.ms n 0 zs.length cp 1 (ofInts zs) false _ (upd_same _ _ _) (by simp[ofInts]) (by simp[ofInts];omega) (.inr ⟨?_,ρ.t 3,cur.size,?_,by omega⟩))
      ·rw[upd_same]
      ·rw[upd_same];unfold World.shape?;rw[hcur]
  ·cases h
end Rg
end
section
namespace Rg
open Go Go.Proofs Go.Lib Go.Shelf Go.RowKit
structure Added (w:World) (v:Value) (n:Nat) (xs news:List Value) (e:TypeId) (v':Value) (w':World):Prop where
 own:w'.ownsRow 0 e 1 v' (n+news.length) (xs++news)
 gr:w.grownBy w' v.ownBlock
 shp: ∀k x,w.shape? k=some x->w'.shape? k=some x
 blk:v'.ownBlock=v.ownBlock\/ ∃g',v'.ownBlock=some g'/\w.heap.size<=g'
 nil:v'= .slice none 0 0<->v= .slice none 0 0/\news=[]
theorem shape_of_block {w w':World} {k:Nat} {x:TypeId×Nat} (h:w'.heap[k]? =w.heap[k]?) (hx:w.shape? k=some x):w'.shape? k=some x:=by
 unfold World.shape? at hx⊢;rw[h];exact hx
theorem lt_of_shape {w:World} {k:Nat} {x:TypeId×Nat} (hx:w.shape? k=some x):k<w.heap.size:=by
 unfold World.shape? at hx
 rcases Nat.lt_or_ge k w.heap.size with h | h
 ·exact h
 ·rw[Array.getElem?_eq_none h]at hx;cases hx
theorem owned_ge {w:World} {B:Nat} {e:TypeId} {v:Value} {n:Nat} {xs:List Value} (h:w.ownsRow B e 1 v n xs):v.ownBlock=none\/ ∃g,v.ownBlock=some g/\B<=g:=by
 rcases h.2 with⟨rfl,_⟩ | ⟨g,cap,cur,rfl,hb,_⟩
 ·exact .inl rfl
 ·exact .inr ⟨g,rfl,hb⟩
theorem strCells_nil {s:ByteArray}:strCells s=[]<->s.size=0:=by
 rw[<- strCells_length]
 exact List.length_eq_zero_iff.symm
section
variable {P:Program} (w:World)
theorem added_string (t u ty e:TypeId) (i:TypeInfo) (ht:P.underlying t=some (.slice e)) (hu:P.underlying u=some .string) (hi:P.info? e=some i) (hz:i.zero=some (.int .u8 0))
 (hsize:i.size=1) (hby:i.bytes=1) (v:Value) (n:Nat) (xs:List Value) (hown:w.ownsRow 0 e 1 v n xs) (s:ByteArray) (hbytes:n+s.size<=140737488355328):
 ∃v' w',(Builtin.append_ #[t,u] ty #[v,.string s]).run P w= .ok v' w'/\Added w v n xs (strCells s) e v' w':=by
 have h63:n+s.size<=maxLen:=by unfold maxLen;omega
 obtain⟨v',w',hr,h1,h2,h3⟩:=run_append_own_string (P:=P) w 0 t u ty e i ht hu hi hz hsize hby v n xs hown s h63 hbytes (Nat.zero_le _)
 have hxl:xs.length=n:=by simpa using hown.1
 have hnil:v'= .slice none 0 0<->v= .slice none 0 0/\strCells s=[]:=by rw[strCells_nil];exact h3
 have h1':w'.ownsRow 0 e 1 v' (n+(strCells s).length) (xs++strCells s):=by rw[strCells_length];exact h1
 refine⟨v',w',hr,?_⟩
 rcases hown.2 with⟨rfl,rfl⟩ | ⟨g,cap,cur,rfl,hbg,hg,hnc,hcm,hcs,htake⟩
 ·have hx:xs=[]:=List.eq_nil_of_length_eq_zero hxl
  subst hx
  obtain⟨v2,w2,hr2,g1,_,_⟩:=run_append_own_string (P:=P) w w.heap.size t u ty e i ht hu hi hz hsize hby (.slice none 0 0) 0 [] (World.ownsRow_nil w _ e 1) s h63 hbytes (Nat.le_refl _)
  rw[hr]at hr2
  cases hr2
  refine⟨h1',h2,fun k x hx=>shape_of_block (h2.block k (lt_of_shape hx) (by simp[Value.ownBlock])) hx,?_,hnil⟩
  rcases owned_ge g1 with h | h
  ·exact .inl h
  ·exact .inr h
 ·by_cases hroom:n+s.size<=cap
  ·have hcs':cur.size=cap:=by simpa using hcs
   have hr2:=run_append_room_string (P:=P) w t u ty e i ht hu hi hsize g n cap cur hg s hroom (by omega)
   rw[hr]at hr2
   cases hr2
   refine⟨h1',h2,shape?_setRow hg ?_,.inl rfl,hnil⟩
   simp only[List.size_toArray,List.length_append,List.length_take,List.length_drop,Array.length_toList,strCells_length]
   omega
  ·have holds: ∀j u,xs[j]? =some u->w.cell? ((⟨g,0,none⟩:Addr).add j)=some u:=hown.cells (g:=g) rfl
   have hr2:=run_append_grow_string (P:=P) w t u ty e i (.int .u8 0) ht hu hi hz ⟨g,0,none⟩ n cap xs (by rw[hsize];simpa using hxl) holds s (by omega) (by unfold maxLen at h63;omega) (by rw[hby];exact growslice_fits (by omega) (by omega))
   rw[hr]at hr2
   cases hr2
   exact⟨h1',h2,fun k x hx=>shape?_push w.drew _ k x hx,.inr ⟨_,rfl,Nat.le_refl _⟩,hnil⟩
theorem wpList_added_string {ops:Array Oper} {rest:List Oper} {o:Oper} {a:Act} {Q:Exit->Act->World->Prop} (hgd:o.guard=none) (sl x:Operand) (t u:TypeId)
 (ho:o.op= .call { callee:=.builtin .append,args:= #[sl,x],argTypes:= #[t,u] }) (e:TypeId) (i:TypeInfo) (ht:P.underlying t=some (.slice e)) (hu:P.underlying u=some .string) (hi:P.info? e=some i) (hz:i.zero=some (.int .u8 0))
 (hsize:i.size=1) (hby:i.bytes=1) (v:Value) (n:Nat) (xs:List Value) (hs:a.eval sl=v) (hown:w.ownsRow 0 e 1 v n xs) (s:ByteArray) (hx:a.eval x= .string s) (hbytes:n+s.size<=140737488355328)
 (h: ∀v' w',Added w v n xs (strCells s) e v' w'->wpList P ops Q rest (a.put o.dst v') w'):wpList P ops Q (o::rest) a w:=by
 refine wpList_plain hgd fun K hK=> ?_
 obtain⟨v',w',hr,h2⟩:=added_string (P:=P) w t u o.type e i ht hu hi hz hsize hby v n xs hown s hbytes
 unfold Oper.wp execOp
 simp only[ho,resolve,invoke,builtin,Sem.run_bind,Sem.run_pure,Result.andThen_ok,List.map_toArray,List.map_cons,List.map_nil,hs,hx,hr]
 exact hK _ _ (h v' w' h2)
end
end Rg
end
section
namespace Rg
open Go Go.Proofs Go.Lib Go.Shelf Go.RowKit
variable {P:Program} {ρ:Ren}
structure Wrote (w:World) (b:Nat) (v:Value) (n:Nat) (xs news:List Value) (T e:TypeId) (v':Value) (w':World):Prop where
 blk:w'.heap[b]? =some (.cells #[.pointer (some ⟨b,0,none⟩),v'] T (0,0))
 own:w'.ownsRow 0 e 1 v' (n+news.length) (xs++news)
 oth: ∀k,k<w.heap.size->k≠b->some k≠v.ownBlock->w'.heap[k]? =w.heap[k]?
 shp: ∀k x,w.shape? k=some x->w'.shape? k=some x
 new:v'.ownBlock=v.ownBlock\/ ∃g',v'.ownBlock=some g'/\w.heap.size<=g'
 nil:v'= .slice none 0 0<->v= .slice none 0 0/\news=[]
 out:w'.os=w.os/\w'.output=w.output
 size:w.heap.size<=w'.heap.size
structure Checked (w:World) (b:Nat) (v:Value) (T:TypeId) (w':World):Prop where
 blk:w'.heap[b]? =some (.cells #[.pointer (some ⟨b,0,none⟩),v] T (0,0))
 oth: ∀k,k≠b->w'.heap[k]? =w.heap[k]?
 out:w'.os=w.os/\w'.output=w.output
 size:w'.heap.size=w.heap.size
theorem setCell_blk {w:World} {b:Nat} {p v q:Value} {T:TypeId} (h:w.heap[b]? =some (.cells #[p,v] T (0,0))):(w.setCell ⟨b,0,none⟩ q).heap[b]? =some (.cells #[q,v] T (0,0)):=by
 simp[World.setCell,Array.getElem?_modify,h]
theorem setCell_blk1 {w:World} {b:Nat} {p v q:Value} {T:TypeId} (h:w.heap[b]? =some (.cells #[p,v] T (0,0))):(w.setCell ⟨b,1,none⟩ q).heap[b]? =some (.cells #[p,q] T (0,0)):=by
 simp[World.setCell,Array.getElem?_modify,h]
theorem setCell_oth {w:World} {b i k:Nat} {q:Value} (hk:k≠b):(w.setCell ⟨b,i,none⟩ q).heap[k]? =w.heap[k]? :=Below.heap_setCell _ _ _ _ (fun e=>hk (by simpa using e))
theorem checked (L:Lays.n240 P ρ) (X:Builder.X72 P ρ) (b:Nat) (p v:Value) (w:World) (hb:w.heap[b]? =some (.cells #[p,v] (ρ.t 72) (0,0))) (hp:p= .pointer none\/p= .pointer (some ⟨b,0,none⟩)):
 Calls P (ρ.f 240) #[.pointer (some ⟨b,0,none⟩)] w fun e w'=>e= .returned (.tuple #[])/\Checked w b v (ρ.t 72) w':=by
 have hc:w.cell? ⟨b,0,none⟩=some p:=by rw[Lib.cell_of_heap hb];rfl
 rcases hp with rfl | rfl
 ·refine(Any.Builder_copyCheck_fresh L X b w hc (by simp[World.shape?,hb]) (Lib.frozen_of_heap hb 0)).mono ?_
  rintro e w' ⟨rfl,rfl⟩
  exact⟨rfl,setCell_blk hb,fun k hk=>setCell_oth hk,⟨rfl,rfl⟩,by simp[World.setCell]⟩
 ·refine(Any.Builder_copyCheck_used L X b w hc).mono ?_
  rintro e w' ⟨rfl,rfl⟩
  exact⟨rfl,hb,fun _ _=>rfl,⟨rfl,rfl⟩,rfl⟩
theorem owned_keep {w w':World} {e:TypeId} {v:Value} {n:Nat} {xs:List Value} (h:w.ownsRow 0 e 1 v n xs) (hk: ∀k,v.ownBlock=some k->w'.heap[k]? =w.heap[k]?):w'.ownsRow 0 e 1 v n xs:=by
 refine⟨h.1,?_⟩
 rcases h.2 with hn | ⟨g,cap,cur,rfl,hb,hg,r⟩
 ·exact .inl hn
 ·exact .inr ⟨g,cap,cur,rfl,hb,by rw[hk g rfl];exact hg,r⟩
theorem lt_of_block {w:World} {b:Nat} {o:Go.Obj} (h:w.heap[b]? =some o):b<w.heap.size:=(Array.getElem?_eq_some_iff.1 h).1
theorem wrote_of {w w1 w2:World} {b:Nat} {p v v':Value} {n:Nat} {xs news:List Value} {T e:TypeId} (hb:w.heap[b]? =some (.cells #[p,v] T (0,0))) (hne:v.ownBlock≠some b) (hTe:T≠e)
 (h1:Checked w b v T w1) (wm:World) (hm: ∀k,k<w1.heap.size->wm.heap[k]? =w1.heap[k]?) (hms:w1.heap.size<=wm.heap.size) (hmo:wm.os=w1.os/\wm.output=w1.output) (h2:Added wm v n xs news e v' w2):Wrote w b v n xs news T e v' (w2.setCell ⟨b,1,none⟩ v'):=by
 have hbl:=lt_of_block h1.blk
 have hb2:w2.heap[b]? =some (.cells #[.pointer (some ⟨b,0,none⟩),v] T (0,0)):=by
  rw[h2.gr.block b (by omega) (fun e=>hne e.symm),hm b hbl];exact h1.blk
 have hshape: ∀k x,w.shape? k=some x->w1.shape? k=some x:=by
  intro k x hx
  by_cases hk:k=b
  ·subst hk
   simp only[World.shape?,hb,h1.blk]at hx⊢
   simpa using hx
  ·exact shape_of_block (h1.oth k hk) hx
 refine⟨setCell_blk1 hb2,?_,fun k hk hkb hkv=> ?_,fun k x hx=> ?_,?_,h2.nil,⟨?_,?_⟩,?_⟩
 ·refine owned_keep h2.own fun k hk=>setCell_oth ?_
  rintro rfl
  exact Lib.ownBlock_ne h2.own hb2 hTe hk
 ·have hk1:k<w1.heap.size:=by rw[h1.size];exact hk
  rw[setCell_oth hkb,h2.gr.block k (by omega) hkv,hm k hk1,h1.oth k hkb]
 ·have hx1:=hshape k x hx
  have hx2:=h2.shp k x (shape_of_block (hm k (lt_of_shape hx1)) hx1)
  by_cases hk:k=b
  ·subst hk
   simp only[World.shape?,hb2]at hx2
   simp only[World.shape?,setCell_blk1 hb2]
   simpa using hx2
  ·exact shape_of_block (setCell_oth hk) hx2
 ·rcases h2.blk with h | ⟨g',h,hg⟩
  ·exact .inl h
  ·exact .inr ⟨g',h,by have:=h1.size;omega⟩
 ·show w2.os=w.os
  rw[h2.gr.os,hmo.1,h1.out.1]
 ·show w2.output=w.output
  rw[h2.gr.output,hmo.2,h1.out.2]
 ·have:=h2.gr.size;have:=h1.size;simp[World.setCell];omega
set_option maxHeartbeats 2000000 in
set_option maxRecDepth 100000 in
theorem wrote_string (L:Lays.n166 P ρ) (X:Builder.Extra P ρ) (b:Nat) (p v:Value) (n:Nat) (xs:List Value) (s:ByteArray) (w:World) (hb:w.heap[b]? =some (.cells #[p,v] (ρ.t 72) (0,0)))
 (hp:p= .pointer none\/p= .pointer (some ⟨b,0,none⟩)) (hown:w.ownsRow 0 (ρ.t 5) 1 v n xs) (hlen:n+s.size<=140737488355328):
 Calls P (ρ.f 166) #[.pointer (some ⟨b,0,none⟩),.string s] w fun e w'=>e= .returned (.tuple #[.int .i64 s.size,.nilIface])/\ ∃v',Wrote w b v n xs (Lib.strCells s) (ρ.t 72) (ρ.t 5) v' w':=by
 obtain⟨i0,hi,hz0,hz1,hz2⟩:=info_parts X.infoByte
 have hne:=Lib.ownBlock_ne hown hb X.neB5
 have mixed:=L.mixed
 have t72:=L.t72;have a72:=L.a72;have z72:=L.z72;have v72:=L.v72;have u72:=run_underlying L.t72
 have t70:=L.t70;have a70:=L.a70;have z70:=L.z70;have v70:=L.v70;have u70:=run_underlying L.t70
 have t37:=L.t37;have a37:=L.a37;have z37:=L.z37;have v37:=L.v37;have u37:=run_underlying L.t37
 have t3:=L.t3;have a3:=L.a3;have z3:=L.z3;have v3:=L.v3;have u3:=run_underlying L.t3
 have t9:=L.t9;have a9:=L.a9;have z9:=L.z9;have v9:=L.v9;have u9:=run_underlying L.t9
 have t4:=L.t4;have a4:=L.a4;have z4:=L.z4;have v4:=L.v4;have u4:=run_underlying L.t4
 have t164:=L.t164;have a164:=L.a164;have z164:=L.z164;have v164:=L.v164;have u164:=run_underlying L.t164
 have t5:=X.t5;have a5:=X.a5;have z5:=X.z5;have v5:=X.v5;have u5:=run_underlying X.t5
 have e240: ∀args w,(callFunc (ρ.f 240) args).run P w= .ok (.enter (ρ.f 240) args) w:=enters_of L.f240 (by kernel_rfl) rfl
 go_enter L.f166,Body.n166_ntmps ρ
 go_wp2_with (go_at_fn (ρ.f 240);refine(checked { L with } X.toX72 b p v _ hb hp).mono ?_)
 rintro e w1 ⟨rfl,h1⟩
 have hown1:w1.ownsRow 0 (ρ.t 5) 1 v n xs:=owned_keep hown fun k hk=>h1.oth k (fun e=>hne (e▸hk))
 have c0:w1.cell? ⟨b,0,none⟩=some (.pointer (some ⟨b,0,none⟩)):=by rw[Lib.cell_of_heap h1.blk];rfl
 have c1:w1.cell? ⟨b,1,none⟩=some v:=by rw[Lib.cell_of_heap h1.blk];rfl
 go_wp2_with (at_builtin;refine wpList_added_string _ rfl _ _ (ρ.t 37) (ρ.t 9) rfl (ρ.t 5) i0 L.t37 L.t9 hi hz0 hz1 hz2 _ _ _ rfl hown1 s rfl hlen ?_)
 intro v' w2 h2
 have hb2:w2.heap[b]? =some (.cells #[.pointer (some ⟨b,0,none⟩),v] (ρ.t 72) (0,0)):=by
  rw[h2.gr.block b (lt_of_block h1.blk) (fun e=>hne e.symm)];exact h1.blk
 have d0:w2.cell? ⟨b,0,none⟩=some (.pointer (some ⟨b,0,none⟩)):=by rw[Lib.cell_of_heap hb2];rfl
 have d1:w2.cell? ⟨b,1,none⟩=some v:=by rw[Lib.cell_of_heap hb2];rfl
 have f1:w2.frozen? ⟨b,1,none⟩=false:=Lib.frozen_of_heap hb2 1
 obtain⟨ao,n',cap,rfl⟩: ∃ao n' cap,v'= .slice ao n' cap:=by
  rcases h2.own.2 with⟨hv,_⟩ | ⟨g,cap,cur,hv,_⟩
  ·exact⟨_,_,_,hv⟩
  ·exact⟨_,_,_,hv⟩
 go_wp2
 go_ret2
 exact⟨rfl,_,wrote_of hb hne X.neB5 h1 w1 (fun _ _=>rfl) (Nat.le_refl _) ⟨rfl,rfl⟩ h2⟩
structure Took (w:World) (g:Option Nat) (w':World):Prop where
 oth: ∀k,some k≠g->w'.heap[k]? =w.heap[k]?
 shp: ∀k x,w.shape? k=some x->w'.shape? k=some x
 out:w'.os=w.os/\w'.output=w.output
 size:w'.heap.size=w.heap.size
theorem took_freeze (w:World) (g n:Nat) {cur:Array Value} {e:TypeId} {z:Nat×Nat} (hg:w.heap[g]? =some (.cells cur e z)):Took w (some g) (w.drew.freeze ⟨g,0,none⟩ n):=by
 have hh: ∀k,some k≠some g->(w.drew.freeze ⟨g,0,none⟩ n).heap[k]? =w.heap[k]? :=by
  intro k hk
  have hk':g≠k:=fun e=>hk (by rw[e])
  unfold World.freeze
  split
  ·rfl
  ·simp only[Array.getElem?_modify,if_neg hk'];rfl
 refine⟨hh,fun k x hx=> ?_,?_,?_⟩
 ·by_cases hk:k=g
  ·subst hk
   simp only[World.shape?,hg]at hx
   unfold World.freeze
   split
   ·have hg':w.drew.heap[k]? =some (.cells cur e z):=hg
    simpa[World.shape?,hg']using hx
   ·have hg':w.drew.heap[k]? =some (.cells cur e z):=hg
    simp only[World.shape?,Array.getElem?_modify,hg',if_true,Option.map_some]
    simpa using hx
  ·exact shape_of_block (hh k (fun e=>hk (by simpa using e))) hx
 ·unfold World.freeze;split<;>exact⟨rfl,rfl⟩
 ·unfold World.freeze;split<;>simp
set_option maxHeartbeats 2000000 in
set_option maxRecDepth 100000 in
theorem took_string (L:Lays.n169 P ρ) (X:Builder.Extra P ρ) (b:Nat) (p:Value) (g cap:Nat) (l:List UInt8) (w:World) (hb:w.heap[b]? =some (.cells #[p,.slice (some ⟨g,0,none⟩) l.length cap] (ρ.t 72) (0,0)))
 (hown:w.ownsRow 0 (ρ.t 5) 1 (.slice (some ⟨g,0,none⟩) l.length cap) l.length (Lib.byteCells l)) (h0:l≠[]):
 Calls P (ρ.f 169) #[.pointer (some ⟨b,0,none⟩)] w fun e w'=>e= .returned (.string ⟨l.toArray⟩)/\Took w (some g) w':=by
 have hl0:l.length≠0:=by simpa using h0
 obtain⟨cur,hg,hnc,hcm,hcs,htake⟩: ∃cur,w.heap[g]? =some (.cells cur (ρ.t 5) (0,0))/\l.length<=cap/\cap<=maxLen/\cur.size=cap*1/\cur.toList.take (l.length*1)=Lib.byteCells l:=by
  rcases hown.2 with⟨hv,_⟩ | ⟨g',cap',cur,hv,_,r⟩
  ·cases hv
  ·cases hv;exact⟨cur,r⟩
 have c1:w.drew.cell? ⟨b,1,none⟩=some (.slice (some ⟨g,0,none⟩) l.length cap):=by
  have:w.drew.heap[b]? =some (.cells #[p,.slice (some ⟨g,0,none⟩) l.length cap] (ρ.t 72) (0,0)):=hb
  rw[Lib.cell_of_heap this];rfl
 have hSD:(Builtin.unsafeSliceData_ #[(ρ.t 37)] (ρ.t 127) #[.slice (some ⟨g,0,none⟩) l.length cap]).run P w.drew= .ok (.pointer (some ⟨g,0,none⟩)) w.drew:=
  Lib.run_unsafeSliceData_row _ _ _ _ _ _ (by omega)
 have hUS:(Builtin.unsafeString_ #[(ρ.t 127),(ρ.t 3)] (ρ.t 9) #[.pointer (some ⟨g,0,none⟩),.int .i64 l.length]).run P w.drew= .ok (.string ⟨l.toArray⟩) (w.drew.freeze ⟨g,0,none⟩ l.length):=by
  refine Lib.run_unsafeString_row w.drew (ρ.t 127) (ρ.t 3) (ρ.t 9) (ρ.t 5) L.t127 X.cellsByte g cur.size (by have hg':w.drew.heap[g]? =some (.cells cur (ρ.t 5) (0,0)):=hg;simp[World.shape?,hg']) l h0 (by omega) (by unfold maxLen at hcm;omega) ?_
  intro j x hx
  have:=hown.cells (g:=g) rfl j (.int .u8 x.toNat) (by simp[Lib.byteCells,hx])
  exact this
 have hfin:=took_freeze w g l.length hg
 have mixed:=L.mixed
 have t72:=L.t72;have a72:=L.a72;have z72:=L.z72;have v72:=L.v72;have u72:=run_underlying L.t72
 have t70:=L.t70;have a70:=L.a70;have z70:=L.z70;have v70:=L.v70;have u70:=run_underlying L.t70
 have t37:=L.t37;have a37:=L.a37;have z37:=L.z37;have v37:=L.v37;have u37:=run_underlying L.t37
 have t127:=L.t127;have a127:=L.a127;have z127:=L.z127;have v127:=L.v127;have u127:=run_underlying L.t127
 have t3:=L.t3;have a3:=L.a3;have z3:=L.z3;have v3:=L.v3;have u3:=run_underlying L.t3
 have t9:=L.t9;have a9:=L.a9;have z9:=L.z9;have v9:=L.v9;have u9:=run_underlying L.t9
 have t5:=X.t5;have a5:=X.a5;have z5:=X.z5;have v5:=X.v5;have u5:=run_underlying X.t5
 go_enter L.f169,Body.n169_ntmps ρ
 go_wp2
 go_region_o
 all_goals(go_wp2;go_ret;exact⟨rfl,hfin⟩)
set_option maxHeartbeats 2000000 in
set_option maxRecDepth 100000 in
theorem took_empty (L:Lays.n169 P ρ) (X:Builder.Extra P ρ) (b:Nat) (p:Value) (w:World) (hbk:w.heap[b]? =some (.cells #[p,.slice none 0 0] (ρ.t 72) (0,0))):
 Calls P (ρ.f 169) #[.pointer (some ⟨b,0,none⟩)] w fun e w'=>e= .returned (.string ⟨#[]⟩)/\Took w none w':=by
 have hUS:=Any.unsafeString_none L X
 have c1:w.drew.cell? ⟨b,1,none⟩=some (.slice none 0 0):=by
  have:w.drew.heap[b]? =some (.cells #[p,.slice none 0 0] (ρ.t 72) (0,0)):=hbk
  rw[Lib.cell_of_heap this];rfl
 have hSD:(Builtin.unsafeSliceData_ #[(ρ.t 37)] (ρ.t 127) #[.slice none 0 0]).run P w.drew= .ok (.pointer none) w.drew:=rfl
 have hfin:Took w none w.drew:=⟨fun _ _=>rfl,fun _ _ h=>h,⟨rfl,rfl⟩,rfl⟩
 have mixed:=L.mixed
 have t72:=L.t72;have a72:=L.a72;have z72:=L.z72;have v72:=L.v72;have u72:=run_underlying L.t72
 have t70:=L.t70;have a70:=L.a70;have z70:=L.z70;have v70:=L.v70;have u70:=run_underlying L.t70
 have t37:=L.t37;have a37:=L.a37;have z37:=L.z37;have v37:=L.v37;have u37:=run_underlying L.t37
 have t127:=L.t127;have a127:=L.a127;have z127:=L.z127;have v127:=L.v127;have u127:=run_underlying L.t127
 have t3:=L.t3;have a3:=L.a3;have z3:=L.z3;have v3:=L.v3;have u3:=run_underlying L.t3
 have t9:=L.t9;have a9:=L.a9;have z9:=L.z9;have v9:=L.v9;have u9:=run_underlying L.t9
 have t5:=X.t5;have a5:=X.a5;have z5:=X.z5;have v5:=X.v5;have u5:=run_underlying X.t5
 go_enter L.f169,Body.n169_ntmps ρ
 go_wp2
 go_region_o
 all_goals(go_wp2;go_ret;exact⟨rfl,hfin⟩)
end Rg
end

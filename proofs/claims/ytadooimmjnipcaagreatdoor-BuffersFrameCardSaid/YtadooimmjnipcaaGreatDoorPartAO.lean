/- Part of the proof of the laws of the package relyguardlaw12: an abstract machine for the program's functions, what they compute, and that the machine is the program's. No condition. (FnTab RgExt LayR2 SeatR2) -/
import Derived.Test.YtadooimmjnipcaaGreatDoorPartAM
import Derived.Test.YtadooimmjnipcaaGreatDoorPartAN
import Derived.Shelf.Sort.Plain
import Derived.Shelf.Slices.In.SortNone
import Derived.Shelf.Slices.CompactI
import Derived.Shelf.Slices.Clone
import Derived.Test.YtadooimmjnipcaaGreatDoorPartAK
import Derived.Test.YtadooimmjnipcaaGreatDoorRows
import Derived.KernelRfl
section
namespace Rg
open Go
def tabL:List (Nat×F):=[(9,f9),
 (11,f11),
 (12,f12),
 (17,f17),
 (18,f18),
 (20,f20),
 (23,f23),
 (24,f24),
 (27,f27),
 (28,f28),
 (33,f33),
 (34,f34),
 (36,f36),
 (37,f37),
 (38,f38),
 (40,f40),
 (43,f43),
 (44,f44),
 (45,f45),
 (46,f46),
 (47,f47),
 (48,f48),
 (49,f49),
 (51,f51),
 (56,f56),
 (57,f57),
 (60,f60),
 (61,f61),
 (64,f64),
 (65,f65),
 (67,f67),
 (68,f68),
 (70,f70),
 (71,f71),
 (72,f72),
 (73,f73),
 (74,f74),
 (75,f75),
 (76,f76),
 (77,f77),
 (78,f78),
 (79,f79),
 (80,f80),
 (81,f81),
 (82,f82),
 (83,f83),
 (84,f84),
 (85,f85),
 (86,f86),
 (87,f87),
 (88,f88),
 (89,f89),
 (91,f91),
 (92,f92),
 (95,f95),
 (96,f96),
 (97,f97),
 (98,f98),
 (99,f99),
 (100,f100),
 (101,f101),
 (102,f102),
 (103,f103),
 (104,f104),
 (105,f105),
 (106,f106),
 (107,f107),
 (108,f108),
 (109,f109),
 (110,f110),
 (111,f111),
 (112,f112),
 (113,f113),
 (114,f114),
 (115,f115),
 (116,f116),
 (131,f131),
 (132,f132),
 (133,f133),
 (134,f134),
 (135,f135),
 (136,f136),
 (137,f137),
 (138,f138),
 (145,f145),
 (146,f146),
 (147,f147),
 (148,f148),
 (149,f149),
 (150,f150),
 (151,f151),
 (152,f152),
 (153,f153),
 (154,f154),
 (155,f155),
 (156,f156),
 (157,f157),
 (158,f158),
 (159,f159),
 (161,f161),
 (162,f162),
 (163,f163),
 (164,f164),
 (165,f165),
 (166,f166),
 (168,f168),
 (169,f169),
 (170,f170),
 (171,f171),
 (172,f172),
 (173,f173),
 (174,f174),
 (175,f175),
 (176,f176),
 (177,f177),
 (178,f178),
 (179,f179),
 (180,f180),
 (181,f181),
 (182,f182),
 (183,f183),
 (184,f184),
 (185,f185),
 (186,f186),
 (187,f187),
 (188,f188),
 (189,f189),
 (190,f190),
 (191,f191),
 (192,f192),
 (193,f193),
 (194,f194),
 (195,f195),
 (196,f196),
 (197,f197),
 (198,f198),
 (199,f199),
 (200,f200),
 (201,f201),
 (202,f202),
 (203,f203),
 (204,f204),
 (205,f205),
 (206,f206),
 (207,f207)]
def Γ:Nat->Option F:=fun k=>tabL.lookup k
def G:Nat->List T:=fun _=>[.int .i64 0, .int .i64 1, .int .i64 3, .int .i64 7, .int .i64 15, .int .i64 31, .int .i64 63, .int .i64 127, .int .i64 255]
theorem Γ9:Γ 9=some f9:=by rfl
theorem Γ11:Γ 11=some f11:=by rfl
theorem Γ12:Γ 12=some f12:=by rfl
theorem Γ17:Γ 17=some f17:=by rfl
theorem Γ18:Γ 18=some f18:=by rfl
theorem Γ20:Γ 20=some f20:=by rfl
theorem Γ23:Γ 23=some f23:=by rfl
theorem Γ24:Γ 24=some f24:=by rfl
theorem Γ27:Γ 27=some f27:=by rfl
theorem Γ28:Γ 28=some f28:=by rfl
theorem Γ33:Γ 33=some f33:=by rfl
theorem Γ34:Γ 34=some f34:=by rfl
theorem Γ36:Γ 36=some f36:=by rfl
theorem Γ37:Γ 37=some f37:=by rfl
theorem Γ38:Γ 38=some f38:=by rfl
theorem Γ40:Γ 40=some f40:=by rfl
theorem Γ43:Γ 43=some f43:=by rfl
theorem Γ44:Γ 44=some f44:=by rfl
theorem Γ45:Γ 45=some f45:=by rfl
theorem Γ46:Γ 46=some f46:=by rfl
theorem Γ47:Γ 47=some f47:=by rfl
theorem Γ48:Γ 48=some f48:=by rfl
theorem Γ49:Γ 49=some f49:=by rfl
theorem Γ51:Γ 51=some f51:=by rfl
theorem Γ56:Γ 56=some f56:=by rfl
theorem Γ57:Γ 57=some f57:=by rfl
theorem Γ60:Γ 60=some f60:=by rfl
theorem Γ61:Γ 61=some f61:=by rfl
theorem Γ64:Γ 64=some f64:=by rfl
theorem Γ65:Γ 65=some f65:=by rfl
theorem Γ67:Γ 67=some f67:=by rfl
theorem Γ68:Γ 68=some f68:=by rfl
theorem Γ70:Γ 70=some f70:=by rfl
theorem Γ71:Γ 71=some f71:=by rfl
theorem Γ72:Γ 72=some f72:=by rfl
theorem Γ73:Γ 73=some f73:=by rfl
theorem Γ74:Γ 74=some f74:=by rfl
theorem Γ75:Γ 75=some f75:=by rfl
theorem Γ76:Γ 76=some f76:=by rfl
theorem Γ77:Γ 77=some f77:=by rfl
theorem Γ78:Γ 78=some f78:=by rfl
theorem Γ79:Γ 79=some f79:=by rfl
theorem Γ80:Γ 80=some f80:=by rfl
theorem Γ81:Γ 81=some f81:=by rfl
theorem Γ82:Γ 82=some f82:=by rfl
theorem Γ83:Γ 83=some f83:=by rfl
theorem Γ84:Γ 84=some f84:=by rfl
theorem Γ85:Γ 85=some f85:=by rfl
theorem Γ86:Γ 86=some f86:=by rfl
theorem Γ87:Γ 87=some f87:=by rfl
theorem Γ88:Γ 88=some f88:=by rfl
theorem Γ89:Γ 89=some f89:=by rfl
theorem Γ91:Γ 91=some f91:=by rfl
theorem Γ92:Γ 92=some f92:=by rfl
theorem Γ95:Γ 95=some f95:=by rfl
theorem Γ96:Γ 96=some f96:=by rfl
theorem Γ97:Γ 97=some f97:=by rfl
theorem Γ98:Γ 98=some f98:=by rfl
theorem Γ99:Γ 99=some f99:=by rfl
theorem Γ100:Γ 100=some f100:=by rfl
theorem Γ101:Γ 101=some f101:=by rfl
theorem Γ102:Γ 102=some f102:=by rfl
theorem Γ103:Γ 103=some f103:=by rfl
theorem Γ104:Γ 104=some f104:=by rfl
theorem Γ105:Γ 105=some f105:=by rfl
theorem Γ106:Γ 106=some f106:=by rfl
theorem Γ107:Γ 107=some f107:=by rfl
theorem Γ108:Γ 108=some f108:=by rfl
theorem Γ109:Γ 109=some f109:=by rfl
theorem Γ110:Γ 110=some f110:=by rfl
theorem Γ111:Γ 111=some f111:=by rfl
theorem Γ112:Γ 112=some f112:=by rfl
theorem Γ113:Γ 113=some f113:=by rfl
theorem Γ114:Γ 114=some f114:=by rfl
theorem Γ115:Γ 115=some f115:=by rfl
theorem Γ116:Γ 116=some f116:=by rfl
theorem Γ131:Γ 131=some f131:=by rfl
theorem Γ132:Γ 132=some f132:=by rfl
theorem Γ133:Γ 133=some f133:=by rfl
theorem Γ134:Γ 134=some f134:=by rfl
theorem Γ135:Γ 135=some f135:=by rfl
theorem Γ136:Γ 136=some f136:=by rfl
theorem Γ137:Γ 137=some f137:=by rfl
theorem Γ138:Γ 138=some f138:=by rfl
theorem Γ145:Γ 145=some f145:=by rfl
theorem Γ146:Γ 146=some f146:=by rfl
theorem Γ147:Γ 147=some f147:=by rfl
theorem Γ148:Γ 148=some f148:=by rfl
theorem Γ149:Γ 149=some f149:=by rfl
theorem Γ150:Γ 150=some f150:=by rfl
theorem Γ151:Γ 151=some f151:=by rfl
theorem Γ152:Γ 152=some f152:=by rfl
theorem Γ153:Γ 153=some f153:=by rfl
theorem Γ154:Γ 154=some f154:=by rfl
theorem Γ155:Γ 155=some f155:=by rfl
theorem Γ156:Γ 156=some f156:=by rfl
theorem Γ157:Γ 157=some f157:=by rfl
theorem Γ158:Γ 158=some f158:=by rfl
theorem Γ159:Γ 159=some f159:=by rfl
theorem Γ161:Γ 161=some f161:=by rfl
theorem Γ162:Γ 162=some f162:=by rfl
theorem Γ163:Γ 163=some f163:=by rfl
theorem Γ164:Γ 164=some f164:=by rfl
theorem Γ165:Γ 165=some f165:=by rfl
theorem Γ166:Γ 166=some f166:=by rfl
theorem Γ168:Γ 168=some f168:=by rfl
theorem Γ169:Γ 169=some f169:=by rfl
theorem Γ170:Γ 170=some f170:=by rfl
theorem Γ171:Γ 171=some f171:=by rfl
theorem Γ172:Γ 172=some f172:=by rfl
theorem Γ173:Γ 173=some f173:=by rfl
theorem Γ174:Γ 174=some f174:=by rfl
theorem Γ175:Γ 175=some f175:=by rfl
theorem Γ176:Γ 176=some f176:=by rfl
theorem Γ177:Γ 177=some f177:=by rfl
theorem Γ178:Γ 178=some f178:=by rfl
theorem Γ179:Γ 179=some f179:=by rfl
theorem Γ180:Γ 180=some f180:=by rfl
theorem Γ181:Γ 181=some f181:=by rfl
theorem Γ182:Γ 182=some f182:=by rfl
theorem Γ183:Γ 183=some f183:=by rfl
theorem Γ184:Γ 184=some f184:=by rfl
theorem Γ185:Γ 185=some f185:=by rfl
theorem Γ186:Γ 186=some f186:=by rfl
theorem Γ187:Γ 187=some f187:=by rfl
theorem Γ188:Γ 188=some f188:=by rfl
theorem Γ189:Γ 189=some f189:=by rfl
theorem Γ190:Γ 190=some f190:=by rfl
theorem Γ191:Γ 191=some f191:=by rfl
theorem Γ192:Γ 192=some f192:=by rfl
theorem Γ193:Γ 193=some f193:=by rfl
theorem Γ194:Γ 194=some f194:=by rfl
theorem Γ195:Γ 195=some f195:=by rfl
theorem Γ196:Γ 196=some f196:=by rfl
theorem Γ197:Γ 197=some f197:=by rfl
theorem Γ198:Γ 198=some f198:=by rfl
theorem Γ199:Γ 199=some f199:=by rfl
theorem Γ200:Γ 200=some f200:=by rfl
theorem Γ201:Γ 201=some f201:=by rfl
theorem Γ202:Γ 202=some f202:=by rfl
theorem Γ203:Γ 203=some f203:=by rfl
theorem Γ204:Γ 204=some f204:=by rfl
theorem Γ205:Γ 205=some f205:=by rfl
theorem Γ206:Γ 206=some f206:=by rfl
theorem Γ207:Γ 207=some f207:=by rfl
end Rg
end
section
namespace Rg
open Go Go.Sort Go.Shelf
theorem intsOf_get : ∀ {rs:List (List V)} {zs:List Int},intsOf rs=some zs->rs.length=zs.length /\ ∀ (i:Nat) (z:Int),zs[i]? = some z->rs[i]? = some [.t (.int .i64 z)]
 | [],zs,h=>by simp only [intsOf,Option.some.injEq] at h; subst h; simp
 | row::r,zs,h=>by
  unfold intsOf at h
  split at h
  ·rename_i h0; simp at h0
  ·rename_i z r' h0
   simp only [List.cons.injEq] at h0
   obtain ⟨rfl,rfl⟩:=h0
   rw [Option.map_eq_some_iff] at h
   obtain ⟨zs',hz,rfl⟩:=h
   obtain ⟨h1,h2⟩:=intsOf_get hz
   refine ⟨by simp [h1],fun i z' hi => ?_⟩
   cases i with
   | zero=>simp at hi; subst hi; rfl
   | succ i=>simpa using h2 i z' (by simpa using hi)
  ·cases h
theorem putCells_get (c:Array Value) (ys:List Int) (j:Nat):(putCells (Value.int .i64) 0 ys.toArray c)[j]? = (c[j]?).map fun x=>match ys[j]? with | some y=>Value.int .i64 y | none=>x:=by
 unfold putCells
 rw [Array.getElem?_mapIdx]
 cases hc:c[j]? with
 | none=>rfl
 | some x =>
  simp only [Option.map_some,Option.some.injEq]
  by_cases hj:j<ys.length
  ·rw [if_pos (by simp [hj]),List.getElem?_eq_getElem hj]
   simp [hj]
  ·rw [if_neg (by simp; omega),List.getElem?_eq_none (by omega)]
theorem putRow_shape (w:World) (q b:Nat) (ys:List Int) (r:Nat) (x:TypeId×Nat) (hx:w.shape? r=some x):(putRow (Value.int .i64) (Sort.ahead w q) b 0 ys.toArray).shape? r=some x:=by
 unfold World.shape? at hx ⊢
 simp only [putRow,mapBlock,Sort.ahead,Array.getElem?_modify]
 by_cases h:b=r
 ·subst h
  rw [if_pos rfl]
  cases ho:w.heap[b]? with
  | none=>rw [ho] at hx; cases hx
  | some o =>
   rw [ho] at hx
   cases o with
   | cells c e fr=>simpa [onCells,putCells] using hx
   | _=>cases hx
 ·rw [if_neg h]; exact hx
section
variable {N:Nam} {c:Ctx} {A:Nat->Prop} {μ lam:Nat->Nat} {w:World} {H:Nat->Option O} {n:Nat}
theorem rel_putInts (R:Rel N c 0 A μ lam (.init [] H n) bareAct w) {k:Nat} {rs:List (List V)} (hk:H k=some (.rows 1 rs false)) (ys:List Int) (hl:ys.length=rs.length) (q:Nat) :
 Rel N c 0 A μ lam (.init [] (upd H k (some (.rows 1 (ofInts ys) false))) n) bareAct (putRow (Value.int .i64) (Sort.ahead w q) (μ k) 0 ys.toArray):=by
 obtain ⟨cc,e0,z,h1,h2,h3,h4,h5⟩:=R.heap k _ hk
 have hz:=h2 rfl
 subst hz
 have hget : ∀ r,(putRow (Value.int .i64) (Sort.ahead w q) (μ k) 0 ys.toArray).heap[r]? = if μ k=r then (w.heap[r]?).map (onCells (putCells (Value.int .i64) 0 ys.toArray)) else w.heap[r]? := by
  intro r
  simp only [putRow,mapBlock,Sort.ahead,Array.getElem?_modify]
 refine R.changeH (o' := .rows 1 (ofInts ys) false) hk ⟨rfl,by simp [ofInts,hl]⟩ rfl (by simp) (by simp) rfl ?_ ?_ ?_ ?_ ⟨rfl,rfl⟩
 ·simp [putRow,mapBlock,Sort.ahead]
 ·intro r hr
  rw [hget,if_neg (fun h=>hr h.symm)]
 ·exact fun r x hx=>putRow_shape w q (μ k) ys r x hx
 ·intro E
  refine ⟨putCells (Value.int .i64) 0 ys.toArray cc,e0,(0,0), ?_,fun _=>rfl, ?_, ?_, ?_⟩
  ·rw [hget,if_pos rfl,h1]; rfl
  ·have:(putCells (Value.int .i64) 0 ys.toArray cc).size=cc.size:=by simp [putCells]
   rw [this]; simp [ofInts,hl]; omega
  ·intro i row hi
   simp only [ofInts,List.getElem?_map,Option.map_eq_some_iff] at hi
   obtain ⟨y,_,rfl⟩:=hi
   rfl
  ·intro i row j x hi hj
   simp only [ofInts,List.getElem?_map,Option.map_eq_some_iff] at hi
   obtain ⟨y,hy,rfl⟩:=hi
   have hj0:j=0:=by
    have:=(List.getElem?_eq_some_iff.1 hj).1
    simp at this; exact this
   subst hj0
   simp only [List.getElem?_cons_zero,Option.some.injEq] at hj
   subst hj
   have hlt:i<ys.length:=(List.getElem?_eq_some_iff.1 hy).1
   obtain ⟨row,hrow⟩ : ∃ row,rs[i]? = some row:=⟨_,List.getElem?_eq_getElem (by omega)⟩
   have hrl:=h4 i row hrow
   obtain ⟨x0,hx0⟩ : ∃ x0,row[0]? = some x0:=⟨_,List.getElem?_eq_getElem (by omega)⟩
   obtain ⟨v,hv,_⟩:=h5 i row 0 x0 hrow hx0
   refine ⟨.int .i64 y, ?_, .t (.int _ _)⟩
   rw [putCells_get,hv]
   simp [hy]
theorem rel_grow (R:Rel N c 0 A μ lam (.init [] H n) bareAct w) (os:Array Obj):Rel N c 0 A μ lam (.init [] H n) bareAct (grow w os):=by
 have hget : ∀ r,r<w.heap.size->(grow w os).heap[r]? = w.heap[r]? := fun r hr=>by simp [grow,Array.getElem?_append,hr]
 refine R.world (by simp [grow]) ?_ ?_ ?_ (Marks.nil _ _ _) ⟨rfl,rfl⟩
 ·rintro r (h | h | ⟨k,o,hk,hl,rfl⟩)
  ·exact hget r (R.alt r h)
  ·obtain ⟨t,ht,_⟩:=h
   simp [St.init] at ht
  ·exact hget _ (R.lt_live hk hl)
 ·intro r hr _
  exact hget r (Nat.lt_of_lt_of_le hr R.csize)
 ·intro r x hx
  unfold World.shape? at hx ⊢
  by_cases hr:r<w.heap.size
  ·rw [hget r hr]; exact hx
  ·rw [Array.getElem?_eq_none (by omega)] at hx; cases hx
theorem rel_below (R:Rel N c 0 A μ lam (.init [] H n) bareAct w) {w' : World} (hb:Go.RowKit.Below w.heap.size w w'):Rel N c 0 A μ lam (.init [] H n) bareAct w' := by
 refine R.world hb.size ?_ ?_ ?_ (Marks.nil _ _ _) ⟨hb.os,hb.output⟩
 ·rintro r (h | h | ⟨k,o,hk,hl,rfl⟩)
  ·exact hb.block r (R.alt r h)
  ·obtain ⟨t,ht,_⟩:=h
   simp [St.init] at ht
  ·exact hb.block _ (R.lt_live hk hl)
 ·intro r hr _
  exact hb.block r (Nat.lt_of_lt_of_le hr R.csize)
 ·intro r x hx
  unfold World.shape? at hx ⊢
  by_cases hr:r<w.heap.size
  ·rw [hb.block r hr]; exact hx
  ·rw [Array.getElem?_eq_none (by omega)] at hx; cases hx
theorem own_ints (R:Rel N c 0 A μ lam (.init [] H n) bareAct w) {k len:Nat} {rs:List (List V)} {zs:List Int} (hk:H k=some (.rows 1 rs false)) (hz:intsOf rs=some zs) (hl:zs.length=len)
 {v:Value} (hv:RepV w A N.nm μ H v (.ms k 0 len)) :
 ∃ a cap,v = .slice a zs.length cap/\zs.length<=cap/\(zs=[]\/a=some ⟨μ k,0,none⟩)/\Holds (Value.int .i64) w (μ k) 0 zs.toArray/\μ k<w.heap.size/\(cap=0\/(a=some ⟨μ k,0,none⟩ /\ ∃ e m,w.shape? (μ k)=some (e,m)/\cap<=m)):=by
 obtain ⟨i1,i2⟩:=intsOf_get hz
 obtain ⟨cc,e0,z,h1,h2,h3,h4,h5⟩:=R.heap k _ hk
 have hzz:=h2 rfl
 subst hzz
 have hlt:μ k<w.heap.size:=R.lt_live hk rfl
 have hH:Holds (Value.int .i64) w (μ k) 0 zs.toArray:=by
  intro j hj
  have hj' : j<zs.length:=by simpa using hj
  refine ⟨?_,by simp [World.frozen?,h1]⟩
  have hzj:zs[j]? = some zs[j]:=List.getElem?_eq_getElem hj'
  obtain ⟨u,hu,hr⟩:=h5 j _ 0 _ (i2 j _ hzj) rfl
  cases hr with
  | t hr =>
   cases hr
   simp only [World.cell?,h1,Nat.zero_add]
   simp only [Nat.mul_one,Nat.add_zero] at hu
   simp [hu,hj']
 have hv1:RepC w A N.nm μ H v (.ms k 0 len):=hv
 cases hv1 with
 | ms _ _ _ cap sz rs' frz a hk' hi hc ha =>
  rw [hk] at hk'; cases hk'
  subst hl
  refine ⟨a,cap,rfl,by omega, ?_,hH,hlt, ?_⟩
  ·rcases ha with h0 | ⟨rfl,_⟩
   ·exact .inl (List.eq_nil_of_length_eq_zero (by omega))
   ·exact .inr (by simp)
  ·rcases ha with h0 | ⟨rfl,e,m,hs,hm⟩
   ·exact .inl h0
   ·exact .inr ⟨by simp,e,m,hs,by omega⟩
 | dms _ _ _ hk' _=>rw [hk] at hk'; cases hk'
end
theorem one_arg {w:World} {A:Nat->Prop} {nm μ:Nat->Nat} {H:Nat->Option O} {vs:Array Value} {x:V} (h:RepArgs w A nm μ H vs [x]) : ∃ v,vs = #[v]/\RepV w A nm μ H v x:=by
 obtain ⟨h1,h2⟩:=h
 obtain ⟨v,hv,hr⟩:=h2 0 x rfl
 refine ⟨v, ?_,hr⟩
 apply Array.ext_getElem?
 intro i
 cases i with
 | zero=>simpa using hv
 | succ i=>rw [Array.getElem?_eq_none (by simp at h1; omega),Array.getElem?_eq_none (by simp)]
theorem upd_id {H:Nat->Option O} {k:Nat} {o:O} (h:H k=some o):upd H k (some o)=H:=by
 funext j; unfold upd; split
 ·rename_i e; rw [e,h]
 ·rfl
theorem intsOf_nil {rs:List (List V)} (h:intsOf rs=some []):rs=[]:=List.eq_nil_of_length_eq_zero (by simpa using (intsOf_get h).1)
theorem ext_sort {P:Program} {N:Nam} {g:Nat} {ρ:Ren} (Ly:Go.Proofs.Lays.n189 P ρ) (hf:ρ.f 189=N.nm g) {rf:Func} (hr:Real P (N.nm g) rf):ExtOK P N g .sortI:=by
 refine ⟨⟨rf,hr⟩,fun args H n r H' n' h c A μ lam w vs R ha => ?_⟩
 rw [<- hf]
 unfold extSem at h
 split at h
 all_goals (try contradiction)
 ·cases h
  obtain ⟨v,rfl,hv⟩:=one_arg ha
  cases hv.t_inv
  refine (Go.Proofs.Any.slices_Sort_int_none Ly _ _ w).mono ?_
  rintro e w' ⟨rfl,rfl⟩
  exact ⟨_,A,μ,lam,rfl,R,⟨#[],rfl,rfl,by simp⟩⟩
 ·rename_i k len _
  split at h
  ·rename_i rs hk
   simp only [Option.bind_eq_some_iff] at h
   obtain ⟨zs,hz,h⟩:=h
   split at h
   ·rename_i hl
    cases h
    obtain ⟨v,rfl,hv⟩:=one_arg ha
    obtain ⟨a,cap,rfl,hc,hor,hH,hlt,_⟩:=own_ints R hk hz hl.1 hv
    by_cases h0:zs=[]
    ·subst h0
     refine (Go.Proofs.Any.slices_Sort_int_none Ly _ _ w).mono ?_
     rintro e w' ⟨rfl,rfl⟩
     have hrs:=intsOf_nil hz
     subst hrs
     refine ⟨_,A,μ,lam,rfl, ?_,⟨#[],rfl,rfl,by simp⟩⟩
     rw [List.mergeSort_nil,show ofInts []=[] from rfl,upd_id hk]
     exact R
    ·obtain rfl:=hor.resolve_left h0
     refine (Go.Proofs.Any.slices_Sort_int Ly (μ k) 0 cap zs w hH hlt (by omega)).mono ?_
     rintro e w' ⟨rfl,q,os,rfl⟩
     refine ⟨_,A,μ,lam,rfl,rel_grow (rel_putInts R hk _ ?_ q) os,⟨#[],rfl,rfl,by simp⟩⟩
     rw [List.length_mergeSort,(intsOf_get hz).1]
   ·cases h
  ·cases h
theorem compact_le (zs:List Int):(Go.Lib.compact zs).length<=zs.length:=by
 unfold Go.Lib.compact Go.Lib.compactUpTo
 rw [List.length_map]
 exact Nat.le_trans (List.length_filter_le _ _) (by simp)
theorem ext_compact {P:Program} {N:Nam} {g:Nat} {ρ:Ren} (Ly:Go.Proofs.Lays2.n20 P ρ) (hf:ρ.f 20=N.nm g) {rf:Func} (hr:Real P (N.nm g) rf):ExtOK P N g .compactI:=by
 refine ⟨⟨rf,hr⟩,fun args H n r H' n' h c A μ lam w vs R ha => ?_⟩
 rw [<- hf]
 unfold extSem at h
 split at h
 all_goals (try contradiction)
 ·cases h
  obtain ⟨v,rfl,hv⟩:=one_arg ha
  cases hv.t_inv
  refine (Go.Proofs.Any.slices_Compact_int_empty Ly _ _ w).mono ?_
  rintro e w' ⟨rfl,rfl⟩
  exact ⟨_,A,μ,lam,rfl,R,hv⟩
 ·rename_i k len _
  split at h
  ·rename_i rs hk
   simp only [Option.bind_eq_some_iff] at h
   obtain ⟨zs,hz,h⟩:=h
   split at h
   ·rename_i hl
    cases h
    obtain ⟨v,rfl,hv⟩:=one_arg ha
    obtain ⟨a,cap,rfl,hc,hor,hH,hlt,hcap⟩:=own_ints R hk hz hl.1 hv
    have hcl:=compact_le zs
    by_cases h0:zs=[]
    ·subst h0
     refine (Go.Proofs.Any.slices_Compact_int_empty Ly _ _ w).mono ?_
     rintro e w' ⟨rfl,rfl⟩
     have hrs:=intsOf_nil hz
     subst hrs
     have hcn:Go.Lib.compact ([]:List Int)=[]:=rfl
     have hl0:len=0:=by simpa using hl.1.symm
     subst hl0
     refine ⟨_,A,μ,lam,rfl, ?_, ?_⟩
     ·rw [hcn,show ofInts ([]++List.replicate (([]:List Int).length-([]:List Int).length) 0)=[] from rfl,upd_id hk]
      exact R
     ·rw [hcn,show ofInts ([]++List.replicate (([]:List Int).length-([]:List Int).length) 0)=[] from rfl,upd_id hk]
      exact hv
    ·obtain rfl:=hor.resolve_left h0
     refine (Go.Proofs.Any.slices_Compact_int Ly (μ k) 0 cap zs w hH (by omega) hc).mono ?_
     rintro e w' ⟨rfl,q,rfl⟩
     have hlen:(Go.Lib.compact zs++List.replicate (zs.length-(Go.Lib.compact zs).length) 0).length=rs.length:=by
      rw [List.length_append,List.length_replicate,(intsOf_get hz).1]; omega
     have R1:=rel_putInts R hk _ hlen q
     refine ⟨_,A,μ,lam,rfl,R1, ?_⟩
     have hcap0:cap≠0:=by
      intro hcc
      exact h0 (List.eq_nil_of_length_eq_zero (by omega))
     obtain ⟨_,e,m,hs,hm⟩:=hcap.resolve_left hcap0
     refine .ms k 0 _ cap 1 _ false _ (upd_same _ _ _) ?_ (by have e1:=(intsOf_get hz).1; simp only [ofInts,List.length_map,hlen]; omega) (.inr ⟨by simp,e,m, ?_,by omega⟩)
     ·simp only [ofInts,List.length_map,hlen,(intsOf_get hz).1]; omega
     ·exact putRow_shape w q (μ k) _ _ _ hs
   ·cases h
  ·cases h
theorem Rel.more {N:Nam} {c:Ctx} {A:Nat->Prop} {μ lam:Nat->Nat} {w:World} {H:Nat->Option O} {n:Nat} (R:Rel N c 0 A μ lam (.init [] H n) bareAct w) {m:Nat} (hm:n<=m):Rel N c 0 A μ lam (.init [] H m) bareAct w :=
 { R with fresh:=fun k hk=>R.fresh k (Nat.le_trans hm hk) }
theorem intsOf_tree {es:List (List T)} {zs:List Int} (h:intsOf (es.map (·.map V.t))=some zs):es.length=zs.length /\ ∀ (i:Nat) (z:Int),zs[i]? = some z->es[i]? = some [.int .i64 z]:=by
 obtain ⟨h1,h2⟩:=intsOf_get h
 refine ⟨by simpa using h1,fun i z hi => ?_⟩
 have:=h2 i z hi
 rw [List.getElem?_map,Option.map_eq_some_iff] at this
 obtain ⟨e,he,h3⟩:=this
 match e,h3 with
 | [],h3=>simp at h3
 | [x],h3=>simp only [List.map_cons,List.map_nil,List.cons.injEq,V.t.injEq,and_true] at h3; rw [he,h3]
 | _::_::_,h3=>simp at h3
theorem ext_clone {P:Program} {N:Nam} {g:Nat} {ρ:Ren} (Ly:Go.Proofs.Lays2.n15 P ρ) (hf:ρ.f 15=N.nm g) {rf:Func} (hr:Real P (N.nm g) rf):ExtOK P N g .cloneI:=by
 refine ⟨⟨rf,hr⟩,fun args H n r H' n' h c A μ lam w vs R ha => ?_⟩
 rw [<- hf]
 have empty : ∀ (a:Option Addr) (cap:Nat),Calls P (ρ.f 15) #[.slice a 0 cap] w fun e w' => ∃ v A' μ' lam',e = .returned v/\Rel N c 0 A' μ' lam' (.init [] H n) bareAct w' /\ RepV w' A' N.nm μ' H v (.t (.sl [])):=by
  intro a cap
  cases a with
  | none =>
   refine (Go.Proofs.Any.slices_Clone_int_nil Ly _ _ w).mono ?_
   rintro e w' ⟨rfl,rfl⟩
   exact ⟨_,A,μ,lam,rfl,R,(RepC.t (.sl0 _ _)).toV⟩
  | some a =>
   refine (Go.Proofs.Any.slices_Clone_int_zero Ly a cap w).mono ?_
   rintro e w' ⟨v',rfl,ho,_,hb⟩
   have R1:Rel N c 0 A μ lam (.init [] H n) bareAct w' := rel_below R hb
   refine ⟨_,A,μ,lam,rfl,R1, ?_⟩
   rcases ho.2 with ⟨rfl,_⟩ | ⟨g,cp,cur,rfl,_⟩
   ·exact (RepC.t (.sl0 _ _)).toV
   ·exact (RepC.t (.sl0 _ _)).toV
 unfold extSem at h
 split at h
 all_goals (try contradiction)
 ·cases h
  obtain ⟨v,rfl,hv⟩:=one_arg ha
  cases hv.t_inv
  exact empty _ _
 ·cases h
  obtain ⟨v,rfl,hv⟩:=one_arg ha
  cases hv.t_inv with
  | sl0 a cap=>exact empty _ _
  | sl r off cap sz es vf h0=>exact absurd h0 (by simp)
 ·rename_i es hne
  simp only [Option.bind_eq_some_iff] at h
  obtain ⟨zs,hz,h⟩:=h
  split at h
  ·rename_i hl
   cases h
   obtain ⟨v,rfl,hv⟩:=one_arg ha
   obtain ⟨i1,i2⟩:=intsOf_tree hz
   cases hv.t_inv with
   | sl0 a cap=>simp_all
   | sl r0 off cap sz es vf h0 hc hA hs hvv hrr =>
    have hcell : ∀ j,j<zs.length->w.cell? ⟨r0,off+j,none⟩=some (.int .i64 (zs.getD j 0)):=by
     intro j hj
     have hzj:zs[j]? = some zs[j]:=List.getElem?_eq_getElem hj
     have hej:=i2 j _ hzj
     have h1:=hs j _ hej
     simp at h1
     subst h1
     have h2:=hvv j _ 0 _ hej rfl
     have h3:=hrr j _ 0 _ hej rfl
     cases h3' : vf j 0 <;> rw [h3'] at h3 <;> cases h3
     rw [h3'] at h2
     simpa [hj] using h2
    rw [i1]
    refine (Go.Proofs.Any.slices_Clone_int Ly r0 off zs.length cap zs w (Nat.le_refl _) (by omega) hcell).mono ?_
    rintro e w' ⟨v',rfl,ho,_,hb⟩
    have R1:Rel N c 0 A μ lam (.init [] H (n+1)) bareAct w' := (rel_below R hb).more (Nat.le_succ _)
    rcases ho.2 with ⟨_,h00⟩ | ⟨g0,cp,cur,rfl,hg,hcur,hcp,_,hsz,htk⟩
    ·omega
    ·have hsz1:cur.size=cp:=by simpa using hsz
     rw [List.take_length,Nat.mul_one] at htk
     have R2:=R1.adoptH (k:=n) (r:=g0) (o:=.rows 1 (ofInts zs) false) (R.fresh n (Nat.le_refl _)) (Nat.lt_succ_self _) ⟨fun h=>Nat.lt_irrefl _ (Nat.lt_of_lt_of_le (R.alt _ h) hg),fun t ht=>by simp [St.init] at ht,fun k o hk hlv e=>by
      have:=R.lt_live hk hlv
      omega, .inr (Nat.le_trans R.csize hg)⟩ ⟨cur,_,(0,0),hcur,fun _=>rfl,by simp [ofInts]; omega,fun i row hi=>by
       simp only [ofInts,List.getElem?_map,Option.map_eq_some_iff] at hi
       obtain ⟨y,_,rfl⟩:=hi
       rfl,fun i row j x hi hj=>by
       simp only [ofInts,List.getElem?_map,Option.map_eq_some_iff] at hi
       obtain ⟨y,hy,rfl⟩:=hi
       have hj0:j=0:=by
        have:=(List.getElem?_eq_some_iff.1 hj).1
        simp at this; exact this
       subst hj0
       simp only [List.getElem?_cons_zero,Option.some.injEq] at hj
       subst hj
       refine ⟨.int .i64 y, ?_, .t (.int _ _)⟩
       have hlt:i<zs.length:=(List.getElem?_eq_some_iff.1 hy).1
       have h5:(cur.toList.take zs.length)[i]? = some (.int .i64 y):=by rw [htk,List.getElem?_map,hy]; rfl
       rw [List.getElem?_take,if_pos hlt,Array.getElem?_toList] at h5
       simpa using h5⟩ (by simp)
     refine ⟨_,A,_,lam,rfl,R2, ?_⟩
     refine RepC.toV (.ms n 0 zs.length cp 1 (ofInts zs) false _ (upd_same _ _ _) (by simp [ofInts]) (by simp [ofInts]; omega) (.inr ⟨?_,ρ.t 3,cur.size, ?_,by omega⟩))
     ·rw [upd_same]
     ·rw [upd_same]; unfold World.shape?; rw [hcur]
  ·cases h
end Rg
end
section
namespace Go.Proofs
open Go.Shelf
def Tryz.lays189_ren:Go.Shelf.Ren:=⟨fun | 189=>82 | 125=>111 | 257=>110 | 128=>134 | 129=>135 | 294=>125 | 295=>126 | 296=>127 | 297=>128 | 298=>129 | 299=>130 | 216=>131 | 300=>132 | 301=>133 | 328=>153 | 329=>154 | 330=>155 | 331=>156 | 332=>157 | 215=>158 | 343=>165 | n=>n,fun | 28=>34 | 3=>3 | 46=>142 | 0=>0 | 51=>182 | 53=>184 | 4=>4 | 183=>175 | 182=>174 | 131=>179 | 5=>5 | 9=>9 | 218=>193 | 222=>197 | 228=>202 | 229=>203 | n=>n,fun | n=>n⟩
theorem Tryz.lays189:Go.Proofs.Lays.n189 Tryz.prog Tryz.lays189_ren:={
 mixed:=by kernel_rfl
 f125:=Tryz.func111.trans (congrArg some (by kernel_rfl))
 f128:=Tryz.func134.trans (congrArg some (by kernel_rfl))
 f129:=Tryz.func135.trans (congrArg some (by kernel_rfl))
 f189:=Tryz.func82.trans (congrArg some (by kernel_rfl))
 f215:=Tryz.func158.trans (congrArg some (by kernel_rfl))
 f216:=Tryz.func131.trans (congrArg some (by kernel_rfl))
 f257:=Tryz.func110.trans (congrArg some (by kernel_rfl))
 f294:=Tryz.func125.trans (congrArg some (by kernel_rfl))
 f295:=Tryz.func126.trans (congrArg some (by kernel_rfl))
 f296:=Tryz.func127.trans (congrArg some (by kernel_rfl))
 f297:=Tryz.func128.trans (congrArg some (by kernel_rfl))
 f298:=Tryz.func129.trans (congrArg some (by kernel_rfl))
 f299:=Tryz.func130.trans (congrArg some (by kernel_rfl))
 f300:=Tryz.func132.trans (congrArg some (by kernel_rfl))
 f301:=Tryz.func133.trans (congrArg some (by kernel_rfl))
 f328:=Tryz.func153.trans (congrArg some (by kernel_rfl))
 f329:=Tryz.func154.trans (congrArg some (by kernel_rfl))
 f330:=Tryz.func155.trans (congrArg some (by kernel_rfl))
 f331:=Tryz.func156.trans (congrArg some (by kernel_rfl))
 f332:=Tryz.func157.trans (congrArg some (by kernel_rfl))
 f343:=Tryz.func165.trans (congrArg some (by kernel_rfl))
 t0:=Tryz.underlying0
 a0:=Tryz.isAgg0
 z0:=Tryz.sizeOf0
 v0:=Tryz.zeroValue0
 t3:=Tryz.underlying3
 a3:=Tryz.isAgg3
 z3:=Tryz.sizeOf3
 v3:=Tryz.zeroValue3
 t4:=Tryz.underlying4
 a4:=Tryz.isAgg4
 z4:=Tryz.sizeOf4
 v4:=Tryz.zeroValue4
 t5:=Tryz.underlying5
 a5:=Tryz.isAgg5
 z5:=Tryz.sizeOf5
 v5:=Tryz.zeroValue5
 t9:=Tryz.underlying9
 a9:=Tryz.isAgg9
 z9:=Tryz.sizeOf9
 v9:=Tryz.zeroValue9
 t28:=Tryz.underlying34
 a28:=Tryz.isAgg34
 z28:=Tryz.sizeOf34
 v28:=Tryz.zeroValue34
 t46:=Tryz.underlying142
 a46:=Tryz.isAgg142
 z46:=Tryz.sizeOf142
 v46:=Tryz.zeroValue142
 t51:=Tryz.underlying182
 a51:=Tryz.isAgg182
 z51:=Tryz.sizeOf182
 v51:=Tryz.zeroValue182
 t53:=Tryz.underlying184
 a53:=Tryz.isAgg184
 z53:=Tryz.sizeOf184
 v53:=Tryz.zeroValue184
 t131:=Tryz.underlying179
 a131:=Tryz.isAgg179
 z131:=Tryz.sizeOf179
 v131:=Tryz.zeroValue179
 t182:=Tryz.underlying174
 a182:=Tryz.isAgg174
 z182:=Tryz.sizeOf174
 v182:=Tryz.zeroValue174
 t183:=Tryz.underlying175
 a183:=Tryz.isAgg175
 z183:=Tryz.sizeOf175
 v183:=Tryz.zeroValue175
 t218:=Tryz.underlying193
 a218:=Tryz.isAgg193
 z218:=Tryz.sizeOf193
 v218:=Tryz.zeroValue193
 t222:=Tryz.underlying197
 a222:=Tryz.isAgg197
 z222:=Tryz.sizeOf197
 v222:=Tryz.zeroValue197
 t228:=Tryz.underlying202
 a228:=Tryz.isAgg202
 z228:=Tryz.sizeOf202
 v228:=Tryz.zeroValue202
 t229:=Tryz.underlying203
 a229:=Tryz.isAgg203
 z229:=Tryz.sizeOf203
 v229:=Tryz.zeroValue203 }
def Tryz.lays2n20_ren:Go.Shelf.Ren:=⟨fun | 20=>83 | n=>n,fun | 22=>34 | 3=>3 | 4=>4 | 0=>0 | n=>n,fun | n=>n⟩
theorem Tryz.lays2n20:Go.Proofs.Lays2.n20 Tryz.prog Tryz.lays2n20_ren:={
 mixed:=by kernel_rfl
 f20:=Tryz.func83.trans (congrArg some (by kernel_rfl))
 t0:=Tryz.underlying0
 a0:=Tryz.isAgg0
 z0:=Tryz.sizeOf0
 v0:=Tryz.zeroValue0
 t3:=Tryz.underlying3
 a3:=Tryz.isAgg3
 z3:=Tryz.sizeOf3
 v3:=Tryz.zeroValue3
 t4:=Tryz.underlying4
 a4:=Tryz.isAgg4
 z4:=Tryz.sizeOf4
 v4:=Tryz.zeroValue4
 t22:=Tryz.underlying34
 a22:=Tryz.isAgg34
 z22:=Tryz.sizeOf34
 v22:=Tryz.zeroValue34
 i3:=by kernel_rfl }
def Tryz.lays2n15_ren:Go.Shelf.Ren:=⟨fun | 15=>68 | n=>n,fun | 22=>34 | 3=>3 | 4=>4 | n=>n,fun | n=>n⟩
theorem Tryz.lays2n15:Go.Proofs.Lays2.n15 Tryz.prog Tryz.lays2n15_ren:={
 mixed:=by kernel_rfl
 f15:=Tryz.func68.trans (congrArg some (by kernel_rfl))
 t3:=Tryz.underlying3
 a3:=Tryz.isAgg3
 z3:=Tryz.sizeOf3
 v3:=Tryz.zeroValue3
 t4:=Tryz.underlying4
 a4:=Tryz.isAgg4
 z4:=Tryz.sizeOf4
 v4:=Tryz.zeroValue4
 t22:=Tryz.underlying34
 a22:=Tryz.isAgg34
 z22:=Tryz.sizeOf34
 v22:=Tryz.zeroValue34
 i3:=by kernel_rfl }
end Go.Proofs
end
section
set_option maxRecDepth 100000
namespace Rg
open Go Go.Proofs Go.Proofs.YtadooimmjnipcaaGreatDoor
namespace Seat
def tbl:List Nat:=[2,1000001,1000002,1000003,1000004,1000005,1000006,1000007,1000008,11,1000010,23,36,1000013,1000014,1000015,1000016,21,22,1000019,17,1000021,1000022,34,105,1000025,1000026,25,27,1000029,1000030,1000031,1000032,99,26,1000035,33,49,45,1000039,20,1000041,1000042,46,47,48,74,62,121,122,1000050,52,1000052,1000053,1000054,1000055,53,54,1000058,1000059,119,30,1000062,1000063,29,35,1000066,76,150,1000069,78,79,80,81,82,83,117,145,146,57,58,59,60,61,63,64,65,66,67,164,1000090,108,109,110,111,84,85,86,87,88,89,90,91,92,93,94,95,96,97,98,100,101,102,103,104,106,167,1000117,1000118,1000119,125,126,127,128,129,130,131,132,133,134,135,112,113,114,115,116,118,120,123,153,154,155,156,157,158,136,137,138,139,140,141,142,143,144,147,148,149,55,151,152,165,159,160,161,162,163,166,188,3,4,5,6,7,8,9,10,12,13,14,15,16,18,19,24,28,31,32,37,38,39,40,41,42,43,44,50,51,56,68,69,70,71,72,73,75,77,107,124]
def I:Inv:=⟨fun f=>tbl.findIdx? (· == f),fun g=>if g=0 then some 0 else none⟩
def N:Nam:=⟨fun k=>tbl.getD k 0,fun _=>0,G,CR Tryz.prog I⟩
def raws (s:List Nat):Raws:=⟨[52,53,54,57,60,70,74,75,76,77,83,93,97,120,121,122,123,124,125,127,128,136,139,141,142,143,158,160,199,200,202,203],s,[32,78,198]⟩
def Ent (q:Nat×F):Prop:=(∃ rf rw L raw,Tryz.prog.funcs[N.nm q.1]? = some rf/\compF Tryz.prog I rw L raw rf=some q.2) \/ ∃ e,q.2.body = .ext e/\ExtOK Tryz.prog N q.1 e
theorem e9:Ent (9,f9):=.inl ⟨Tryz.f11,raws [],[5,1],false,Tryz.func11,by kernel_rfl⟩
theorem e11:Ent (11,f11):=.inl ⟨Tryz.f23,raws [],[3,2],false,Tryz.func23,by kernel_rfl⟩
theorem e12:Ent (12,f12):=.inl ⟨Tryz.f36,raws [],[3,2,1],false,Tryz.func36,by kernel_rfl⟩
theorem e17:Ent (17,f17):=.inl ⟨Tryz.f21,raws [],[3,2],false,Tryz.func21,by kernel_rfl⟩
theorem e18:Ent (18,f18):=.inl ⟨Tryz.f22,raws [],[9,6,5,4,3],false,Tryz.func22,by kernel_rfl⟩
theorem e20:Ent (20,f20):=.inl ⟨Tryz.f17,raws [],[3],false,Tryz.func17,by kernel_rfl⟩
theorem e23:Ent (23,f23):=.inl ⟨Tryz.f34,raws [],[2],false,Tryz.func34,by kernel_rfl⟩
theorem e24:Ent (24,f24):=.inl ⟨Tryz.f105,raws [],[3],false,Tryz.func105,by kernel_rfl⟩
theorem e27:Ent (27,f27):=.inl ⟨Tryz.f25,raws [],[],false,Tryz.func25,by kernel_rfl⟩
theorem e28:Ent (28,f28):=.inl ⟨Tryz.f27,raws [],[5,1],false,Tryz.func27,by kernel_rfl⟩
theorem e33:Ent (33,f33):=.inl ⟨Tryz.f99,raws [],[],false,Tryz.func99,by kernel_rfl⟩
theorem e34:Ent (34,f34):=.inl ⟨Tryz.f26,raws [],[],false,Tryz.func26,by kernel_rfl⟩
theorem e36:Ent (36,f36):=.inl ⟨Tryz.f33,raws [],[1],false,Tryz.func33,by kernel_rfl⟩
theorem e37:Ent (37,f37):=.inl ⟨Tryz.f49,raws [],[],false,Tryz.func49,by kernel_rfl⟩
theorem e38:Ent (38,f38):=.inl ⟨Tryz.f45,raws [],[1],false,Tryz.func45,by kernel_rfl⟩
theorem e40:Ent (40,f40):=.inl ⟨Tryz.f20,raws [],[],false,Tryz.func20,by kernel_rfl⟩
theorem e43:Ent (43,f43):=.inl ⟨Tryz.f46,raws [],[9,3,2],false,Tryz.func46,by kernel_rfl⟩
theorem e44:Ent (44,f44):=.inl ⟨Tryz.f47,raws [],[3,2],false,Tryz.func47,by kernel_rfl⟩
theorem e45:Ent (45,f45):=.inl ⟨Tryz.f48,raws [],[10,8,7,6,5,4,3],false,Tryz.func48,by kernel_rfl⟩
theorem e46:Ent (46,f46):=.inl ⟨Tryz.f74,raws [],[3],false,Tryz.func74,by kernel_rfl⟩
theorem e47:Ent (47,f47):=.inl ⟨Tryz.f62,raws [],[2],false,Tryz.func62,by kernel_rfl⟩
theorem e48:Ent (48,f48):=.inl ⟨Tryz.f121,raws [],[1],false,Tryz.func121,by kernel_rfl⟩
theorem e49:Ent (49,f49):=.inl ⟨Tryz.f122,raws [],[3],false,Tryz.func122,by kernel_rfl⟩
theorem e51:Ent (51,f51):=.inl ⟨Tryz.f52,raws [7],[],false,Tryz.func52,by kernel_rfl⟩
theorem e56:Ent (56,f56):=.inl ⟨Tryz.f53,raws [],[7],false,Tryz.func53,by kernel_rfl⟩
theorem e57:Ent (57,f57):=.inl ⟨Tryz.f54,raws [],[],true,Tryz.func54,by kernel_rfl⟩
theorem e60:Ent (60,f60):=.inl ⟨Tryz.f119,raws [],[],true,Tryz.func119,by kernel_rfl⟩
theorem e61:Ent (61,f61):=.inl ⟨Tryz.f30,raws [],[4],false,Tryz.func30,by kernel_rfl⟩
theorem e64:Ent (64,f64):=.inl ⟨Tryz.f29,raws [],[13,5,1],false,Tryz.func29,by kernel_rfl⟩
theorem e65:Ent (65,f65):=.inl ⟨Tryz.f35,raws [],[1],false,Tryz.func35,by kernel_rfl⟩
theorem e67:Ent (67,f67):=.inl ⟨Tryz.f76,raws [],[9,5,4],false,Tryz.func76,by kernel_rfl⟩
theorem e68:Ent (68,f68):=.inl ⟨Tryz.f150,raws [],[2],false,Tryz.func150,by kernel_rfl⟩
theorem e70:Ent (70,f70):=.inl ⟨Tryz.f78,raws [38],[],true,Tryz.func78,by kernel_rfl⟩
theorem e71:Ent (71,f71):=.inl ⟨Tryz.f79,raws [],[],false,Tryz.func79,by kernel_rfl⟩
theorem e72:Ent (72,f72):=.inl ⟨Tryz.f80,raws [],[],false,Tryz.func80,by kernel_rfl⟩
theorem e73:Ent (73,f73):=.inl ⟨Tryz.f81,raws [],[3],false,Tryz.func81,by kernel_rfl⟩
theorem e74:Ent (74,f74):=.inr ⟨.sortI,rfl,ext_sort Tryz.lays189 (by kernel_rfl) (rf:=Tryz.f82) ⟨Tryz.func82,by kernel_rfl,by kernel_rfl⟩⟩
theorem e75:Ent (75,f75):=.inr ⟨.compactI,rfl,ext_compact Tryz.lays2n20 (by kernel_rfl) (rf:=Tryz.f83) ⟨Tryz.func83,by kernel_rfl,by kernel_rfl⟩⟩
theorem e76:Ent (76,f76):=.inl ⟨Tryz.f117,raws [13],[],true,Tryz.func117,by kernel_rfl⟩
theorem e77:Ent (77,f77):=.inl ⟨Tryz.f145,raws [],[],true,Tryz.func145,by kernel_rfl⟩
theorem e78:Ent (78,f78):=.inl ⟨Tryz.f146,raws [],[1],true,Tryz.func146,by kernel_rfl⟩
theorem e79:Ent (79,f79):=.inl ⟨Tryz.f57,raws [],[6,4,1],false,Tryz.func57,by kernel_rfl⟩
theorem e80:Ent (80,f80):=.inl ⟨Tryz.f58,raws [],[5,1],false,Tryz.func58,by kernel_rfl⟩
theorem e81:Ent (81,f81):=.inl ⟨Tryz.f59,raws [],[5,1],false,Tryz.func59,by kernel_rfl⟩
theorem e82:Ent (82,f82):=.inl ⟨Tryz.f60,raws [],[6,5,1],false,Tryz.func60,by kernel_rfl⟩
theorem e83:Ent (83,f83):=.inl ⟨Tryz.f61,raws [],[14,12],true,Tryz.func61,by kernel_rfl⟩
theorem e84:Ent (84,f84):=.inl ⟨Tryz.f63,raws [],[5,1],false,Tryz.func63,by kernel_rfl⟩
theorem e85:Ent (85,f85):=.inl ⟨Tryz.f64,raws [],[4,1],false,Tryz.func64,by kernel_rfl⟩
theorem e86:Ent (86,f86):=.inl ⟨Tryz.f65,raws [],[4,1],false,Tryz.func65,by kernel_rfl⟩
theorem e87:Ent (87,f87):=.inl ⟨Tryz.f66,raws [],[4,1],false,Tryz.func66,by kernel_rfl⟩
theorem e88:Ent (88,f88):=.inl ⟨Tryz.f67,raws [],[13,6,2],false,Tryz.func67,by kernel_rfl⟩
theorem e89:Ent (89,f89):=.inl ⟨Tryz.f164,raws [],[1],false,Tryz.func164,by kernel_rfl⟩
theorem e91:Ent (91,f91):=.inl ⟨Tryz.f108,raws [],[],false,Tryz.func108,by kernel_rfl⟩
theorem e92:Ent (92,f92):=.inl ⟨Tryz.f109,raws [],[],false,Tryz.func109,by kernel_rfl⟩
theorem e95:Ent (95,f95):=.inl ⟨Tryz.f84,raws [],[],false,Tryz.func84,by kernel_rfl⟩
theorem e96:Ent (96,f96):=.inl ⟨Tryz.f85,raws [],[],false,Tryz.func85,by kernel_rfl⟩
theorem e97:Ent (97,f97):=.inl ⟨Tryz.f86,raws [],[5],true,Tryz.func86,by kernel_rfl⟩
theorem e98:Ent (98,f98):=.inl ⟨Tryz.f87,raws [],[1],false,Tryz.func87,by kernel_rfl⟩
theorem e99:Ent (99,f99):=.inl ⟨Tryz.f88,raws [],[5,4],false,Tryz.func88,by kernel_rfl⟩
theorem e100:Ent (100,f100):=.inl ⟨Tryz.f89,raws [],[2],false,Tryz.func89,by kernel_rfl⟩
theorem e101:Ent (101,f101):=.inl ⟨Tryz.f90,raws [],[],false,Tryz.func90,by kernel_rfl⟩
theorem e102:Ent (102,f102):=.inl ⟨Tryz.f91,raws [],[],false,Tryz.func91,by kernel_rfl⟩
theorem e103:Ent (103,f103):=.inl ⟨Tryz.f92,raws [],[],false,Tryz.func92,by kernel_rfl⟩
theorem e104:Ent (104,f104):=.inl ⟨Tryz.f93,raws [],[],false,Tryz.func93,by kernel_rfl⟩
theorem e105:Ent (105,f105):=.inl ⟨Tryz.f94,raws [],[13,12,7,6,4],false,Tryz.func94,by kernel_rfl⟩
theorem e106:Ent (106,f106):=.inl ⟨Tryz.f95,raws [],[],false,Tryz.func95,by kernel_rfl⟩
theorem e107:Ent (107,f107):=.inl ⟨Tryz.f96,raws [],[],false,Tryz.func96,by kernel_rfl⟩
theorem e108:Ent (108,f108):=.inl ⟨Tryz.f97,raws [],[2],false,Tryz.func97,by kernel_rfl⟩
theorem e109:Ent (109,f109):=.inl ⟨Tryz.f98,raws [],[],false,Tryz.func98,by kernel_rfl⟩
theorem e110:Ent (110,f110):=.inl ⟨Tryz.f100,raws [],[],false,Tryz.func100,by kernel_rfl⟩
theorem e111:Ent (111,f111):=.inl ⟨Tryz.f101,raws [],[1],false,Tryz.func101,by kernel_rfl⟩
theorem e112:Ent (112,f112):=.inl ⟨Tryz.f102,raws [],[5,4],false,Tryz.func102,by kernel_rfl⟩
theorem e113:Ent (113,f113):=.inl ⟨Tryz.f103,raws [],[],false,Tryz.func103,by kernel_rfl⟩
theorem e114:Ent (114,f114):=.inl ⟨Tryz.f104,raws [],[5,3],false,Tryz.func104,by kernel_rfl⟩
theorem e115:Ent (115,f115):=.inl ⟨Tryz.f106,raws [],[5,4],false,Tryz.func106,by kernel_rfl⟩
theorem e116:Ent (116,f116):=.inl ⟨Tryz.f167,raws [],[],false,Tryz.func167,by kernel_rfl⟩
theorem e131:Ent (131,f131):=.inl ⟨Tryz.f112,raws [],[],false,Tryz.func112,by kernel_rfl⟩
theorem e132:Ent (132,f132):=.inl ⟨Tryz.f113,raws [],[],false,Tryz.func113,by kernel_rfl⟩
theorem e133:Ent (133,f133):=.inl ⟨Tryz.f114,raws [],[],false,Tryz.func114,by kernel_rfl⟩
theorem e134:Ent (134,f134):=.inl ⟨Tryz.f115,raws [],[],false,Tryz.func115,by kernel_rfl⟩
theorem e135:Ent (135,f135):=.inl ⟨Tryz.f116,raws [],[0],false,Tryz.func116,by kernel_rfl⟩
theorem e136:Ent (136,f136):=.inl ⟨Tryz.f118,raws [],[],true,Tryz.func118,by kernel_rfl⟩
theorem e137:Ent (137,f137):=.inl ⟨Tryz.f120,raws [],[12,5,3],false,Tryz.func120,by kernel_rfl⟩
theorem e138:Ent (138,f138):=.inl ⟨Tryz.f123,raws [],[1],false,Tryz.func123,by kernel_rfl⟩
theorem e145:Ent (145,f145):=.inl ⟨Tryz.f136,raws [],[],false,Tryz.func136,by kernel_rfl⟩
theorem e146:Ent (146,f146):=.inl ⟨Tryz.f137,raws [],[],false,Tryz.func137,by kernel_rfl⟩
theorem e147:Ent (147,f147):=.inl ⟨Tryz.f138,raws [],[5,3],false,Tryz.func138,by kernel_rfl⟩
theorem e148:Ent (148,f148):=.inl ⟨Tryz.f139,raws [],[11,9,5,3],false,Tryz.func139,by kernel_rfl⟩
theorem e149:Ent (149,f149):=.inl ⟨Tryz.f140,raws [],[5],false,Tryz.func140,by kernel_rfl⟩
theorem e150:Ent (150,f150):=.inl ⟨Tryz.f141,raws [],[5,3],false,Tryz.func141,by kernel_rfl⟩
theorem e151:Ent (151,f151):=.inl ⟨Tryz.f142,raws [],[5,3],false,Tryz.func142,by kernel_rfl⟩
theorem e152:Ent (152,f152):=.inl ⟨Tryz.f143,raws [],[5,3],false,Tryz.func143,by kernel_rfl⟩
theorem e153:Ent (153,f153):=.inl ⟨Tryz.f144,raws [],[5,3],false,Tryz.func144,by kernel_rfl⟩
theorem e154:Ent (154,f154):=.inl ⟨Tryz.f147,raws [],[3],false,Tryz.func147,by kernel_rfl⟩
theorem e155:Ent (155,f155):=.inl ⟨Tryz.f148,raws [],[2],false,Tryz.func148,by kernel_rfl⟩
theorem e156:Ent (156,f156):=.inl ⟨Tryz.f149,raws [],[3,2],false,Tryz.func149,by kernel_rfl⟩
theorem e157:Ent (157,f157):=.inl ⟨Tryz.f55,raws [],[0],false,Tryz.func55,by kernel_rfl⟩
theorem e158:Ent (158,f158):=.inl ⟨Tryz.f151,raws [],[3],true,Tryz.func151,by kernel_rfl⟩
theorem e159:Ent (159,f159):=.inl ⟨Tryz.f152,raws [],[],false,Tryz.func152,by kernel_rfl⟩
theorem e161:Ent (161,f161):=.inl ⟨Tryz.f159,raws [],[6,2],false,Tryz.func159,by kernel_rfl⟩
theorem e162:Ent (162,f162):=.inl ⟨Tryz.f160,raws [],[6],false,Tryz.func160,by kernel_rfl⟩
theorem e163:Ent (163,f163):=.inl ⟨Tryz.f161,raws [],[2],false,Tryz.func161,by kernel_rfl⟩
theorem e164:Ent (164,f164):=.inl ⟨Tryz.f162,raws [],[],false,Tryz.func162,by kernel_rfl⟩
theorem e165:Ent (165,f165):=.inl ⟨Tryz.f163,raws [],[1],false,Tryz.func163,by kernel_rfl⟩
theorem e166:Ent (166,f166):=.inl ⟨Tryz.f166,raws [],[1],false,Tryz.func166,by kernel_rfl⟩
theorem e168:Ent (168,f168):=.inl ⟨Tryz.f3,raws [],[21,19,18,11,7,4],false,Tryz.func3,by kernel_rfl⟩
theorem e169:Ent (169,f169):=.inl ⟨Tryz.f4,raws [],[19,17,15,13,8,3],false,Tryz.func4,by kernel_rfl⟩
theorem e170:Ent (170,f170):=.inl ⟨Tryz.f5,raws [],[20,15,14,11,4],false,Tryz.func5,by kernel_rfl⟩
theorem e171:Ent (171,f171):=.inl ⟨Tryz.f6,raws [],[13,11,6,2],false,Tryz.func6,by kernel_rfl⟩
theorem e172:Ent (172,f172):=.inl ⟨Tryz.f7,raws [],[22,13,5],false,Tryz.func7,by kernel_rfl⟩
theorem e173:Ent (173,f173):=.inl ⟨Tryz.f8,raws [],[19,17,16,13,9,3],false,Tryz.func8,by kernel_rfl⟩
theorem e174:Ent (174,f174):=.inl ⟨Tryz.f9,raws [],[19,15,14,11,4],false,Tryz.func9,by kernel_rfl⟩
theorem e175:Ent (175,f175):=.inl ⟨Tryz.f10,raws [],[12,11,10,8,7,6,1],false,Tryz.func10,by kernel_rfl⟩
theorem e176:Ent (176,f176):=.inl ⟨Tryz.f12,raws [],[1],false,Tryz.func12,by kernel_rfl⟩
theorem e177:Ent (177,f177):=.inl ⟨Tryz.f13,raws [],[],false,Tryz.func13,by kernel_rfl⟩
theorem e178:Ent (178,f178):=.inl ⟨Tryz.f14,raws [],[11,8,6,3],false,Tryz.func14,by kernel_rfl⟩
theorem e179:Ent (179,f179):=.inl ⟨Tryz.f15,raws [],[7,5,3],false,Tryz.func15,by kernel_rfl⟩
theorem e180:Ent (180,f180):=.inl ⟨Tryz.f16,raws [],[6,4],false,Tryz.func16,by kernel_rfl⟩
theorem e181:Ent (181,f181):=.inl ⟨Tryz.f18,raws [],[1],false,Tryz.func18,by kernel_rfl⟩
theorem e182:Ent (182,f182):=.inl ⟨Tryz.f19,raws [],[5,3],false,Tryz.func19,by kernel_rfl⟩
theorem e183:Ent (183,f183):=.inl ⟨Tryz.f24,raws [],[4,3],false,Tryz.func24,by kernel_rfl⟩
theorem e184:Ent (184,f184):=.inl ⟨Tryz.f28,raws [],[0],false,Tryz.func28,by kernel_rfl⟩
theorem e185:Ent (185,f185):=.inl ⟨Tryz.f31,raws [],[10,8,6,3],false,Tryz.func31,by kernel_rfl⟩
theorem e186:Ent (186,f186):=.inl ⟨Tryz.f32,raws [],[1],false,Tryz.func32,by kernel_rfl⟩
theorem e187:Ent (187,f187):=.inl ⟨Tryz.f37,raws [],[6,5,3],false,Tryz.func37,by kernel_rfl⟩
theorem e188:Ent (188,f188):=.inl ⟨Tryz.f38,raws [],[7,2],false,Tryz.func38,by kernel_rfl⟩
theorem e189:Ent (189,f189):=.inl ⟨Tryz.f39,raws [],[9,4],false,Tryz.func39,by kernel_rfl⟩
theorem e190:Ent (190,f190):=.inl ⟨Tryz.f40,raws [],[],false,Tryz.func40,by kernel_rfl⟩
theorem e191:Ent (191,f191):=.inl ⟨Tryz.f41,raws [],[7,6,3],false,Tryz.func41,by kernel_rfl⟩
theorem e192:Ent (192,f192):=.inl ⟨Tryz.f42,raws [],[11,9,8,7,6,4,3],false,Tryz.func42,by kernel_rfl⟩
theorem e193:Ent (193,f193):=.inl ⟨Tryz.f43,raws [],[3,2],false,Tryz.func43,by kernel_rfl⟩
theorem e194:Ent (194,f194):=.inl ⟨Tryz.f44,raws [],[1],false,Tryz.func44,by kernel_rfl⟩
theorem e195:Ent (195,f195):=.inl ⟨Tryz.f50,raws [],[1],false,Tryz.func50,by kernel_rfl⟩
theorem e196:Ent (196,f196):=.inl ⟨Tryz.f51,raws [],[11,9,3,2],false,Tryz.func51,by kernel_rfl⟩
theorem e197:Ent (197,f197):=.inl ⟨Tryz.f56,raws [],[5],false,Tryz.func56,by kernel_rfl⟩
theorem e198:Ent (198,f198):=.inr ⟨.cloneI,rfl,ext_clone Tryz.lays2n15 (by kernel_rfl) (rf:=Tryz.f68) ⟨Tryz.func68,by kernel_rfl,by kernel_rfl⟩⟩
theorem e199:Ent (199,f199):=.inl ⟨Tryz.f69,raws [],[3],true,Tryz.func69,by kernel_rfl⟩
theorem e200:Ent (200,f200):=.inl ⟨Tryz.f70,raws [37],[6],true,Tryz.func70,by kernel_rfl⟩
theorem e201:Ent (201,f201):=.inl ⟨Tryz.f71,raws [],[6,3],false,Tryz.func71,by kernel_rfl⟩
theorem e202:Ent (202,f202):=.inl ⟨Tryz.f72,raws [],[7,3,2,1],true,Tryz.func72,by kernel_rfl⟩
theorem e203:Ent (203,f203):=.inl ⟨Tryz.f73,raws [],[],true,Tryz.func73,by kernel_rfl⟩
theorem e204:Ent (204,f204):=.inl ⟨Tryz.f75,raws [],[3,2],false,Tryz.func75,by kernel_rfl⟩
theorem e205:Ent (205,f205):=.inl ⟨Tryz.f77,raws [],[7,3,2],false,Tryz.func77,by kernel_rfl⟩
theorem e206:Ent (206,f206):=.inl ⟨Tryz.f107,raws [],[],false,Tryz.func107,by kernel_rfl⟩
theorem e207:Ent (207,f207):=.inl ⟨Tryz.f124,raws [],[],false,Tryz.func124,by kernel_rfl⟩
theorem all : ∀ q∈tabL,Ent q:=by
 unfold tabL
 simp only [List.forall_mem_cons]
 exact ⟨e9,e11,e12,e17,e18,e20,e23,e24,e27,e28,e33,e34,e36,e37,e38,e40,e43,e44,e45,e46,e47,e48,e49,e51,e56,e57,e60,e61,e64,e65,e67,e68,e70,e71,e72,e73,e74,e75,e76,e77,e78,e79,e80,e81,e82,e83,e84,e85,e86,e87,e88,e89,e91,e92,e95,e96,e97,e98,e99,e100,e101,e102,e103,e104,e105,e106,e107,e108,e109,e110,e111,e112,e113,e114,e115,e116,e131,e132,e133,e134,e135,e136,e137,e138,e145,e146,e147,e148,e149,e150,e151,e152,e153,e154,e155,e156,e157,e158,e159,e161,e162,e163,e164,e165,e166,e168,e169,e170,e171,e172,e173,e174,e175,e176,e177,e178,e179,e180,e181,e182,e183,e184,e185,e186,e187,e188,e189,e190,e191,e192,e193,e194,e195,e196,e197,e198,e199,e200,e201,e202,e203,e204,e205,e206,e207,fun _ h=>by cases h⟩
end Seat
end Rg
end

/- Part of the proof of the laws of the package relyguardlaw30: an abstract machine for the program's functions, what they compute, and that the machine is the program's. No condition. (FnTab RgExt LayR4 SeatR4 RhA) -/
import Derived.Test.YtcgkpboneipghaaGreatDoorPartAP
import Derived.Shelf.Sort.Plain
import Derived.Shelf.Slices.In.SortNone
import Derived.Shelf.Slices.CompactI
import Derived.Shelf.Slices.Clone
import Derived.Test.YtcgkpboneipghaaGreatDoorPartAN
import Derived.Test.YtcgkpboneipghaaGreatDoorRows
import Derived.KernelRfl
import Derived.Test.YtcgkpboneipghaaGreatDoorPartAO
set_option linter.unusedSimpArgs false
section
set_option maxRecDepth 20000
namespace Rg
open Go
def tabL:List (Nat×F):=[(23,f23),
 (28,f28),
 (31,f31),
 (47,f47),
 (51,f51),
 (57,f57),
 (60,f60),
 (61,f61),
 (62,f62),
 (64,f64),
 (70,f70),
 (71,f71),
 (74,f74),
 (75,f75),
 (76,f76),
 (77,f77),
 (78,f78),
 (79,f79),
 (80,f80),
 (81,f81),
 (82,f82),
 (83,f83),
 (91,f91),
 (95,f95),
 (96,f96),
 (97,f97),
 (98,f98),
 (99,f99),
 (100,f100),
 (101,f101),
 (102,f102),
 (103,f103),
 (104,f104),
 (105,f105),
 (106,f106),
 (107,f107),
 (108,f108),
 (131,f131),
 (132,f132),
 (133,f133),
 (134,f134),
 (135,f135),
 (136,f136),
 (145,f145),
 (146,f146),
 (147,f147),
 (148,f148),
 (149,f149),
 (150,f150),
 (151,f151),
 (152,f152),
 (153,f153),
 (157,f157),
 (161,f161),
 (162,f162),
 (163,f163),
 (164,f164),
 (165,f165),
 (166,f166),
 (206,f206),
 (207,f207),
 (217,f217),
 (228,f228),
 (239,f239),
 (253,f253),
 (285,f285),
 (286,f286),
 (287,f287),
 (288,f288),
 (289,f289),
 (291,f291),
 (293,f293),
 (294,f294),
 (295,f295),
 (296,f296),
 (297,f297),
 (298,f298),
 (299,f299),
 (300,f300),
 (301,f301),
 (302,f302),
 (306,f306),
 (307,f307),
 (308,f308),
 (309,f309),
 (310,f310),
 (311,f311),
 (312,f312),
 (313,f313),
 (314,f314),
 (315,f315),
 (316,f316),
 (317,f317),
 (318,f318),
 (319,f319),
 (320,f320),
 (321,f321),
 (322,f322),
 (323,f323),
 (324,f324),
 (325,f325),
 (326,f326),
 (327,f327)]
def Γ:Nat->Option F:=fun k=>tabL.lookup k
def G:Nat->List T
 | 0=>[.int .i64 0, .int .i64 1, .int .i64 3, .int .i64 7, .int .i64 15, .int .i64 31, .int .i64 63, .int .i64 127, .int .i64 255]
 | _=>[]
theorem Γ23:Γ 23=some f23:=by rfl
theorem Γ28:Γ 28=some f28:=by rfl
theorem Γ31:Γ 31=some f31:=by rfl
theorem Γ47:Γ 47=some f47:=by rfl
theorem Γ51:Γ 51=some f51:=by rfl
theorem Γ57:Γ 57=some f57:=by rfl
theorem Γ60:Γ 60=some f60:=by rfl
theorem Γ61:Γ 61=some f61:=by rfl
theorem Γ62:Γ 62=some f62:=by rfl
theorem Γ64:Γ 64=some f64:=by rfl
theorem Γ70:Γ 70=some f70:=by rfl
theorem Γ71:Γ 71=some f71:=by rfl
theorem Γ74:Γ 74=some f74:=by rfl
theorem Γ75:Γ 75=some f75:=by rfl
theorem Γ76:Γ 76=some f76:=by rfl
theorem Γ77:Γ 77=some f77:=by rfl
theorem Γ78:Γ 78=some f78:=by rfl
theorem Γ79:Γ 79=some f79:=by rfl
theorem Γ80:Γ 80=some f80:=by rfl
theorem Γ81:Γ 81=some f81:=by rfl
theorem Γ82:Γ 82=some f82:=by rfl
theorem Γ83:Γ 83=some f83:=by rfl
theorem Γ91:Γ 91=some f91:=by rfl
theorem Γ95:Γ 95=some f95:=by rfl
theorem Γ96:Γ 96=some f96:=by rfl
theorem Γ97:Γ 97=some f97:=by rfl
theorem Γ98:Γ 98=some f98:=by rfl
theorem Γ99:Γ 99=some f99:=by rfl
theorem Γ100:Γ 100=some f100:=by rfl
theorem Γ101:Γ 101=some f101:=by rfl
theorem Γ102:Γ 102=some f102:=by rfl
theorem Γ103:Γ 103=some f103:=by rfl
theorem Γ104:Γ 104=some f104:=by rfl
theorem Γ105:Γ 105=some f105:=by rfl
theorem Γ106:Γ 106=some f106:=by rfl
theorem Γ107:Γ 107=some f107:=by rfl
theorem Γ108:Γ 108=some f108:=by rfl
theorem Γ131:Γ 131=some f131:=by rfl
theorem Γ132:Γ 132=some f132:=by rfl
theorem Γ133:Γ 133=some f133:=by rfl
theorem Γ134:Γ 134=some f134:=by rfl
theorem Γ135:Γ 135=some f135:=by rfl
theorem Γ136:Γ 136=some f136:=by rfl
theorem Γ145:Γ 145=some f145:=by rfl
theorem Γ146:Γ 146=some f146:=by rfl
theorem Γ147:Γ 147=some f147:=by rfl
theorem Γ148:Γ 148=some f148:=by rfl
theorem Γ149:Γ 149=some f149:=by rfl
theorem Γ150:Γ 150=some f150:=by rfl
theorem Γ151:Γ 151=some f151:=by rfl
theorem Γ152:Γ 152=some f152:=by rfl
theorem Γ153:Γ 153=some f153:=by rfl
theorem Γ157:Γ 157=some f157:=by rfl
theorem Γ161:Γ 161=some f161:=by rfl
theorem Γ162:Γ 162=some f162:=by rfl
theorem Γ163:Γ 163=some f163:=by rfl
theorem Γ164:Γ 164=some f164:=by rfl
theorem Γ165:Γ 165=some f165:=by rfl
theorem Γ166:Γ 166=some f166:=by rfl
theorem Γ206:Γ 206=some f206:=by rfl
theorem Γ207:Γ 207=some f207:=by rfl
theorem Γ217:Γ 217=some f217:=by rfl
theorem Γ228:Γ 228=some f228:=by rfl
theorem Γ239:Γ 239=some f239:=by rfl
theorem Γ253:Γ 253=some f253:=by rfl
theorem Γ285:Γ 285=some f285:=by rfl
theorem Γ286:Γ 286=some f286:=by rfl
theorem Γ287:Γ 287=some f287:=by rfl
theorem Γ288:Γ 288=some f288:=by rfl
theorem Γ289:Γ 289=some f289:=by rfl
theorem Γ291:Γ 291=some f291:=by rfl
theorem Γ293:Γ 293=some f293:=by rfl
theorem Γ294:Γ 294=some f294:=by rfl
theorem Γ295:Γ 295=some f295:=by rfl
theorem Γ296:Γ 296=some f296:=by rfl
theorem Γ297:Γ 297=some f297:=by rfl
theorem Γ298:Γ 298=some f298:=by rfl
theorem Γ299:Γ 299=some f299:=by rfl
theorem Γ300:Γ 300=some f300:=by rfl
theorem Γ301:Γ 301=some f301:=by rfl
theorem Γ302:Γ 302=some f302:=by rfl
theorem Γ306:Γ 306=some f306:=by rfl
theorem Γ307:Γ 307=some f307:=by rfl
theorem Γ308:Γ 308=some f308:=by rfl
theorem Γ309:Γ 309=some f309:=by rfl
theorem Γ310:Γ 310=some f310:=by rfl
theorem Γ311:Γ 311=some f311:=by rfl
theorem Γ312:Γ 312=some f312:=by rfl
theorem Γ313:Γ 313=some f313:=by rfl
theorem Γ314:Γ 314=some f314:=by rfl
theorem Γ315:Γ 315=some f315:=by rfl
theorem Γ316:Γ 316=some f316:=by rfl
theorem Γ317:Γ 317=some f317:=by rfl
theorem Γ318:Γ 318=some f318:=by rfl
theorem Γ319:Γ 319=some f319:=by rfl
theorem Γ320:Γ 320=some f320:=by rfl
theorem Γ321:Γ 321=some f321:=by rfl
theorem Γ322:Γ 322=some f322:=by rfl
theorem Γ323:Γ 323=some f323:=by rfl
theorem Γ324:Γ 324=some f324:=by rfl
theorem Γ325:Γ 325=some f325:=by rfl
theorem Γ326:Γ 326=some f326:=by rfl
theorem Γ327:Γ 327=some f327:=by rfl
end Rg
end
section
namespace Rg
open Go Go.Sort Go.Shelf
theorem intsOf_get : ∀ {rs:List (List V)} {zs:List Int},intsOf rs=some zs->rs.length=zs.length /\ ∀ (i:Nat) (z:Int),zs[i]? = some z->rs[i]? = some [.t (.int .i64 z)]
 | [],zs,h=>by simp only [intsOf,Option.some.injEq] at h; subst h; simp
 | row::r,zs,h=>by
   unfold intsOf at h
   split at h
   ·rename_i h0; simp at h0
   ·rename_i z r' h0
    simp only [List.cons.injEq] at h0
    obtain ⟨rfl,rfl⟩:=h0
    rw [Option.map_eq_some_iff] at h
    obtain ⟨zs',hz,rfl⟩:=h
    obtain ⟨h1,h2⟩:=intsOf_get hz
    refine ⟨by simp [h1],fun i z' hi => ?_⟩
    cases i with
    | zero=>simp at hi; subst hi; rfl
    | succ i=>simpa using h2 i z' (by simpa using hi)
   ·cases h
theorem putCells_get (c:Array Value) (ys:List Int) (j:Nat):(putCells (Value.int .i64) 0 ys.toArray c)[j]? = (c[j]?).map fun x=>match ys[j]? with | some y=>Value.int .i64 y | none=>x:=by
 unfold putCells
 rw [Array.getElem?_mapIdx]
 cases hc:c[j]? with
 | none=>rfl
 | some x =>
   simp only [Option.map_some,Option.some.injEq]
   by_cases hj:j<ys.length
   ·rw [if_pos (by simp [hj]),List.getElem?_eq_getElem hj]
    simp [hj]
   ·rw [if_neg (by simp; omega),List.getElem?_eq_none (by omega)]
theorem putRow_shape (w:World) (q b:Nat) (ys:List Int) (r:Nat) (x:TypeId×Nat) (hx:w.shape? r=some x):(putRow (Value.int .i64) (Sort.ahead w q) b 0 ys.toArray).shape? r=some x:=by
 unfold World.shape? at hx ⊢
 simp only [putRow,mapBlock,Sort.ahead,Array.getElem?_modify]
 by_cases h:b=r
 ·subst h
  rw [if_pos rfl]
  cases ho:w.heap[b]? with
  | none=>rw [ho] at hx; cases hx
  | some o =>
    rw [ho] at hx
    cases o with
    | cells c e fr=>simpa [onCells,putCells] using hx
    | _=>cases hx
 ·rw [if_neg h]; exact hx
section
variable {N:Nam} {c:Ctx} {A:Nat->Prop} {μ lam:Nat->Nat} {w:World} {H:Nat->Option O} {n:Nat}
theorem rel_putInts (R:Rel N c 0 A μ lam (.init [] H n) bareAct w) {k:Nat} {rs:List (List V)} (hk:H k=some (.rows 1 rs false)) (ys:List Int) (hl:ys.length=rs.length) (q:Nat) :
 Rel N c 0 A μ lam (.init [] (upd H k (some (.rows 1 (ofInts ys) false))) n) bareAct (putRow (Value.int .i64) (Sort.ahead w q) (μ k) 0 ys.toArray):=by
 obtain ⟨cc,e0,z,h1,h2,h3,h4,h5⟩:=R.heap k _ hk
 have hz:=h2 rfl
 subst hz
 have hget : ∀ r,(putRow (Value.int .i64) (Sort.ahead w q) (μ k) 0 ys.toArray).heap[r]? = if μ k=r then (w.heap[r]?).map (onCells (putCells (Value.int .i64) 0 ys.toArray)) else w.heap[r]? := by
  intro r
  simp only [putRow,mapBlock,Sort.ahead,Array.getElem?_modify]
 refine R.changeH (o' := .rows 1 (ofInts ys) false) hk ⟨rfl,by simp [ofInts,hl]⟩ rfl (by simp) (by simp) rfl ?_ ?_ ?_ ?_ ⟨rfl,rfl⟩
 ·simp [putRow,mapBlock,Sort.ahead]
 ·intro r hr
  rw [hget,if_neg (fun h=>hr h.symm)]
 ·exact fun r x hx=>putRow_shape w q (μ k) ys r x hx
 ·intro E
  refine ⟨putCells (Value.int .i64) 0 ys.toArray cc,e0,(0,0), ?_,fun _=>rfl, ?_, ?_, ?_⟩
  ·rw [hget,if_pos rfl,h1]; rfl
  ·have:(putCells (Value.int .i64) 0 ys.toArray cc).size=cc.size:=by simp [putCells]
   rw [this]; simp [ofInts,hl]; omega
  ·intro i row hi
   simp only [ofInts,List.getElem?_map,Option.map_eq_some_iff] at hi
   obtain ⟨y,_,rfl⟩:=hi
   rfl
  ·intro i row j x hi hj
   simp only [ofInts,List.getElem?_map,Option.map_eq_some_iff] at hi
   obtain ⟨y,hy,rfl⟩:=hi
   have hj0:j=0:=by
    have:=(List.getElem?_eq_some_iff.1 hj).1
    simp at this; exact this
   subst hj0
   simp only [List.getElem?_cons_zero,Option.some.injEq] at hj
   subst hj
   have hlt:i<ys.length:=(List.getElem?_eq_some_iff.1 hy).1
   obtain ⟨row,hrow⟩ : ∃ row,rs[i]? = some row:=⟨_,List.getElem?_eq_getElem (by omega)⟩
   have hrl:=h4 i row hrow
   obtain ⟨x0,hx0⟩ : ∃ x0,row[0]? = some x0:=⟨_,List.getElem?_eq_getElem (by omega)⟩
   obtain ⟨v,hv,_⟩:=h5 i row 0 x0 hrow hx0
   refine ⟨.int .i64 y, ?_, .t (.int _ _)⟩
   rw [putCells_get,hv]
   simp [hy]
theorem rel_grow (R:Rel N c 0 A μ lam (.init [] H n) bareAct w) (os:Array Obj):Rel N c 0 A μ lam (.init [] H n) bareAct (grow w os):=by
 have hget : ∀ r,r<w.heap.size->(grow w os).heap[r]? = w.heap[r]? := fun r hr=>by simp [grow,Array.getElem?_append,hr]
 refine R.world (by simp [grow]) ?_ ?_ ?_ (Marks.nil _ _ _) ⟨rfl,rfl⟩
 ·rintro r (h | h | ⟨k,o,hk,hl,rfl⟩)
  ·exact hget r (R.alt r h)
  ·obtain ⟨t,ht,_⟩:=h
   simp [St.init] at ht
  ·exact hget _ (R.lt_live hk hl)
 ·intro r hr _
  exact hget r (Nat.lt_of_lt_of_le hr R.csize)
 ·intro r x hx
  unfold World.shape? at hx ⊢
  by_cases hr:r<w.heap.size
  ·rw [hget r hr]; exact hx
  ·rw [Array.getElem?_eq_none (by omega)] at hx; cases hx
theorem own_ints (R:Rel N c 0 A μ lam (.init [] H n) bareAct w) {k len:Nat} {rs:List (List V)} {zs:List Int} (hk:H k=some (.rows 1 rs false)) (hz:intsOf rs=some zs) (hl:zs.length=len)
 {v:Value} (hv:RepV w A N.nm μ H v (.ms k 0 len)) :
 ∃ a cap,v = .slice a zs.length cap/\zs.length<=cap/\(zs=[]\/a=some ⟨μ k,0,none⟩)/\Holds (Value.int .i64) w (μ k) 0 zs.toArray/\μ k<w.heap.size/\(cap=0\/(a=some ⟨μ k,0,none⟩ /\ ∃ e m,w.shape? (μ k)=some (e,m)/\cap<=m)):=by
 obtain ⟨i1,i2⟩:=intsOf_get hz
 obtain ⟨cc,e0,z,h1,h2,h3,h4,h5⟩:=R.heap k _ hk
 have hzz:=h2 rfl
 subst hzz
 have hlt:μ k<w.heap.size:=R.lt_live hk rfl
 have hH:Holds (Value.int .i64) w (μ k) 0 zs.toArray:=by
  intro j hj
  have hj' : j<zs.length:=by simpa using hj
  refine ⟨?_,by simp [World.frozen?,h1]⟩
  have hzj:zs[j]? = some zs[j]:=List.getElem?_eq_getElem hj'
  obtain ⟨u,hu,hr⟩:=h5 j _ 0 _ (i2 j _ hzj) rfl
  cases hr with
  | t hr =>
    cases hr
    simp only [World.cell?,h1,Nat.zero_add]
    simp only [Nat.mul_one,Nat.add_zero] at hu
    simp [hu,hj']
 have hv1:RepC w A N.nm μ H v (.ms k 0 len):=hv
 cases hv1 with
 | ms _ _ _ cap sz rs' frz a hk' hi hc ha =>
   rw [hk] at hk'; cases hk'
   subst hl
   refine ⟨a,cap,rfl,by omega, ?_,hH,hlt, ?_⟩
   ·rcases ha with h0 | ⟨rfl,_⟩
    ·exact .inl (List.eq_nil_of_length_eq_zero (by omega))
    ·exact .inr (by simp)
   ·rcases ha with h0 | ⟨rfl,e,m,hs,hm⟩
    ·exact .inl h0
    ·exact .inr ⟨by simp,e,m,hs,by omega⟩
 | dms _ _ _ hk' _=>rw [hk] at hk'; cases hk'
end
theorem one_arg {w:World} {A:Nat->Prop} {nm μ:Nat->Nat} {H:Nat->Option O} {vs:Array Value} {x:V} (h:RepArgs w A nm μ H vs [x]) : ∃ v,vs = #[v]/\RepV w A nm μ H v x:=by
 obtain ⟨h1,h2⟩:=h
 obtain ⟨v,hv,hr⟩:=h2 0 x rfl
 refine ⟨v, ?_,hr⟩
 apply Array.ext_getElem?
 intro i
 cases i with
 | zero=>simpa using hv
 | succ i=>rw [Array.getElem?_eq_none (by simp at h1; omega),Array.getElem?_eq_none (by simp)]
theorem upd_id {H:Nat->Option O} {k:Nat} {o:O} (h:H k=some o):upd H k (some o)=H:=by
 funext j; unfold upd; split
 ·rename_i e; rw [e,h]
 ·rfl
theorem intsOf_nil {rs:List (List V)} (h:intsOf rs=some []):rs=[]:=List.eq_nil_of_length_eq_zero (by simpa using (intsOf_get h).1)
theorem ext_sort {P:Program} {N:Nam} {g:Nat} {ρ:Ren} (Ly:Go.Proofs.Lays.n189 P ρ) (hf:ρ.f 189=N.nm g) {rf:Func} (hr:Real P (N.nm g) rf):ExtOK P N g .sortI:=by
 refine ⟨⟨rf,hr⟩,fun args H n r H' n' h c A μ lam w vs R ha => ?_,fun _ _ h=>by simp [extPure] at h⟩
 rw [<- hf]
 unfold extSem at h
 split at h
 all_goals (try contradiction)
 ·cases h
  obtain ⟨v,rfl,hv⟩:=one_arg ha
  cases hv.t_inv
  refine (Go.Proofs.Any.slices_Sort_int_none Ly _ _ w).mono ?_
  rintro e w' ⟨rfl,rfl⟩
  exact ⟨_,A,μ,lam,rfl,R,⟨#[],rfl,rfl,by simp⟩⟩
 ·rename_i k len _
  split at h
  ·rename_i rs hk
   simp only [Option.bind_eq_some_iff] at h
   obtain ⟨zs,hz,h⟩:=h
   split at h
   ·rename_i hl
    cases h
    obtain ⟨v,rfl,hv⟩:=one_arg ha
    obtain ⟨a,cap,rfl,hc,hor,hH,hlt,_⟩:=own_ints R hk hz hl.1 hv
    by_cases h0:zs=[]
    ·subst h0
     refine (Go.Proofs.Any.slices_Sort_int_none Ly _ _ w).mono ?_
     rintro e w' ⟨rfl,rfl⟩
     have hrs:=intsOf_nil hz
     subst hrs
     refine ⟨_,A,μ,lam,rfl, ?_,⟨#[],rfl,rfl,by simp⟩⟩
     rw [List.mergeSort_nil,show ofInts []=[] from rfl,upd_id hk]
     exact R
    ·obtain rfl:=hor.resolve_left h0
     refine (Go.Proofs.Any.slices_Sort_int Ly (μ k) 0 cap zs w hH hlt (by omega)).mono ?_
     rintro e w' ⟨rfl,q,os,rfl⟩
     refine ⟨_,A,μ,lam,rfl,rel_grow (rel_putInts R hk _ ?_ q) os,⟨#[],rfl,rfl,by simp⟩⟩
     rw [List.length_mergeSort,(intsOf_get hz).1]
   ·cases h
  ·cases h
theorem compact_le (zs:List Int):(Go.Lib.compact zs).length<=zs.length:=by
 unfold Go.Lib.compact Go.Lib.compactUpTo
 rw [List.length_map]
 exact Nat.le_trans (List.length_filter_le _ _) (by simp)
theorem ext_compact {P:Program} {N:Nam} {g:Nat} {ρ:Ren} (Ly:Go.Proofs.Lays2.n20 P ρ) (hf:ρ.f 20=N.nm g) {rf:Func} (hr:Real P (N.nm g) rf):ExtOK P N g .compactI:=by
 refine ⟨⟨rf,hr⟩,fun args H n r H' n' h c A μ lam w vs R ha => ?_,fun _ _ h=>by simp [extPure] at h⟩
 rw [<- hf]
 unfold extSem at h
 split at h
 all_goals (try contradiction)
 ·cases h
  obtain ⟨v,rfl,hv⟩:=one_arg ha
  cases hv.t_inv
  refine (Go.Proofs.Any.slices_Compact_int_empty Ly _ _ w).mono ?_
  rintro e w' ⟨rfl,rfl⟩
  exact ⟨_,A,μ,lam,rfl,R,hv⟩
 ·rename_i k len _
  split at h
  ·rename_i rs hk
   simp only [Option.bind_eq_some_iff] at h
   obtain ⟨zs,hz,h⟩:=h
   split at h
   ·rename_i hl
    cases h
    obtain ⟨v,rfl,hv⟩:=one_arg ha
    obtain ⟨a,cap,rfl,hc,hor,hH,hlt,hcap⟩:=own_ints R hk hz hl.1 hv
    have hcl:=compact_le zs
    by_cases h0:zs=[]
    ·subst h0
     refine (Go.Proofs.Any.slices_Compact_int_empty Ly _ _ w).mono ?_
     rintro e w' ⟨rfl,rfl⟩
     have hrs:=intsOf_nil hz
     subst hrs
     have hcn:Go.Lib.compact ([]:List Int)=[]:=rfl
     have hl0:len=0:=by simpa using hl.1.symm
     subst hl0
     refine ⟨_,A,μ,lam,rfl, ?_, ?_⟩
     ·rw [hcn,show ofInts ([]++List.replicate (([]:List Int).length-([]:List Int).length) 0)=[] from rfl,upd_id hk]
      exact R
     ·rw [hcn,show ofInts ([]++List.replicate (([]:List Int).length-([]:List Int).length) 0)=[] from rfl,upd_id hk]
      exact hv
    ·obtain rfl:=hor.resolve_left h0
     refine (Go.Proofs.Any.slices_Compact_int Ly (μ k) 0 cap zs w hH (by omega) hc).mono ?_
     rintro e w' ⟨rfl,q,rfl⟩
     have hlen:(Go.Lib.compact zs++List.replicate (zs.length-(Go.Lib.compact zs).length) 0).length=rs.length:=by
      rw [List.length_append,List.length_replicate,(intsOf_get hz).1]; omega
     have R1:=rel_putInts R hk _ hlen q
     refine ⟨_,A,μ,lam,rfl,R1, ?_⟩
     have hcap0:cap≠0:=by
      intro hcc
      exact h0 (List.eq_nil_of_length_eq_zero (by omega))
     obtain ⟨_,e,m,hs,hm⟩:=hcap.resolve_left hcap0
     refine .ms k 0 _ cap 1 _ false _ (upd_same _ _ _) ?_ (by have e1:=(intsOf_get hz).1; simp only [ofInts,List.length_map,hlen]; omega) (.inr ⟨by simp,e,m, ?_,by omega⟩)
     ·simp only [ofInts,List.length_map,hlen,(intsOf_get hz).1]; omega
     ·exact putRow_shape w q (μ k) _ _ _ hs
   ·cases h
  ·cases h
end Rg
end
section
namespace Go.Proofs
open Go.Shelf
def Tryz.lays189_ren:Go.Shelf.Ren:=⟨fun | 189=>106 | 125=>115 | 257=>114 | 128=>126 | 129=>127 | 294=>117 | 295=>118 | 296=>119 | 297=>120 | 298=>121 | 299=>122 | 216=>123 | 300=>124 | 301=>125 | 328=>128 | 329=>129 | 330=>130 | 331=>131 | 332=>132 | 215=>133 | 343=>134 | n=>n,fun | 28=>47 | 3=>3 | 46=>114 | 0=>0 | 51=>176 | 53=>83 | 4=>4 | 183=>170 | 182=>169 | 131=>68 | 5=>5 | 9=>9 | 218=>178 | 222=>182 | 228=>184 | 229=>185 | n=>n,fun | n=>n⟩
theorem Tryz.lays189:Go.Proofs.Lays.n189 Tryz.prog Tryz.lays189_ren:={
 mixed:=by kernel_rfl
 f125:=Tryz.func115.trans (congrArg some (by kernel_rfl))
 f128:=Tryz.func126.trans (congrArg some (by kernel_rfl))
 f129:=Tryz.func127.trans (congrArg some (by kernel_rfl))
 f189:=Tryz.func106.trans (congrArg some (by kernel_rfl))
 f215:=Tryz.func133.trans (congrArg some (by kernel_rfl))
 f216:=Tryz.func123.trans (congrArg some (by kernel_rfl))
 f257:=Tryz.func114.trans (congrArg some (by kernel_rfl))
 f294:=Tryz.func117.trans (congrArg some (by kernel_rfl))
 f295:=Tryz.func118.trans (congrArg some (by kernel_rfl))
 f296:=Tryz.func119.trans (congrArg some (by kernel_rfl))
 f297:=Tryz.func120.trans (congrArg some (by kernel_rfl))
 f298:=Tryz.func121.trans (congrArg some (by kernel_rfl))
 f299:=Tryz.func122.trans (congrArg some (by kernel_rfl))
 f300:=Tryz.func124.trans (congrArg some (by kernel_rfl))
 f301:=Tryz.func125.trans (congrArg some (by kernel_rfl))
 f328:=Tryz.func128.trans (congrArg some (by kernel_rfl))
 f329:=Tryz.func129.trans (congrArg some (by kernel_rfl))
 f330:=Tryz.func130.trans (congrArg some (by kernel_rfl))
 f331:=Tryz.func131.trans (congrArg some (by kernel_rfl))
 f332:=Tryz.func132.trans (congrArg some (by kernel_rfl))
 f343:=Tryz.func134.trans (congrArg some (by kernel_rfl))
 t0:=Tryz.underlying0
 a0:=Tryz.isAgg0
 z0:=Tryz.sizeOf0
 v0:=Tryz.zeroValue0
 t3:=Tryz.underlying3
 a3:=Tryz.isAgg3
 z3:=Tryz.sizeOf3
 v3:=Tryz.zeroValue3
 t4:=Tryz.underlying4
 a4:=Tryz.isAgg4
 z4:=Tryz.sizeOf4
 v4:=Tryz.zeroValue4
 t5:=Tryz.underlying5
 a5:=Tryz.isAgg5
 z5:=Tryz.sizeOf5
 v5:=Tryz.zeroValue5
 t9:=Tryz.underlying9
 a9:=Tryz.isAgg9
 z9:=Tryz.sizeOf9
 v9:=Tryz.zeroValue9
 t28:=Tryz.underlying47
 a28:=Tryz.isAgg47
 z28:=Tryz.sizeOf47
 v28:=Tryz.zeroValue47
 t46:=Tryz.underlying114
 a46:=Tryz.isAgg114
 z46:=Tryz.sizeOf114
 v46:=Tryz.zeroValue114
 t51:=Tryz.underlying176
 a51:=Tryz.isAgg176
 z51:=Tryz.sizeOf176
 v51:=Tryz.zeroValue176
 t53:=Tryz.underlying83
 a53:=Tryz.isAgg83
 z53:=Tryz.sizeOf83
 v53:=Tryz.zeroValue83
 t131:=Tryz.underlying68
 a131:=Tryz.isAgg68
 z131:=Tryz.sizeOf68
 v131:=Tryz.zeroValue68
 t182:=Tryz.underlying169
 a182:=Tryz.isAgg169
 z182:=Tryz.sizeOf169
 v182:=Tryz.zeroValue169
 t183:=Tryz.underlying170
 a183:=Tryz.isAgg170
 z183:=Tryz.sizeOf170
 v183:=Tryz.zeroValue170
 t218:=Tryz.underlying178
 a218:=Tryz.isAgg178
 z218:=Tryz.sizeOf178
 v218:=Tryz.zeroValue178
 t222:=Tryz.underlying182
 a222:=Tryz.isAgg182
 z222:=Tryz.sizeOf182
 v222:=Tryz.zeroValue182
 t228:=Tryz.underlying184
 a228:=Tryz.isAgg184
 z228:=Tryz.sizeOf184
 v228:=Tryz.zeroValue184
 t229:=Tryz.underlying185
 a229:=Tryz.isAgg185
 z229:=Tryz.sizeOf185
 v229:=Tryz.zeroValue185 }
def Tryz.lays2n20_ren:Go.Shelf.Ren:=⟨fun | 20=>107 | n=>n,fun | 22=>47 | 3=>3 | 4=>4 | 0=>0 | n=>n,fun | n=>n⟩
theorem Tryz.lays2n20:Go.Proofs.Lays2.n20 Tryz.prog Tryz.lays2n20_ren:={
 mixed:=by kernel_rfl
 f20:=Tryz.func107.trans (congrArg some (by kernel_rfl))
 t0:=Tryz.underlying0
 a0:=Tryz.isAgg0
 z0:=Tryz.sizeOf0
 v0:=Tryz.zeroValue0
 t3:=Tryz.underlying3
 a3:=Tryz.isAgg3
 z3:=Tryz.sizeOf3
 v3:=Tryz.zeroValue3
 t4:=Tryz.underlying4
 a4:=Tryz.isAgg4
 z4:=Tryz.sizeOf4
 v4:=Tryz.zeroValue4
 t22:=Tryz.underlying47
 a22:=Tryz.isAgg47
 z22:=Tryz.sizeOf47
 v22:=Tryz.zeroValue47
 i3:=by kernel_rfl }
end Go.Proofs
end
section
set_option maxRecDepth 100000
namespace Rg
open Go Go.Proofs Go.Proofs.YtcgkpboneipghaaGreatDoor
namespace Seat
def tbl:List Nat:=[2,1000001,1000002,1000003,1000004,1000005,1000006,1000007,1000008,1000009,1000010,1000011,1000012,1000013,1000014,1000015,1000016,1000017,1000018,1000019,1000020,1000021,1000022,41,1000024,1000025,1000026,1000027,67,1000029,1000030,66,1000032,1000033,1000034,1000035,1000036,1000037,1000038,1000039,1000040,1000041,1000042,1000043,1000044,1000045,1000046,72,1000048,1000049,1000050,83,1000052,1000053,1000054,1000055,1000056,87,1000058,1000059,86,40,39,1000063,11,1000065,1000066,1000067,1000068,1000069,102,103,1000072,1000073,106,107,84,104,105,28,29,30,31,32,1000084,1000085,1000086,1000087,1000088,1000089,1000090,113,1000092,114,115,52,53,54,55,56,57,58,59,60,61,62,63,64,65,1000109,1000110,1000111,1000112,1000113,1000114,1000115,1000116,1000117,1000118,1000119,117,118,119,120,121,122,123,124,125,126,127,78,79,80,81,82,85,1000137,1000138,128,129,130,131,132,133,93,94,95,96,97,98,99,100,101,1000154,1000155,1000156,21,1000158,1000159,134,108,109,110,111,112,116,155,1000168,1000169,1000170,1000171,1000172,1000173,1000174,1000175,1000176,1000177,1000178,1000179,1000180,1000181,1000182,1000183,1000184,1000185,1000186,1000187,1000188,1000189,1000190,1000191,1000192,1000193,1000194,1000195,1000196,1000197,1000198,1000199,1000200,1000201,1000202,1000203,1000204,1000205,71,89,1000208,1000209,1000210,1000211,1000212,1000213,1000214,1000215,1000216,23,1000218,1000219,1000220,1000221,1000222,1000223,1000224,1000225,1000226,1000227,70,1000229,1000230,1000231,1000232,1000233,1000234,1000235,1000236,1000237,1000238,42,1000240,1000241,1000242,1000243,1000244,1000245,1000246,1000247,1000248,1000249,1000250,1000251,1000252,88,1000254,1000255,1000256,1000257,1000258,1000259,1000260,1000261,1000262,1000263,1000264,1000265,1000266,1000267,1000268,1000269,1000270,1000271,1000272,1000273,1000274,1000275,1000276,1000277,1000278,1000279,1000280,3,4,5,6,7,8,9,10,12,13,14,15,16,17,18,19,20,22,24,25,26,27,33,34,35,36,37,38,43,44,45,46,47,48,49,50,51,68,69,73,74,75,76,77,90,91,92,1000328,1000329,1000330,1000331,1000332,1000333,1000334,1000335,1000336,1000337,1000338,1000339,1000340,1000341,1000342,1000343,1000344,1000345,1000346,1000347,1000348,1000349,1000350,1000351,1000352,1000353,1000354,1000355,1000356,1000357,1000358,1000359,1000360,1000361,1000362,1000363,1000364,1000365,1000366,1000367,1000368,1000369,1000370,1000371,1000372,1000373,1000374,1000375,1000376,1000377,1000378,1000379,1000380,1000381,1000382,1000383,1000384,1000385,1000386,1000387,1000388,1000389,1000390,1000391,1000392,1000393,1000394]
def I:Inv:=⟨fun f=>tbl.findIdx? (· == f),fun g=>if g=0 then some 0 else none,none⟩
def N:Nam:=⟨fun k=>tbl.getD k 0,fun k=>[0].getD k 0,G,CR Tryz.prog I,0,0⟩
def raws (s:List Nat):Raws:=⟨[52,53,54,57,60,70,74,75,76,77,83,93,97,120,121,122,123,124,125,127,128,136,139,141,142,143,158,160,199,200,202,203,236,241,244,245,246,258,260,261,295,300,301,302,310,315,317,322,323,324,326],s,[32,78,198]⟩
def Ent (q:Nat×F):Prop:=(∃ rf rw L raw,Tryz.prog.funcs[N.nm q.1]? = some rf/\compF Tryz.prog I rw L raw rf=some q.2) \/ ∃ e,q.2.body = .ext e/\ExtOK Tryz.prog N q.1 e
theorem e23:Ent (23,f23):=.inl ⟨Tryz.f41,raws [],[2],false,Tryz.func41,by kernel_rfl⟩
theorem e28:Ent (28,f28):=.inl ⟨Tryz.f67,raws [],[5,1],false,Tryz.func67,by kernel_rfl⟩
theorem e31:Ent (31,f31):=.inl ⟨Tryz.f66,raws [],[6,1],false,Tryz.func66,by kernel_rfl⟩
theorem e47:Ent (47,f47):=.inl ⟨Tryz.f72,raws [],[2],false,Tryz.func72,by kernel_rfl⟩
theorem e51:Ent (51,f51):=.inl ⟨Tryz.f83,raws [7],[],false,Tryz.func83,by kernel_rfl⟩
theorem e57:Ent (57,f57):=.inl ⟨Tryz.f87,raws [],[],true,Tryz.func87,by kernel_rfl⟩
theorem e60:Ent (60,f60):=.inl ⟨Tryz.f86,raws [],[],true,Tryz.func86,by kernel_rfl⟩
theorem e61:Ent (61,f61):=.inl ⟨Tryz.f40,raws [],[4],false,Tryz.func40,by kernel_rfl⟩
theorem e62:Ent (62,f62):=.inl ⟨Tryz.f39,raws [],[4],false,Tryz.func39,by kernel_rfl⟩
theorem e64:Ent (64,f64):=.inl ⟨Tryz.f11,raws [],[13,5,1],false,Tryz.func11,by kernel_rfl⟩
theorem e70:Ent (70,f70):=.inl ⟨Tryz.f102,raws [38],[],true,Tryz.func102,by kernel_rfl⟩
theorem e71:Ent (71,f71):=.inl ⟨Tryz.f103,raws [],[],false,Tryz.func103,by kernel_rfl⟩
theorem e74:Ent (74,f74):=.inr ⟨.sortI,rfl,ext_sort Tryz.lays189 (by kernel_rfl) (rf:=Tryz.f106) ⟨Tryz.func106,by kernel_rfl,by kernel_rfl⟩⟩
theorem e75:Ent (75,f75):=.inr ⟨.compactI,rfl,ext_compact Tryz.lays2n20 (by kernel_rfl) (rf:=Tryz.f107) ⟨Tryz.func107,by kernel_rfl,by kernel_rfl⟩⟩
theorem e76:Ent (76,f76):=.inl ⟨Tryz.f84,raws [13],[],true,Tryz.func84,by kernel_rfl⟩
theorem e77:Ent (77,f77):=.inl ⟨Tryz.f104,raws [],[],true,Tryz.func104,by kernel_rfl⟩
theorem e78:Ent (78,f78):=.inl ⟨Tryz.f105,raws [],[1],true,Tryz.func105,by kernel_rfl⟩
theorem e79:Ent (79,f79):=.inl ⟨Tryz.f28,raws [],[6,4,1],false,Tryz.func28,by kernel_rfl⟩
theorem e80:Ent (80,f80):=.inl ⟨Tryz.f29,raws [],[5,1],false,Tryz.func29,by kernel_rfl⟩
theorem e81:Ent (81,f81):=.inl ⟨Tryz.f30,raws [],[5,1],false,Tryz.func30,by kernel_rfl⟩
theorem e82:Ent (82,f82):=.inl ⟨Tryz.f31,raws [],[6,5,1],false,Tryz.func31,by kernel_rfl⟩
theorem e83:Ent (83,f83):=.inl ⟨Tryz.f32,raws [],[14,12],true,Tryz.func32,by kernel_rfl⟩
theorem e91:Ent (91,f91):=.inl ⟨Tryz.f113,raws [],[],false,Tryz.func113,by kernel_rfl⟩
theorem e95:Ent (95,f95):=.inl ⟨Tryz.f52,raws [],[],false,Tryz.func52,by kernel_rfl⟩
theorem e96:Ent (96,f96):=.inl ⟨Tryz.f53,raws [],[],false,Tryz.func53,by kernel_rfl⟩
theorem e97:Ent (97,f97):=.inl ⟨Tryz.f54,raws [],[5],true,Tryz.func54,by kernel_rfl⟩
theorem e98:Ent (98,f98):=.inl ⟨Tryz.f55,raws [],[1],false,Tryz.func55,by kernel_rfl⟩
theorem e99:Ent (99,f99):=.inl ⟨Tryz.f56,raws [],[5,4],false,Tryz.func56,by kernel_rfl⟩
theorem e100:Ent (100,f100):=.inl ⟨Tryz.f57,raws [],[2],false,Tryz.func57,by kernel_rfl⟩
theorem e101:Ent (101,f101):=.inl ⟨Tryz.f58,raws [],[],false,Tryz.func58,by kernel_rfl⟩
theorem e102:Ent (102,f102):=.inl ⟨Tryz.f59,raws [],[],false,Tryz.func59,by kernel_rfl⟩
theorem e103:Ent (103,f103):=.inl ⟨Tryz.f60,raws [],[],false,Tryz.func60,by kernel_rfl⟩
theorem e104:Ent (104,f104):=.inl ⟨Tryz.f61,raws [],[],false,Tryz.func61,by kernel_rfl⟩
theorem e105:Ent (105,f105):=.inl ⟨Tryz.f62,raws [],[13,12,7,6,4],false,Tryz.func62,by kernel_rfl⟩
theorem e106:Ent (106,f106):=.inl ⟨Tryz.f63,raws [],[],false,Tryz.func63,by kernel_rfl⟩
theorem e107:Ent (107,f107):=.inl ⟨Tryz.f64,raws [],[],false,Tryz.func64,by kernel_rfl⟩
theorem e108:Ent (108,f108):=.inl ⟨Tryz.f65,raws [],[2],false,Tryz.func65,by kernel_rfl⟩
theorem e131:Ent (131,f131):=.inl ⟨Tryz.f78,raws [],[],false,Tryz.func78,by kernel_rfl⟩
theorem e132:Ent (132,f132):=.inl ⟨Tryz.f79,raws [],[],false,Tryz.func79,by kernel_rfl⟩
theorem e133:Ent (133,f133):=.inl ⟨Tryz.f80,raws [],[],false,Tryz.func80,by kernel_rfl⟩
theorem e134:Ent (134,f134):=.inl ⟨Tryz.f81,raws [],[],false,Tryz.func81,by kernel_rfl⟩
theorem e135:Ent (135,f135):=.inl ⟨Tryz.f82,raws [],[0],false,Tryz.func82,by kernel_rfl⟩
theorem e136:Ent (136,f136):=.inl ⟨Tryz.f85,raws [],[],true,Tryz.func85,by kernel_rfl⟩
theorem e145:Ent (145,f145):=.inl ⟨Tryz.f93,raws [],[],false,Tryz.func93,by kernel_rfl⟩
theorem e146:Ent (146,f146):=.inl ⟨Tryz.f94,raws [],[],false,Tryz.func94,by kernel_rfl⟩
theorem e147:Ent (147,f147):=.inl ⟨Tryz.f95,raws [],[5,3],false,Tryz.func95,by kernel_rfl⟩
theorem e148:Ent (148,f148):=.inl ⟨Tryz.f96,raws [],[11,9,5,3],false,Tryz.func96,by kernel_rfl⟩
theorem e149:Ent (149,f149):=.inl ⟨Tryz.f97,raws [],[5],false,Tryz.func97,by kernel_rfl⟩
theorem e150:Ent (150,f150):=.inl ⟨Tryz.f98,raws [],[5,3],false,Tryz.func98,by kernel_rfl⟩
theorem e151:Ent (151,f151):=.inl ⟨Tryz.f99,raws [],[5,3],false,Tryz.func99,by kernel_rfl⟩
theorem e152:Ent (152,f152):=.inl ⟨Tryz.f100,raws [],[5,3],false,Tryz.func100,by kernel_rfl⟩
theorem e153:Ent (153,f153):=.inl ⟨Tryz.f101,raws [],[5,3],false,Tryz.func101,by kernel_rfl⟩
theorem e157:Ent (157,f157):=.inl ⟨Tryz.f21,raws [],[0],false,Tryz.func21,by kernel_rfl⟩
theorem e161:Ent (161,f161):=.inl ⟨Tryz.f108,raws [],[6,2],false,Tryz.func108,by kernel_rfl⟩
theorem e162:Ent (162,f162):=.inl ⟨Tryz.f109,raws [],[6],false,Tryz.func109,by kernel_rfl⟩
theorem e163:Ent (163,f163):=.inl ⟨Tryz.f110,raws [],[2],false,Tryz.func110,by kernel_rfl⟩
theorem e164:Ent (164,f164):=.inl ⟨Tryz.f111,raws [],[],false,Tryz.func111,by kernel_rfl⟩
theorem e165:Ent (165,f165):=.inl ⟨Tryz.f112,raws [],[1],false,Tryz.func112,by kernel_rfl⟩
theorem e166:Ent (166,f166):=.inl ⟨Tryz.f116,raws [],[1],false,Tryz.func116,by kernel_rfl⟩
theorem e206:Ent (206,f206):=.inl ⟨Tryz.f71,raws [],[],false,Tryz.func71,by kernel_rfl⟩
theorem e207:Ent (207,f207):=.inl ⟨Tryz.f89,raws [],[],false,Tryz.func89,by kernel_rfl⟩
theorem e217:Ent (217,f217):=.inl ⟨Tryz.f23,raws [],[6,2],false,Tryz.func23,by kernel_rfl⟩
theorem e228:Ent (228,f228):=.inl ⟨Tryz.f70,raws [],[1],false,Tryz.func70,by kernel_rfl⟩
theorem e239:Ent (239,f239):=.inl ⟨Tryz.f42,raws [],[2],false,Tryz.func42,by kernel_rfl⟩
theorem e253:Ent (253,f253):=.inl ⟨Tryz.f88,raws [],[7,2],false,Tryz.func88,by kernel_rfl⟩
theorem e285:Ent (285,f285):=.inl ⟨Tryz.f7,raws [],[13,4],false,Tryz.func7,by kernel_rfl⟩
theorem e286:Ent (286,f286):=.inl ⟨Tryz.f8,raws [],[7,6,5,1],false,Tryz.func8,by kernel_rfl⟩
theorem e287:Ent (287,f287):=.inl ⟨Tryz.f9,raws [],[1],false,Tryz.func9,by kernel_rfl⟩
theorem e288:Ent (288,f288):=.inl ⟨Tryz.f10,raws [],[2],false,Tryz.func10,by kernel_rfl⟩
theorem e289:Ent (289,f289):=.inl ⟨Tryz.f12,raws [],[2],false,Tryz.func12,by kernel_rfl⟩
theorem e291:Ent (291,f291):=.inl ⟨Tryz.f14,raws [],[2],false,Tryz.func14,by kernel_rfl⟩
theorem e293:Ent (293,f293):=.inl ⟨Tryz.f16,raws [],[1],false,Tryz.func16,by kernel_rfl⟩
theorem e294:Ent (294,f294):=.inl ⟨Tryz.f17,raws [],[7,6,3],false,Tryz.func17,by kernel_rfl⟩
theorem e295:Ent (295,f295):=.inl ⟨Tryz.f18,raws [],[9,5,4],true,Tryz.func18,by kernel_rfl⟩
theorem e296:Ent (296,f296):=.inl ⟨Tryz.f19,raws [],[6],false,Tryz.func19,by kernel_rfl⟩
theorem e297:Ent (297,f297):=.inl ⟨Tryz.f20,raws [],[6],false,Tryz.func20,by kernel_rfl⟩
theorem e298:Ent (298,f298):=.inl ⟨Tryz.f22,raws [],[],false,Tryz.func22,by kernel_rfl⟩
theorem e299:Ent (299,f299):=.inl ⟨Tryz.f24,raws [],[1],false,Tryz.func24,by kernel_rfl⟩
theorem e300:Ent (300,f300):=.inl ⟨Tryz.f25,raws [],[10,7,2],true,Tryz.func25,by kernel_rfl⟩
theorem e301:Ent (301,f301):=.inl ⟨Tryz.f26,raws [],[7],true,Tryz.func26,by kernel_rfl⟩
theorem e302:Ent (302,f302):=.inl ⟨Tryz.f27,raws [],[],true,Tryz.func27,by kernel_rfl⟩
theorem e306:Ent (306,f306):=.inl ⟨Tryz.f36,raws [],[8,7],false,Tryz.func36,by kernel_rfl⟩
theorem e307:Ent (307,f307):=.inl ⟨Tryz.f37,raws [],[7,5,1],false,Tryz.func37,by kernel_rfl⟩
theorem e308:Ent (308,f308):=.inl ⟨Tryz.f38,raws [],[],false,Tryz.func38,by kernel_rfl⟩
theorem e309:Ent (309,f309):=.inl ⟨Tryz.f43,raws [],[],false,Tryz.func43,by kernel_rfl⟩
theorem e310:Ent (310,f310):=.inl ⟨Tryz.f44,raws [],[4,3],true,Tryz.func44,by kernel_rfl⟩
theorem e311:Ent (311,f311):=.inl ⟨Tryz.f45,raws [],[11,9,7,5,4],false,Tryz.func45,by kernel_rfl⟩
theorem e312:Ent (312,f312):=.inl ⟨Tryz.f46,raws [],[1],false,Tryz.func46,by kernel_rfl⟩
theorem e313:Ent (313,f313):=.inl ⟨Tryz.f47,raws [],[1],false,Tryz.func47,by kernel_rfl⟩
theorem e314:Ent (314,f314):=.inl ⟨Tryz.f48,raws [],[6],false,Tryz.func48,by kernel_rfl⟩
theorem e315:Ent (315,f315):=.inl ⟨Tryz.f49,raws [],[11],true,Tryz.func49,by kernel_rfl⟩
theorem e316:Ent (316,f316):=.inl ⟨Tryz.f50,raws [],[],false,Tryz.func50,by kernel_rfl⟩
theorem e317:Ent (317,f317):=.inl ⟨Tryz.f51,raws [],[],true,Tryz.func51,by kernel_rfl⟩
theorem e318:Ent (318,f318):=.inl ⟨Tryz.f68,raws [],[3],false,Tryz.func68,by kernel_rfl⟩
theorem e319:Ent (319,f319):=.inl ⟨Tryz.f69,raws [],[5,3],false,Tryz.func69,by kernel_rfl⟩
theorem e320:Ent (320,f320):=.inl ⟨Tryz.f73,raws [],[5],false,Tryz.func73,by kernel_rfl⟩
theorem e321:Ent (321,f321):=.inl ⟨Tryz.f74,raws [],[],false,Tryz.func74,by kernel_rfl⟩
theorem e322:Ent (322,f322):=.inl ⟨Tryz.f75,raws [],[],true,Tryz.func75,by kernel_rfl⟩
theorem e323:Ent (323,f323):=.inl ⟨Tryz.f76,raws [],[],true,Tryz.func76,by kernel_rfl⟩
theorem e324:Ent (324,f324):=.inl ⟨Tryz.f77,raws [],[],true,Tryz.func77,by kernel_rfl⟩
theorem e325:Ent (325,f325):=.inl ⟨Tryz.f90,raws [],[7],false,Tryz.func90,by kernel_rfl⟩
theorem e326:Ent (326,f326):=.inl ⟨Tryz.f91,raws [59],[7],true,Tryz.func91,by kernel_rfl⟩
theorem e327:Ent (327,f327):=.inl ⟨Tryz.f92,raws [],[8,7],false,Tryz.func92,by kernel_rfl⟩
theorem all : ∀ q∈tabL,Ent q:=by
 unfold tabL
 simp only [List.forall_mem_cons]
 exact ⟨e23,e28,e31,e47,e51,e57,e60,e61,e62,e64,e70,e71,e74,e75,e76,e77,e78,e79,e80,e81,e82,e83,e91,e95,e96,e97,e98,e99,e100,e101,e102,e103,e104,e105,e106,e107,e108,e131,e132,e133,e134,e135,e136,e145,e146,e147,e148,e149,e150,e151,e152,e153,e157,e161,e162,e163,e164,e165,e166,e206,e207,e217,e228,e239,e253,e285,e286,e287,e288,e289,e291,e293,e294,e295,e296,e297,e298,e299,e300,e301,e302,e306,e307,e308,e309,e310,e311,e312,e313,e314,e315,e316,e317,e318,e319,e320,e321,e322,e323,e324,e325,e326,e327,fun _ h=>by cases h⟩
end Seat
end Rg
end
section
namespace Rg
open Go
abbrev ti (n:Int):T:=.int .i64 n
abbrev tb (b:Bool):T:=.bool b
abbrev ints (l:List Int):T:=.sl (l.map fun n=>[ti n])
@[go_sem] theorem beqI (a b:Int):(a==b)=decide (a=b):=by by_cases h:a=b <;> simp [h]
@[go_sem] theorem bneI (a b:Int):(a != b)=decide (¬ a=b):=by by_cases h:a=b <;> simp [h]
@[go_sem] theorem wl_1:IntKind.i64.wrap 1=1:=by rw [IntKind.wrap_i64]; rfl
@[go_sem] theorem wl_2:IntKind.i64.wrap 2=2:=by rw [IntKind.wrap_i64]; rfl
@[go_sem] theorem wl_3:IntKind.i64.wrap 3=3:=by rw [IntKind.wrap_i64]; rfl
inductive Expr where
 | mk (op w n:Int) (kids:List Expr)
 deriving Inhabited
namespace Expr
def op:Expr->Int | .mk o _ _ _=>o
def w:Expr->Int | .mk _ w _ _=>w
def n:Expr->Int | .mk _ _ n _=>n
def kids:Expr->List Expr | .mk _ _ _ k=>k
@[go_sem] theorem op_mk (o w n:Int) (k:List Expr):(Expr.mk o w n k).op=o:=rfl
@[go_sem] theorem w_mk (o w n:Int) (k:List Expr):(Expr.mk o w n k).w=w:=rfl
@[go_sem] theorem n_mk (o w n:Int) (k:List Expr):(Expr.mk o w n k).n=n:=rfl
@[go_sem] theorem kids_mk (o w n:Int) (k:List Expr):(Expr.mk o w n k).kids=k:=rfl
mutual
def enc:Expr->List T
 | .mk o w n k=>[ti o,ti w,ti n, .sl (encs k)]
def encs:List Expr->List (List T)
 | []=>[]
 | e::r=>enc e::encs r
end
theorem encs_eq : ∀ l:List Expr,encs l=l.map enc
 | []=>rfl
 | e::r=>by rw [encs,encs_eq r]; rfl
theorem enc_eq (e:Expr):e.enc=[ti e.op,ti e.w,ti e.n, .sl (e.kids.map enc)]:=by
 cases e; simp only [enc,encs_eq,op,w,n,kids]
mutual
def size:Expr->Nat
 | .mk _ _ _ k=>sizes k+1
def sizes:List Expr->Nat
 | []=>0
 | e::r=>size e+sizes r
end
theorem sizes_eq : ∀ l:List Expr,sizes l=(l.map size).sum
 | []=>rfl
 | e::r=>by rw [sizes,sizes_eq r]; rfl
theorem size_eq (e:Expr):e.size=(e.kids.map size).sum+1:=by
 cases e; simp only [size,sizes_eq,kids]
theorem size_pos (e:Expr):0<e.size:=by rw [size_eq]; omega
theorem size_kid {e k:Expr} (h:k∈e.kids):k.size<e.size:=by
 rw [size_eq e]
 have:k.size<=(e.kids.map size).sum:=by
  generalize e.kids=l at h
  induction l with
  | nil=>simp at h
  | cons x r ih =>
    simp only [List.map_cons,List.sum_cons]
    rcases List.mem_cons.1 h with rfl | h
    ·omega
    ·have:=ih h; omega
 omega
theorem ind {P:Expr->Prop} (h : ∀ e:Expr,(∀ k∈e.kids,P k)->P e) : ∀ e,P e:=by
 intro e
 generalize hn:e.size=n
 induction n using Nat.strongRecOn generalizing e with
 | _ n ih=>exact h e fun k hk=>ih k.size (by have:=size_kid hk; omega) k rfl
mutual
def allE (f:Expr->Bool):Expr->Bool
 | .mk o w n k=>f (.mk o w n k)&&allEs f k
def allEs (f:Expr->Bool):List Expr->Bool
 | []=>true
 | e::r=>allE f e&&allEs f r
end
theorem allEs_eq (f:Expr->Bool) : ∀ l:List Expr,allEs f l=l.all (allE f)
 | []=>rfl
 | e::r=>by rw [allEs,allEs_eq f r]; rfl
theorem allE_eq (f:Expr->Bool) (e:Expr):allE f e=(f e&&e.kids.all (allE f)):=by
 cases e; simp only [allE,allEs_eq,kids]
theorem allE_self {f:Expr->Bool} {e:Expr} (h:allE f e=true):f e=true:=by
 rw [allE_eq] at h; simp only [Bool.and_eq_true] at h; exact h.1
theorem allE_kid {f:Expr->Bool} {e k:Expr} (h:allE f e=true) (hk:k∈e.kids):allE f k=true:=by
 rw [allE_eq] at h; simp only [Bool.and_eq_true,List.all_eq_true] at h; exact h.2 k hk
theorem len_le_size (ks:List Expr):ks.length<=(ks.map size).sum:=by
 induction ks with
 | nil=>simp
 | cons x r ih=>have:=size_pos x; simp only [List.length_cons,List.map_cons,List.sum_cons]; omega
theorem take_le_size (ks:List Expr) (i:Nat):((ks.take i).map size).sum<=(ks.map size).sum:=by
 induction ks generalizing i with
 | nil=>simp
 | cons x r ih=>cases i with
   | zero=>simp
   | succ i=>have:=ih i; simp only [List.take_succ_cons,List.map_cons,List.sum_cons]; omega
def kw (e:Expr) (i:Nat):Int:=(e.kids.getD i (.mk 0 0 0 [])).w
end Expr
structure Cell where
 name:ByteArray
 w:Int
 init:Int
 thread:Int
 ghost:Bool
 module:Int
 deriving Inhabited
def Cell.enc (c:Cell):List T:=[.str c.name,ti c.w,ti c.init,ti c.thread,tb c.ghost,ti c.module]
structure Assign where
 cell:Int
 to:Expr
 deriving Inhabited
def Assign.enc (a:Assign):List T:=ti a.cell::a.to.enc
structure Step where
 kind:Int
 fr:Int
 to:Int
 guard:Expr
 set:List Assign
 release:Bool
 target:Int
 module:Int
 deriving Inhabited
def Step.enc (s:Step):List T:=[ti s.kind,ti s.fr,ti s.to]++s.guard.enc++[.sl (s.set.map Assign.enc),tb s.release,ti s.target,ti s.module]
structure Loop where
 head:Int
 body:List Int
 variant:Expr
 deriving Inhabited
def Loop.enc (l:Loop):List T:=[ti l.head,ints l.body]++l.variant.enc
structure Thread where
 name:ByteArray
 points:Int
 asserts:List Expr
 modules:List Int
 steps:List Step
 loops:List Loop
 asleep:Bool
 deriving Inhabited
def Thread.enc (t:Thread):List T :=
 [.str t.name,ti t.points, .sl (t.asserts.map Expr.enc),ints t.modules, .sl (t.steps.map Step.enc), .sl (t.loops.map Loop.enc),tb t.asleep]
structure Contract where
 name:ByteArray
 owner:ByteArray
 rely:Expr
 guar:Expr
 frame:List Int
 deriving Inhabited
def Contract.enc (c:Contract):List T:=[.str c.name, .str c.owner]++c.rely.enc++c.guar.enc++[ints c.frame]
structure Lock where
 cell:Int
 inv:Expr
 module:Int
 deriving Inhabited
def Lock.enc (l:Lock):List T:=[ti l.cell]++l.inv.enc++[ti l.module]
structure Prog where
 cells:List Cell
 modules:List Contract
 locks:List Lock
 threads:List Thread
 deriving Inhabited
def Prog.enc (p:Prog):List T:=[.sl (p.cells.map Cell.enc), .sl (p.modules.map Contract.enc), .sl (p.locks.map Lock.enc), .sl (p.threads.map Thread.enc)]
structure Entry where
 cells:List Int
 values:List Int
 deriving Inhabited,DecidableEq
def Entry.enc (e:Entry):List T:=[ints e.cells,ints e.values]
structure Config where
 mem:List Int
 at_:List Int
 buf:List (List Entry)
 deriving Inhabited,DecidableEq
def Config.enc (c:Config):List T:=[ints c.mem,ints c.at_, .sl (c.buf.map fun b=>[.sl (b.map Entry.enc)])]
structure Choice where
 thread:Int
 step:Int
 cell:Int
 deriving Inhabited,DecidableEq
def Choice.enc (c:Choice):List T:=[ti c.thread,ti c.step,ti c.cell]
attribute [go_sem] Expr.enc_eq Cell.enc Assign.enc Step.enc Loop.enc Thread.enc Contract.enc Lock.enc Prog.enc Entry.enc Config.enc Choice.enc
def ag (l:List T):V:=.agg (l.map V.t)
theorem wrapS (i:Nat) (h:i<2^62):IntKind.i64.wrap ((i:Int)+1)=((i+1:Nat):Int):=by rw [wrap64 (by omega)]; omega
theorem take_succ_of {α:Type} {l:List α} {i:Nat} {x:α} (h:l[i]? = some x):l.take (i+1)=l.take i++[x]:=by
 rw [List.take_add_one,h]; rfl
theorem pow2_le {i k:Nat} (h:i<=k):(2:Int)^i<=2^k:=by
 have:=Nat.pow_le_pow_right (n:=2) (by omega) h
 exact_mod_cast this
theorem pow2_pos (i:Nat):0<(2:Int)^i:=Int.pow_pos (by omega)
theorem get_of {α:Type} {l:List α} {i:Nat} (h:i<l.length) : ∃ x,l[i]? = some x/\x∈l:=⟨l[i],List.getElem?_eq_getElem h,List.getElem_mem h⟩
end Rg
end

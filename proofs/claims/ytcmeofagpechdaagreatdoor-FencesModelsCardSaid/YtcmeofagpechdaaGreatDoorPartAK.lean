/- Part of the proof of laws of relyguardlaw31. No condition. -/
import Derived.Test.YtcmeofagpechdaaGreatDoorPartAI
import Derived.Test.YtcmeofagpechdaaGreatDoorPartAJ
import Derived.Shelf.Sort.Plain
import Derived.Shelf.Slices.In.SortNone
import Derived.Shelf.Slices.CompactI
import Derived.Shelf.Slices.Clone
import Derived.Test.YtcmeofagpechdaaGreatDoorPartAH
import Derived.Shelf.SlicesE.Clone
set_option linter.unusedSimpArgs false
set_option linter.unusedVariables false
section
namespace Rg
open Go
def zru:F:=⟨87,false,[.s 4],(.seq (rF [oQ 2 4 0,oB 4 false]) (.seq (rF [o 14 (.call false (cf 401) []),oM 5 14]) (.seq (.seq (rF [oK
 15 4 2,o 16 (.call false (cf 402) [(.s 15)]),oT 17 16]) (.cond (.s 17) (.seq (rF [oM 18 5,oM 4 18]) .ret) .skip)) (.seq (rF [oM 19 1,o 20
 (.conv .i64 (.s 19)),oD 21 .rem 20 3,oM 6 21]) (.seq (rF [oK 23 4 2,oM 24 6,o 25 (.call false (cf 403) [(.s 23),(.s 24)]),oM 22 25,oX
 26 22 0,oX 27 22 1,oM 7 26,oM 8 27]) (.seq (.seq (rF [oM 28 8,oD 29 .neq 28 0]) (.cond (.s 29) (.seq (rF [oM 30 5,oM 31 30,gM 31 true 32
 8,gD 31 true 33 .eql 32 310,oW 34 31 33,oM 35 34,gM 35 true 36 7,gN 35 true 37 36,gD 35 true 38 .eql 37 0,oW 39 35 38,oM 40 39,gK 40
 true 41 4 2,gM 40 true 42 6,og 40 true 43 (.call false (cf 289) [(.s 41),(.s 42)]),gT 40 true 44 43,oW 45 40 44,oM 4 45]) .ret) .skip))
 (.seq (rF [oK 47 4 2,oM 48 7,o 49 (.call false (cf 404) [(.s 47),(.s 48)]),oM 46 49,oX 50 46 0,oX 51 46 1,o 9 (.allocL [zn,zn,zn,zn]),
 oP 4 9 50,oM 10 51]) (.seq (.seq (rF [oM 52 10,oD 53 .neq 52 0,oM 54 53,gK 54 false 55 4 9,gM 54 false 56 6,og 54 false 57 (.call false
 (cf 289) [(.s 55),(.s 56)]),gT 54 false 58 57,oV 59 54 58,oM 60 59,gM 60 false 61 7,gN 60 false 62 61,gD 60 false 63 .gtr 62 4,oV 64
 60 63]) (.cond (.s 64) (.seq (rF [oB 4 false]) .ret) .skip)) (.seq (.seq (rF [oI 11 0]) (.block 0 (.loop (.seq (.seq (rF [oM 65 11,oM 66 7,
 oN 67 66,oC 68 .lss 65 67]) (.cond (.s 68) .skip (.exit 0))) (.seq (.block 1 (.seq (rT [oK 72 4 2,oM 73 7,oM 74 11,o 75 (.call false (cf
 405) [(.s 73),(.s 74)]),o 76 (.call false (cf 404) [(.s 72),(.s 75)]),oM 71 76,oX 77 71 0,oX 78 71 1,o 12 (.allocL [zn,zn,zn,zn]),
 oP 4 12 77,oM 13 78]) (.seq (rF [oM 79 13,oD 80 .neq 79 0,oM 81 80,gK 81 false 82 4 12,gM 81 false 83 6,og 81 false 84 (.call false (cf
 289) [(.s 82),(.s 83)]),oV 85 81 84]) (.cond (.s 85) (.seq (rF [oB 4 false]) .ret) .skip)))) (rF [oM 69 11,oD 70 .add 69 1,oM 11 70]))))))
 (.seq (rF [oM 86 5,oM 4 86]) .ret))))))))))⟩
def zw5:F:=⟨78,false,[.s 6],(.seq (rF [oQ 3 4 0,oB 6 false]) (.seq (rF [o 15 (.call false (cf 401) []),oM 7 15]) (.seq (.seq (rF [oK
 16 4 3,o 17 (.call false (cf 402) [(.s 16)]),oT 18 17,oM 19 18,gM 19 false 20 1,gN 19 false 21 20,gD 19 false 22 .gtr 21 6,oV 23 19 22])
 (.cond (.s 23) (.seq (rF [oM 24 7,oM 6 24]) .ret) .skip)) (.seq (rF [oM 25 2,o 26 (.conv .i64 (.s 25)),oD 27 .rem 26 3,oM 8 27]) (.seq (rF
 [oK 28 4 3,oM 29 1,o 30 (.call false (cf 406) [(.s 28),(.s 29)]),oM 9 30]) (.seq (rF [oK 31 4 3,oM 32 9,o 33 (.call false (cf 407) [(.s
 31),(.s 32)]),oM 10 33]) (.seq (rF [oK 35 4 3,oM 36 8,o 37 (.call false (cf 403) [(.s 35),(.s 36)]),oM 34 37,oX 38 34 0,oX 39 34 1,oM
 11 38,oM 12 39]) (.seq (rF [oK 41 4 3,oM 42 9,o 43 (.call false (cf 408) [(.s 41),(.s 42)]),oM 40 43,oX 44 40 0,oX 45 40 1,o 13 (.allocL
 [zn,zn,zn,zn]),oP 4 13 44,oM 14 45]) (.seq (.seq (rF [oM 46 14,oD 47 .neq 46 0,oM 48 47,gK 48 false 49 4 13,gM 48 false 50 8,og 48
 false 51 (.call false (cf 289) [(.s 49),(.s 50)]),gT 48 false 52 51,oV 53 48 52,oM 54 53,gM 54 false 55 10,gD 54 false 56 .gtr 55 4,oV
 57 54 56]) (.cond (.s 57) (.seq (rF [oM 58 7,oM 59 58,gM 59 true 60 12,gD 59 true 61 .eql 60 0,gM 59 true 62 61,gM 62 false 63 12,gD 62
 false 64 .eql 63 310,og 59 true 65 (.pick (.s 62) (cb true) (.s 64)),oW 66 59 65,oM 6 66]) .ret) .skip)) (.seq (rF [oM 67 7,oM 68 67,gM
 68 true 69 12,gD 68 true 70 .eql 69 0,oW 71 68 70,oM 72 71,gM 72 true 73 11,gN 72 true 74 73,gM 72 true 75 10,gC 72 true 76 .leq 74 75,oW 77 72 76,oM 6 77]) .ret))))))))))⟩
def zrt:F:=⟨61,false,[.s 2],(.seq (rF [oQ 1 4 0,oB 2 false]) (.seq (rF [o 10 (.call false (cf 401) []),oM 3 10]) (.seq (.seq (rF [oK
 11 4 1,o 12 (.call false (cf 402) [(.s 11)]),oT 13 12]) (.cond (.s 13) (.seq (rF [oM 14 3,oM 2 14]) .ret) .skip)) (.seq (rF [oK 16 4 1,o
 17 (.call false (cf 403) [(.s 16),(ci 0)]),oM 15 17,oX 18 15 0,oX 19 15 1,oM 4 18,oM 5 19]) (.seq (rF [oK 21 4 1,o 22 (.call false (cf
 403) [(.s 21),(ci 1)]),oM 20 22,oX 23 20 0,oX 24 20 1,oM 6 23,oM 7 24]) (.seq (rF [oK 26 4 1,o 27 (.call false (cf 403) [(.s 26),(ci
 2)]),oM 25 27,oX 28 25 0,oX 29 25 1,oM 8 28,oM 9 29]) (.seq (.seq (rF [oM 30 5,oD 31 .neq 30 0,oM 32 31,gM 32 false 33 4,gN 32 false
 34 33,gD 32 false 35 .neq 34 0,oV 36 32 35,oM 37 36,gM 37 false 38 9,gD 37 false 39 .eql 38 0,gM 37 false 40 39,gM 40 true 41 7,gD 40
 true 42 .neq 41 0,gM 40 true 43 42,gM 43 false 44 6,gN 43 false 45 44,gM 43 false 46 8,gN 43 false 47 46,gC 43 false 48 .gtr 45 47,og
 40 true 49 (.pick (.s 43) (cb true) (.s 48)),og 37 false 50 (.pick (.s 40) (.s 49) (cb false)),oV 51 37 50]) (.cond (.s 51) (.seq (rF [oB 2
 false]) .ret) .skip)) (.seq (rF [oM 52 3,oM 53 52,gM 53 true 54 7,gD 53 true 55 .eql 54 0,gM 53 true 56 55,gM 56 false 57 7,gD 56 false
 58 .eql 57 310,og 53 true 59 (.pick (.s 56) (cb true) (.s 58)),oW 60 53 59,oM 2 60]) .ret))))))))⟩
def zsZ:F:=⟨125,false,[.s 0],(.seq (rF [oB 0 false]) (.seq (rF [o 9 (.call false (cf 412) []),o 1 (.allocL [zn,zn,zn,zn]),oP 4 1
 9]) (.seq (rF [oK 11 4 1,o 12 (.call false (cf 403) [(.s 11),(ci 1)]),oM 10 12,oX 13 10 0,oX 14 10 1,oM 2 13,oM 3 14]) (.seq (rF [oK 16
 4 1,o 17 (.call false (cf 403) [(.s 16),(ci 0)]),oM 15 17,oX 18 15 0,oX 19 15 1,oM 4 18,oM 5 19]) (.seq (rF [oK 21 4 1,o 22 (.build [zi,
 zi] [(0,1,(ci 0)),(1,1,(ci 1))]),o 23 (.bslice 2 1 [zi,zi] [(0,(.s 22))]),o 24 (.call false (cf 404) [(.s 21),(.s 23)]),oM 20 24,
 oX 25 20 0,oX 26 20 1,o 6 (.allocL [zn,zn,zn,zn]),oP 4 6 25,oM 7 26]) (.seq (.seq (rF [oM 27 3,oD 28 .neq 27 0,oM 29 28,gM 29 false
 30 5,gD 29 false 31 .neq 30 0,oV 32 29 31,oM 33 32,gM 33 false 34 7,gD 33 false 35 .neq 34 0,oV 36 33 35,oM 37 36,gM 37 false 38 2,og
 37 false 39 (.build [zi,zi] [(0,1,(ci 0)),(1,1,(ci 1))]),og 37 false 40 (.build [zi,zi] [(0,1,(ci 1)),(1,1,(ci 1))]),og 37 false
 41 (.bslice 2 2 [zi,zi] [(0,(.s 39)),(1,(.s 40))]),og 37 false 42 (.call false (cf 413) [(.s 38),(.s 41)]),gT 37 false 43 42,oV 44 37
 43,oM 45 44,gM 45 false 46 4,gN 45 false 47 46,gD 45 false 48 .neq 47 0,oV 49 45 48,oM 50 49,gF 50 false 51 3 6,gL 50 false 52 51,gN
 50 false 53 52,gD 50 false 54 .neq 53 2,oV 55 50 54,oM 56 55,gF 56 false 57 3 6,gL 56 false 58 57,og 56 false 59 (.iaddrS 7 (.s 58) (ci
 0)),gG 56 false 60 4 59,gR 56 false 61 60,gN 56 false 62 61,gD 56 false 63 .neq 62 3,oV 64 56 63]) (.cond (.s 64) (.seq (rF [oB 0 false])
 .ret) .skip)) (.seq (rF [oF 65 3 6,oL 66 65,o 67 (.iaddrS 7 (.s 66) (ci 0)),oS 68 7 67,o 8 (.allocL [ze,zi,zn,zn,zn,zn,zb]),oP 7 8
 68]) (.seq (rF [oF 69 1 8,oL 70 69,oD 71 .eql 70 4,oM 72 71,gF 72 true 73 4 8,gL 72 true 74 73,og 72 true 75 (.iaddrS 11 (.s 74) (ci 0)),
 gG 72 true 76 2 75,gR 72 true 77 76,gD 72 true 78 .eql 77 1,oW 79 72 78,oM 80 79,gF 80 true 81 4 8,gL 80 true 82 81,og 80 true 83 (.iaddrS
 11 (.s 82) (ci 1)),gG 80 true 84 1 83,gR 80 true 85 84,gD 80 true 86 .eql 85 2,oW 87 80 86,oM 88 87,gF 88 true 89 4 8,gL 88 true 90 89,
 og 88 true 91 (.iaddrS 11 (.s 90) (ci 1)),gG 88 true 92 2 91,gR 88 true 93 92,gD 88 true 94 .eql 93 3,oW 95 88 94,oM 96 95,gF 96 true 97
 4 8,gL 96 true 98 97,og 96 true 99 (.iaddrS 11 (.s 98) (ci 2)),gG 96 true 100 0 99,gR 96 true 101 100,gD 96 true 102 .eql 101 5,oW 103
 96 102,oM 104 103,gF 104 true 105 4 8,gL 104 true 106 105,og 104 true 107 (.iaddrS 11 (.s 106) (ci 2)),gG 104 true 108 1 107,gR 104 true
 109 108,gD 104 true 110 .eql 109 1,oW 111 104 110,oM 112 111,gF 112 true 113 4 8,gL 112 true 114 113,og 112 true 115 (.iaddrS 11 (.s 114)
 (ci 2)),gG 112 true 116 2 115,gR 112 true 117 116,gD 112 true 118 .eql 117 2,oW 119 112 118,oM 120 119,gK 120 true 121 4 6,og 120 true
 122 (.call false (cf 289) [(.s 121),(ci 1)]),gT 120 true 123 122,oW 124 120 123,oM 0 124]) .ret))))))))⟩
def zrs:F:=⟨11,false,[.s 2],(.seq (rF [oQ 1 4 0,oB 2 false]) (.seq (rF [oK 3 4 1,o 4 (.call false (cf 409) [(.s 3)]),oM 5 4,gK 5
 true 6 4 1,og 5 true 7 (.call false (cf 414) [(.s 6)]),gN 5 true 8 7,gD 5 true 9 .leq 8 8,oW 10 5 9,oM 2 10]) .ret))⟩
def zc8:C:=(.round (rF [oM 10 36]) (.block 3 (.seq (rF [oS 38 4 2,oM 39 10,o 40 (.call false (cf 418) [(.s 38),(.s 39)]),oM 37 40,
 oX 41 37 0,oX 42 37 1,o 11 (.allocL [zn,zn,zn,zn]),oP 4 11 41,oM 12 42]) (.seq (rF [oM 43 12,oD 44 .eql 43 0,oM 45 44,gK 45 true 46
 4 11,gR 45 true 47 3,og 45 true 48 (.call false (cf 289) [(.s 46),(.s 47)]),oW 49 45 48]) (.cond (.s 49) (.seq (rF [oM 50 10,o 51 (.call
 false (cf 419) [(.s 50)]),oO 1 7 51,on (.store 1 (.s 8) (ci 0))]) (.exit 0)) .skip)))))
def zrr:F:=⟨55,false,[.s 4,.s 5],(.seq (rF [o 2 (.boxH 4 (.s 0)),o 3 (.boxH 1 (.s 1)),o 4 (.mv (.c zn)),oI 5 0]) (.seq .skip (.seq
 (.seq (rF [oS 13 4 2,o 14 (.call false (cf 415) [(.s 13)]),oT 15 14,oM 16 15,gR 16 false 17 3,gD 16 false 18 .neq 17 0,gM 16 false 19 18,
 gR 19 true 20 3,gD 19 true 21 .neq 20 1,og 16 false 22 (.pick (.s 19) (.s 21) (cb false)),gM 16 false 23 22,gR 23 true 24 3,gD 23 true 25
 .neq 24 2,og 16 false 26 (.pick (.s 23) (.s 25) (cb false)),oV 27 16 26]) (.cond (.s 27) (.seq (rF [o 4 (.mv (.c zn)),oI 5 1]) .ret) .skip))
 (.seq (rF [oS 28 4 2,o 29 (.call false (cf 416) [(.s 28)]),oM 6 29]) (.seq (rF [o 7 (.allocH [zn])]) (.seq (rF [o 8 (.allocH [zi]),on (.store
 1 (.s 8) (ci 310))]) (.seq .skip (.seq (.seq (rF [oI 30 0]) (.block 0 (.loop (.seq (rF [oD 31 .lss 30 5]) (.seq (.cond (.s 31) .skip (.exit 0))
 (.seq (.block 1 (.seq (rF [oM 32 30,oM 9 32]) (.seq (rF [oM 33 6,oM 34 9,o 35 (.call false (cf 417) [(.s 33),(.s 34)])]) (.block 2 (.rangeF
 (.s 35) [36] zc8))))) (rF [oD 52 .add 30 1,oM 30 52]))))))) (.seq (rT [oR 53 7,oR 54 8,oM 4 53,oM 5 54]) .ret)))))))))⟩
def zrq:F:=⟨54,false,[.l 4 true 4,.s 5],(.seq (rF [oQ 2 4 0,o 4 (.allocL [zn,zn,zn,zn]),oI 5 0]) (.seq (.seq (rF [oK 8 4 2,o 9
 (.call false (cf 415) [(.s 8)]),oT 10 9]) (.cond (.s 10) (.seq (rF [o 11 (.build [zn,zn,zn,zn] []),oP 4 4 11,oI 5 1]) .ret) .skip)) (.seq
 (.seq (rF [oM 12 1,oN 13 12,oI 14 0]) (.block 0 (.loop (.seq (rF [oC 15 .lss 14 13]) (.seq (.cond (.s 15) .skip (.exit 0)) (.seq (.block 1
 (.seq (rF [oA 16 2 12 14,oS 17 2 16,o 7 (.allocL [zi,zi]),oP 2 7 17]) (.seq (rT [oF 18 0 7,oL 19 18,oD 20 .lss 19 0,oM 21 20,gF 21 false
 22 0 7,gL 21 false 23 22,gF 21 false 24 3 2,gL 21 false 25 24,gN 21 false 26 25,gC 21 false 27 .geq 23 26,oV 28 21 27,oM 29 28,gF 29
 false 30 1 7,gL 29 false 31 30,gD 29 false 32 .lss 31 0,oV 33 29 32,oM 34 33,gF 34 false 35 1 7,gL 34 false 36 35,gF 34 false 37 3 2,
 gL 34 false 38 37,gF 34 false 39 0 7,gL 34 false 40 39,gI 34 false 41 7 38 40,gG 34 false 42 4 41,gR 34 false 43 42,gN 34 false 44 43,
 gC 34 false 45 .geq 36 44,oV 46 34 45]) (.cond (.s 46) (.seq (rF [o 47 (.build [zn,zn,zn,zn] []),oP 4 4 47,oI 5 1]) .ret) .skip)))) (rF
 [oD 48 .add 14 1,oM 14 48]))))))) (.seq (rF [oK 49 4 2,oM 50 1,o 51 (.call false (cf 418) [(.s 49),(.s 50)]),oX 52 51 0,oX 53 51 1,oP 4 4 52,oM 5 53]) .ret))))⟩
def zrp:F:=⟨24,false,[.s 4],(.seq (rF [o 4 (.mv (.c zn))]) (.seq (rF [o 5 (.mv (.c zn))]) (.seq (.seq (rF [oI 6 0]) (.block 0 (.loop
 (.seq (.seq (rF [oM 7 6,oM 8 0,oN 9 8,oC 10 .lss 7 9]) (.cond (.s 10) .skip (.exit 0))) (.seq (.block 1 (.seq (rF [oM 13 6,oM 14 1,oC 15
 .neq 13 14]) (.cond (.s 15) (rF [oM 16 5,oM 17 0,oM 18 6,oA 19 2 17 18,oS 20 2 19,o 21 (.bslice 2 1 [zi,zi] [(0,(.s 20))]),o 22 (.append
 2 16 (.s 16) (.s 21)),oM 5 22]) .skip))) (rF [oM 11 6,oD 12 .add 11 1,oM 6 12])))))) (.seq (rF [oM 23 5,oM 4 23]) .ret))))⟩
def zw4:F:=⟨60,false,[.s 4],(.seq (rF [oQ 2 4 0,o 4 (.mv (.c zn))]) (.seq (rF [o 5 (.mv (.c zn))]) (.seq (.seq (rF [oI 6 0]) (.block
 0 (.loop (.seq (.seq (rF [oM 10 6,oF 11 3 2,oL 12 11,oN 13 12,oC 14 .lss 10 13]) (.cond (.s 14) .skip (.exit 0))) (.seq (.block 1 (.seq (rF
 [oI 7 0]) (.block 2 (.loop (.seq (.seq (rF [oM 17 7,oF 18 3 2,oL 19 18,oM 20 6,oA 21 7 19 20,oG 22 4 21,oR 23 22,oN 24 23,oC 25 .lss
 17 24]) (.cond (.s 25) .skip (.exit 2))) (.seq (.block 3 (rF [oM 28 5,oM 29 6,oM 30 7,o 31 (.build [zi,zi] [(0,1,(.s 29)),(1,1,(.s 30))]),
 o 32 (.bslice 2 1 [zi,zi] [(0,(.s 31))]),o 33 (.append 2 16 (.s 28) (.s 32)),oM 5 33])) (rF [oM 26 7,oD 27 .add 26 1,oM 7 27]))))))) (rF
 [oM 15 6,oD 16 .add 15 1,oM 6 16])))))) (.seq (rF [o 8 (.mv (.c zn))]) (.seq (.seq (rF [oI 9 0]) (.block 4 (.loop (.seq (.seq (rF [oM 34 9,
 oM 35 1,oN 36 35,oC 37 .lss 34 36,oM 38 37,gM 38 true 39 5,gN 38 true 40 39,gD 38 true 41 .gtr 40 0,oW 42 38 41]) (.cond (.s 42) .skip
 (.exit 4))) (.seq (.block 5 (rF [oM 45 8,oM 46 5,oM 47 1,oM 48 9,oA 49 1 47 48,oR 50 49,o 51 (.conv .i64 (.s 50)),oM 52 5,oN 53 52,oC
 54 .rem 51 53,oA 55 2 46 54,oS 56 2 55,o 57 (.bslice 2 1 [zi,zi] [(0,(.s 56))]),o 58 (.append 2 16 (.s 45) (.s 57)),oM 8 58])) (rF [oM
 43 9,oD 44 .add 43 1,oM 9 44])))))) (.seq (rF [oM 59 8,oM 4 59]) .ret))))))⟩
def zw3:F:=⟨33,false,[.s 4],(.seq (rF [oQ 2 4 0,oI 4 0]) (.seq (rF [oI 5 0]) (.seq (.seq (rF [oI 6 0]) (.block 0 (.loop (.seq (.seq
 (rF [oM 9 6,oF 10 3 2,oL 11 10,oN 12 11,oC 13 .lss 9 12]) (.cond (.s 13) .skip (.exit 0))) (.seq (.block 1 (.seq (rF [oK 16 4 2,oM 17 1,
 oM 18 6,o 19 (.call false (cf 420) [(.s 16),(.s 17),(.s 18)]),oM 7 19]) (.seq (rF [oI 8 0]) (.block 2 (.loop (.seq (.seq (rF [oM 20 8,oM
 21 7,oN 22 21,oC 23 .lss 20 22]) (.cond (.s 23) .skip (.exit 2))) (.seq (.block 3 (.seq (rF [oM 26 7,oM 27 8,oA 28 1 26 27,oR 29 28]) (.cond
 (.s 29) (rF [oM 30 5,oD 31 .add 30 1,oM 5 31]) .skip))) (rF [oM 24 8,oD 25 .add 24 1,oM 8 25])))))))) (rF [oM 14 6,oD 15 .add 14 1,oM 6
 15])))))) (.seq (rF [oM 32 5,oM 4 32]) .ret))))⟩
def zw2:F:=⟨69,false,[.l 4 true 4,.s 5],(.seq (rF [oQ 2 4 0,o 4 (.allocL [zn,zn,zn,zn]),oI 5 0]) (.seq (.seq (rF [oK 10 4 2,o
 11 (.call false (cf 39) [(.s 10)]),oT 12 11]) (.cond (.s 12) (.seq (rF [o 13 (.build [zn,zn,zn,zn] []),oP 4 4 13,oI 5 1]) .ret) .skip))
 (.seq (.seq (rF [oI 6 0]) (.block 0 (.loop (.seq (.seq (rF [oM 14 6,oM 15 1,oN 16 15,oC 17 .lss 14 16]) (.cond (.s 17) .skip (.exit 0))) (.seq
 (.block 1 (.seq (rT [oK 20 4 2,oM 21 1,oM 22 6,oA 23 2 21 22,oS 24 2 23,o 25 (.call false (cf 421) [(.s 20),(.s 24)]),oT 26 25]) (.cond
 (.s 26) (.seq (rF [o 27 (.build [zn,zn,zn,zn] []),oP 4 4 27,oI 5 1]) .ret) .skip))) (rF [oM 18 6,oD 19 .add 18 1,oM 6 19])))))) (.seq
 (rF [oF 28 0 2,oL 29 28,oF 30 1 2,oL 31 30,oF 32 2 2,oL 33 32,o 34 (.build [zn,zn,zn,zn] [(0,1,(.s 29)),(1,1,(.s 31)),(2,1,(.s
 33))]),o 7 (.allocL [zn,zn,zn,zn]),oP 4 7 34]) (.seq (.seq (rF [oI 8 0]) (.block 2 (.loop (.seq (.seq (rF [oM 35 8,oF 36 3 2,oL 37 36,
 oN 38 37,oC 39 .lss 35 38]) (.cond (.s 39) .skip (.exit 2))) (.seq (.block 3 (.seq (rT [oF 42 3 2,oL 43 42,oM 44 8,oA 45 7 43 44,oS 46 7
 45,oK 47 4 2,oM 48 1,oM 49 8,o 50 (.call false (cf 420) [(.s 47),(.s 48),(.s 49)]),o 51 (.call false (cf 422) [(.s 46),(.s 50)]),o 9
 (.allocL [ze,zi,zn,zn,zn,zn,zb]),oP 7 9 51]) (.seq (.seq (rF [oF 52 1 9,oL 53 52,oD 54 .gtr 53 48,oM 55 54,gF 55 false 56 4 9,gL
 55 false 57 56,gN 55 false 58 57,gD 55 false 59 .gtr 58 64,oV 60 55 59]) (.cond (.s 60) (.seq (rF [o 61 (.build [zn,zn,zn,zn] []),oP 4
 4 61,oI 5 2]) .ret) .skip)) (rF [oF 62 3 7,oL 63 62,oK 64 7 9,o 65 (.bslice 7 1 [ze,zi,zn,zn,zn,zn,zb] [(0,(.s 64))]),o 66 (.append
 7 128 (.s 63) (.s 65)),oF 67 3 7,oP 1 67 66])))) (rF [oM 40 8,oD 41 .add 40 1,oM 8 41])))))) (.seq (rF [oK 68 4 7,oP 4 4 68,oI 5 0]) .ret))))))⟩
def zro:F:=⟨9,false,[.s 2],(.seq (rF [oQ 1 4 0,oB 2 false]) (.seq (rF [oK 3 4 1,o 4 (.call false (cf 9) [(.s 3)]),oM 5 4,gK 5 true
 6 4 1,og 5 true 7 (.call false (cf 39) [(.s 6)]),oW 8 5 7,oM 2 8]) .ret))⟩
def zsY:F:=⟨58,false,[.l 0 true 4],(.seq (rF [o 0 (.allocL [zn,zn,zn,zn])]) (.seq (rF [o 7 (.call false (cf 61) [(ci 1),(ci 1)]),
 o 1 (.allocL [zi,zi,zi,zn]),oP 4 1 7]) (.seq (rF [oK 8 4 1,o 9 (.bslice 1 2 [zi] [(0,(ci 0)),(1,(ci 1))]),o 10 (.build [ze,ze,zi,
 zi,zi,zn,zi,zi,zi,zn,zn] [(0,1,(.c (.t (.str (bs [77]))))),(1,1,(.c (.t (.str (bs [111]))))),(6,4,(.s 8)),(10,1,(.s 9))]),
 o 11 (.bslice 11 1 [ze,ze,zi,zi,zi,zn,zi,zi,zi,zn,zn] [(0,(.s 10))]),o 12 (.build [zn,zn,zn,zn] [(1,1,(.s 11))]),o 2 (.allocL
 [zn,zn,zn,zn]),oP 4 2 12]) (.seq (rF [o 13 (.build [ze,zi,zi,zi,zb,zi] [(0,1,(.c (.t (.str (bs [77,46,120]))))),(1,1,(ci 1)),
 (3,1,(ci (-1)))]),o 14 (.build [ze,zi,zi,zi,zb,zi] [(0,1,(.c (.t (.str (bs [77,46,121]))))),(1,1,(ci 1)),(3,1,(ci (-1)))]),
 o 15 (.build [ze,zi,zi,zi,zb,zi] [(0,1,(.c (.t (.str (bs [97,46,114]))))),(1,1,(ci 1)),(3,1,(ci 0))]),o 16 (.build [ze,zi,zi,
 zi,zb,zi] [(0,1,(.c (.t (.str (bs [98,46,114]))))),(1,1,(ci 1)),(3,1,(ci 1))]),o 17 (.bslice 6 4 [ze,zi,zi,zi,zb,zi] [(0,(.s
 13)),(1,(.s 14)),(2,(.s 15)),(3,(.s 16))]),oF 18 0 2,oP 1 18 17]) (.seq (rF [o 19 (.bslice 1 2 [ze] [(0,(.c (.t (.str (bs [97]))))),
 (1,(.c (.t (.str (bs [98])))))]),oM 3 19]) (.seq (.seq (rF [oI 4 0]) (.block 0 (.loop (.seq (.seq (rF [oM 20 4,oD 21 .lss 20 2]) (.cond (.s
 21) .skip (.exit 0))) (.seq (.block 1 (.seq (rF [oK 24 4 1,oM 25 4,oK 26 4 1,o 27 (.build [zi,zi,zi,zi,zn] [(0,1,(.s 25)),(1,4,(.s
 26))]),o 28 (.bslice 5 1 [zi,zi,zi,zi,zn] [(0,(.s 27))]),o 29 (.build [zi,zi,zi,zi,zi,zi,zn,zn,zb,zi,zi] [(0,1,(ci 3)),(1,
 1,(ci 0)),(2,1,(ci 1)),(3,4,(.s 24)),(7,1,(.s 28))]),o 5 (.allocL [zi,zi,zi,zi,zi,zi,zn,zn,zb,zi,zi]),oP 11 5 29]) (.seq
 (rT [oK 30 4 1,oM 31 4,o 32 (.bin .add (ci 2) (.s 31)),oM 33 4,o 34 (.bin .sub (ci 1) (.s 33)),o 35 (.call false (cf 62) [(.s 34),(ci 1)]),
 o 36 (.build [zi,zi,zi,zi,zn] [(0,1,(.s 32)),(1,4,(.s 35))]),o 37 (.bslice 5 1 [zi,zi,zi,zi,zn] [(0,(.s 36))]),o 38 (.build [zi,
 zi,zi,zi,zi,zi,zn,zn,zb,zi,zi] [(0,1,(ci 2)),(1,1,(ci 1)),(2,1,(ci 2)),(3,4,(.s 30)),(7,1,(.s 37))]),o 6 (.allocL [zi,
 zi,zi,zi,zi,zi,zn,zn,zb,zi,zi]),oP 11 6 38]) (rT [oF 39 3 2,oL 40 39,oM 41 3,oM 42 4,oA 43 1 41 42,oR 44 43,oK 45 4 1,oK 46
 4 1,oK 47 4 1,o 48 (.bslice 4 3 [zi,zi,zi,zn] [(0,(.s 45)),(1,(.s 46)),(2,(.s 47))]),o 49 (.bslice 1 3 [zi] [(0,(ci 0)),(1,(ci
 0)),(2,(ci 0))]),oK 50 11 5,oK 51 11 6,o 52 (.bslice 11 2 [zi,zi,zi,zi,zi,zi,zn,zn,zb,zi,zi] [(0,(.s 50)),(1,(.s 51))]),o
 53 (.build [ze,zi,zn,zn,zn,zn,zb] [(0,1,(.s 44)),(1,1,(ci 3)),(2,1,(.s 48)),(3,1,(.s 49)),(4,1,(.s 52))]),o 54 (.bslice
 7 1 [ze,zi,zn,zn,zn,zn,zb] [(0,(.s 53))]),o 55 (.append 7 128 (.s 40) (.s 54)),oF 56 3 2,oP 1 56 55])))) (rF [oM 22 4,oD 23 .add 22
 1,oM 4 23])))))) (.seq (rF [oK 57 4 2,oP 4 0 57]) .ret)))))))⟩
def zsX:F:=⟨26,false,[.s 4],(.seq (rF [oB 4 false]) (.seq (.seq (rF [oM 6 0,oN 7 6,oM 8 1,oN 9 8,oC 10 .neq 7 9]) (.cond (.s 10)
 (.seq (rF [oB 4 false]) .ret) .skip)) (.seq (.seq (rF [oI 5 0]) (.block 0 (.loop (.seq (.seq (rF [oM 11 5,oM 12 0,oN 13 12,oC 14 .lss 11 13])
 (.cond (.s 14) .skip (.exit 0))) (.seq (.block 1 (.seq (rT [oM 17 0,oM 18 5,oA 19 2 17 18,oS 20 2 19,oM 21 1,oM 22 5,oA 23 2 21 22,oS
 24 2 23,o 25 (.eqa true [0,0] (.s 20) (.s 24))]) (.cond (.s 25) (.seq (rF [oB 4 false]) .ret) .skip))) (rF [oM 15 5,oD 16 .add 15 1,oM 5
 16])))))) (.seq (rF [oB 4 true]) .ret))))⟩
def zrn:F:=⟨55,false,[.s 2],(.seq (rF [oQ 1 4 0,o 2 (.mv (.c zn))]) (.seq (rF [o 3 (.mv (.c zn))]) (.seq (.seq (rF [oI 4 0]) (.block
 0 (.loop (.seq (.seq (rF [oM 9 4,oF 10 3 1,oL 11 10,oN 12 11,oC 13 .lss 9 12]) (.cond (.s 13) .skip (.exit 0))) (.seq (.block 1 (.seq (rF
 [oF 16 3 1,oL 17 16,oM 18 4,oA 19 7 17 18,oG 20 4 19,oR 21 20,oM 5 21]) (.seq (rF [oI 6 0]) (.block 2 (.loop (.seq (.seq (rF [oM 22 6,
 oM 23 5,oN 24 23,oC 25 .lss 22 24]) (.cond (.s 25) .skip (.exit 2))) (.seq (.block 3 (.seq (rF [oB 7 true]) (.seq (.seq (rF [oI 8 0]) (.block
 4 (.loop (.seq (.seq (rF [oM 28 8,oM 29 6,oC 30 .lss 28 29]) (.cond (.s 30) .skip (.exit 4))) (.seq (.block 5 (rT [oM 33 7,oM 34 33,gM 34
 true 35 5,gM 34 true 36 8,gI 34 true 37 11 35 36,gG 34 true 38 1 37,gR 34 true 39 38,gM 34 true 40 5,gM 34 true 41 6,gI 34 true 42 11
 40 41,gG 34 true 43 1 42,gR 34 true 44 43,gC 34 true 45 .neq 39 44,oW 46 34 45,oM 7 46])) (rF [oM 31 8,oD 32 .add 31 1,oM 8 32]))))))
 (.seq (rF [oM 47 7]) (.cond (.s 47) (rF [oM 48 3,oM 49 4,oM 50 6,o 51 (.build [zi,zi] [(0,1,(.s 49)),(1,1,(.s 50))]),o 52 (.bslice
 2 1 [zi,zi] [(0,(.s 51))]),o 53 (.append 2 16 (.s 48) (.s 52)),oM 3 53]) .skip))))) (rF [oM 26 6,oD 27 .add 26 1,oM 6 27])))))))) (rF [oM
 14 4,oD 15 .add 14 1,oM 4 15])))))) (.seq (rF [oM 54 3,oM 2 54]) .ret))))⟩
def zrm:F:=⟨14,false,[.s 2],(.seq (rF [oQ 1 4 0,oB 2 false]) (.seq (rF [oK 7 4 1,o 8 (.call false (cf 64) [(.s 7)]),oM 6 8,oX 9 6
 0,oX 10 6 1,oX 11 6 2,oM 3 9,oM 4 10,oM 5 11]) (.seq (rF [oM 12 3,oD 13 .eql 12 0,oM 2 13]) .ret)))⟩
def zrl:F:=⟨39,false,[.s 2],(.seq (rF [oQ 1 4 0,o 2 (.mv (.c zn))]) (.seq (rF [o 3 (.mv (.c zn))]) (.seq (.seq (rF [oF 8 3 1,oL 9 8,
 oN 10 9,oI 11 0]) (.block 0 (.loop (.seq (rF [oC 12 .lss 11 10]) (.seq (.cond (.s 12) .skip (.exit 0)) (.seq (.block 1 (.seq (rF [oM 13 11,
 oA 14 7 9 11,oS 15 7 14,o 5 (.allocL [ze,zi,zn,zn,zn,zn,zb]),oM 4 13,oP 7 5 15]) (.seq (rF [oF 16 4 5,oL 17 16,oN 18 17,oI 19 0])
 (.block 2 (.loop (.seq (rF [oC 20 .lss 19 18]) (.seq (.cond (.s 20) .skip (.exit 2)) (.seq (.block 3 (.seq (rF [oM 21 19,oA 22 11 17 19,oS
 23 11 22,o 7 (.allocL [zi,zi,zi,zi,zi,zi,zn,zn,zb,zi,zi]),oM 6 21,oP 11 7 23]) (.seq (rF [oK 24 7 5,oF 25 1 7,oL 26 25,o 27 (.call
 false (cf 424) [(.s 24),(.s 26)]),oM 28 6,oC 29 .eql 27 28]) (.cond (.s 29) (rF [oM 30 3,oM 31 4,oM 32 6,o 33 (.build [zi,zi] [(0,1,
 (.s 31)),(1,1,(.s 32))]),o 34 (.bslice 2 1 [zi,zi] [(0,(.s 33))]),o 35 (.append 2 16 (.s 30) (.s 34)),oM 3 35]) .skip)))) (rF [oD 36
 .add 19 1,oM 19 36]))))))))) (rF [oD 37 .add 11 1,oM 11 37]))))))) (.seq (rF [oM 38 3,oM 2 38]) .ret))))⟩
def zrk:F:=⟨6,false,[.s 4],(.seq (rF [o 2 (.boxH 1 (.s 0)),o 3 (.boxH 1 (.s 1)),o 4 (.mv (.c (.t .nilf)))]) (.seq (rF [o 5 (.mkfn 425
 [] [(.s 3),(.s 2)]),oM 4 5]) .ret))⟩
def zrj:F:=⟨165,false,[.l 4 true 4,.s 5],(.seq (rF [oQ 2 4 0,o 4 (.allocL [zn,zn,zn,zn]),oI 5 0]) (.seq (rF [oF 18 3 2,oL 19 18,
 oN 20 19,o 21 (.mkslice 1 24 [zn] (.s 20) (.s 20)),oM 6 21]) (.seq (.seq (rF [oM 22 1,oN 23 22,oI 24 0]) (.block 0 (.loop (.seq (rF [oC 25
 .lss 24 23]) (.seq (.cond (.s 25) .skip (.exit 0)) (.seq (.block 1 (.seq (rF [oA 26 2 22 24,oS 27 2 26,o 8 (.allocL [zi,zi]),oP 2 8 27])
 (rT [oM 28 6,oF 29 0 8,oL 30 29,oM 31 6,oF 32 0 8,oL 33 32,oA 34 1 31 33,oR 35 34,oF 36 3 2,oL 37 36,oF 38 0 8,oL 39 38,oA 40 7 37
 39,oG 41 4 40,oR 42 41,oF 43 1 8,oL 44 43,oA 45 11 42 44,oG 46 1 45,oR 47 46,o 48 (.bslice 1 1 [zi] [(0,(.s 47))]),o 49 (.append 1
 8 (.s 35) (.s 48)),oA 50 1 28 30,oO 1 50 49]))) (rF [oD 51 .add 24 1,oM 24 51]))))))) (.seq (.seq (rF [oF 52 3 2,oL 53 52,oN 54 53,oI 55
 0]) (.block 2 (.loop (.seq (rF [oC 56 .lss 55 54]) (.seq (.cond (.s 56) .skip (.exit 2)) (.seq (.block 3 (.seq (rF [oM 57 55,oA 58 7 53 55,
 oS 59 7 58,o 10 (.allocL [ze,zi,zn,zn,zn,zn,zb]),oM 9 57,oP 7 10 59]) (.seq (rF [oM 60 6,oM 61 9,oA 62 1 60 61,oR 63 62,o 64 (.call
 true (cf 74) [(.s 63)])]) (.seq (rF [oM 65 6,oM 66 9,oM 67 6,oM 68 9,oA 69 1 67 68,oR 70 69,o 71 (.call true (cf 75) [(.s 70)]),oA 72
 1 65 66,oO 1 72 71]) (.seq (rT [oF 73 1 10,oL 74 73,oM 75 6,oM 76 9,oA 77 1 75 76,oR 78 77,oN 79 78,oC 80 .add 74 79,oD 81 .gtr 80 48,
 oM 82 81,gF 82 false 83 4 10,gL 82 false 84 83,gN 82 false 85 84,gM 82 false 86 6,gM 82 false 87 9,gI 82 false 88 1 86 87,gR 82 false
 89 88,gN 82 false 90 89,gC 82 false 91 .add 85 90,gD 82 false 92 .gtr 91 64,oV 93 82 92]) (.cond (.s 93) (.seq (rF [o 94 (.build [zn,zn,
 zn,zn] []),oP 4 4 94,oI 5 2]) .ret) .skip)))))) (rF [oD 95 .add 55 1,oM 55 95]))))))) (.seq (rF [oF 96 0 2,oL 97 96,o 98 (.call false (cf
 428) [(.s 97)]),o 99 (.build [zn,zn,zn,zn] [(0,1,(.s 98))]),o 11 (.allocL [zn,zn,zn,zn]),oP 4 11 99]) (.seq (.seq (rF [oF 100 1 2,
 oL 101 100,oN 102 101,oI 103 0]) (.block 4 (.loop (.seq (rF [oC 104 .lss 103 102]) (.seq (.cond (.s 104) .skip (.exit 4)) (.seq (.block 5 (.seq
 (rF [oA 105 11 101 103,oS 106 11 105,o 13 (.allocL [ze,ze,zi,zi,zi,zn,zi,zi,zi,zn,zn]),oP 11 13 106]) (.seq (rT [oF 107 2 13,oK
 108 4 107,o 109 (.call false (cf 429) [(.s 108)]),oF 110 6 13,oK 111 4 110,o 112 (.call false (cf 429) [(.s 111)]),oF 113 10 13,oL 114
 113,o 115 (.fcall (cf 198) [(.s 114)]),oF 116 2 13,oP 4 116 109,oF 117 6 13,oP 4 117 112,oF 118 10 13,oP 1 118 115]) (rF [oF 119 1 11,
 oL 120 119,oK 121 11 13,o 122 (.bslice 11 1 [ze,ze,zi,zi,zi,zn,zi,zi,zi,zn,zn] [(0,(.s 121))]),o 123 (.append 11 152 (.s 120) (.s
 122)),oF 124 1 11,oP 1 124 123])))) (rF [oD 125 .add 103 1,oM 103 125]))))))) (.seq (.seq (rF [oF 126 2 2,oL 127 126,oN 128 127,oI 129
 0]) (.block 6 (.loop (.seq (rF [oC 130 .lss 129 128]) (.seq (.cond (.s 130) .skip (.exit 6)) (.seq (.block 7 (.seq (rF [oA 131 6 127 129,oS
 132 6 131,o 15 (.allocL [zi,zi,zi,zi,zn,zi]),oP 6 15 132]) (.seq (rF [oF 133 1 15,oK 134 4 133,o 135 (.call false (cf 429) [(.s 134)]),
 oF 136 1 15,oP 4 136 135]) (rF [oF 137 2 11,oL 138 137,oK 139 6 15,o 140 (.bslice 6 1 [zi,zi,zi,zi,zn,zi] [(0,(.s 139))]),o 141 (.append
 6 64 (.s 138) (.s 140)),oF 142 2 11,oP 1 142 141])))) (rF [oD 143 .add 129 1,oM 129 143]))))))) (.seq (.seq (rF [oF 144 3 2,oL 145 144,oN
 146 145,oI 147 0]) (.block 8 (.loop (.seq (rF [oC 148 .lss 147 146]) (.seq (.cond (.s 148) .skip (.exit 8)) (.seq (.block 9 (.seq (rF [oM 149
 147,oA 150 7 145 147,oS 151 7 150,o 17 (.allocL [ze,zi,zn,zn,zn,zn,zb]),oM 16 149,oP 7 17 151]) (rT [oF 152 3 11,oL 153 152,oK 154
 7 17,oM 155 6,oM 156 16,oA 157 1 155 156,oR 158 157,o 159 (.call false (cf 430) [(.s 154),(.s 158)]),o 160 (.bslice 7 1 [ze,zi,zn,zn,
 zn,zn,zb] [(0,(.s 159))]),o 161 (.append 7 128 (.s 153) (.s 160)),oF 162 3 11,oP 1 162 161]))) (rF [oD 163 .add 147 1,oM 147 163])))))))
 (.seq (rF [oK 164 4 11,oP 4 4 164,oI 5 0]) .ret)))))))))⟩
def zsW:F:=⟨1,false,[],.ext (.cloneT 2)⟩
def zw1:F:=⟨46,false,[.s 6],(.seq (rF [oQ 3 4 0,o 6 (.mv (.c zn))]) (.seq (rF [oF 9 3 3,oL 10 9,oM 11 2,oA 12 7 10 11,oG 13 1 12,
 oR 14 13,o 15 (.mkslice 1 1 [zb] (.s 14) (.s 14)),oM 7 15]) (.seq (.seq (rF [oI 8 0]) (.block 0 (.loop (.seq (.seq (rF [oM 16 8,oM 17 1,oN
 18 17,oC 19 .lss 16 18]) (.cond (.s 19) .skip (.exit 0))) (.seq (.block 1 (.seq (rF [oM 22 1,oM 23 8,oA 24 2 22 23,oG 25 0 24,oR 26 25,
 oM 27 2,oC 28 .eql 26 27]) (.cond (.s 28) (rT [oM 29 7,oF 30 3 3,oL 31 30,oM 32 2,oA 33 7 31 32,oG 34 4 33,oR 35 34,oM 36 1,oM 37 8,
 oA 38 2 36 37,oG 39 1 38,oR 40 39,oA 41 11 35 40,oG 42 1 41,oR 43 42,oA 44 1 29 43,on (.store 1 (.s 44) (cb true))]) .skip))) (rF [oM
 20 8,oD 21 .add 20 1,oM 8 21])))))) (.seq (rF [oM 45 7,oM 6 45]) .ret))))⟩
def zw0:F:=⟨34,false,[.s 4],(.seq (rF [oQ 2 4 0,oQ 3 2 1,oB 4 false]) (.seq (rT [oF 5 0 3,oL 6 5,oD 7 .geq 6 0,oM 8 7,gF 8 true
 9 0 3,gL 8 true 10 9,gF 8 true 11 3 2,gL 8 true 12 11,gN 8 true 13 12,gC 8 true 14 .lss 10 13,oW 15 8 14,oM 16 15,gF 16 true 17 1 3,
 gL 16 true 18 17,gD 16 true 19 .geq 18 0,oW 20 16 19,oM 21 20,gF 21 true 22 1 3,gL 21 true 23 22,gF 21 true 24 3 2,gL 21 true 25 24,gF
 21 true 26 0 3,gL 21 true 27 26,gI 21 true 28 7 25 27,gG 21 true 29 4 28,gR 21 true 30 29,gN 21 true 31 30,gC 21 true 32 .lss 23 31,oW 33 21 32,oM 4 33]) .ret))⟩
def zwZ:F:=⟨156,false,[.l 4 true 7],(.seq (rF [oQ 2 7 0,o 4 (.allocL [ze,zi,zn,zn,zn,zn,zb])]) (.seq (rF [oF 13 0 2,oL 14 13,
 oF 15 6 2,oL 16 15,o 17 (.build [ze,zi,zn,zn,zn,zn,zb] [(0,1,(.s 14)),(6,1,(.s 16))]),o 5 (.allocL [ze,zi,zn,zn,zn,zn,zb]),
 oP 7 5 17]) (.seq (.seq (rF [oI 6 0]) (.block 0 (.loop (.seq (.seq (rF [oM 18 6,oF 19 1 2,oL 20 19,oC 21 .lss 18 20]) (.cond (.s 21) .skip
 (.exit 0))) (.seq (.block 1 (.seq (rT [oF 24 2 5,oL 25 24,oF 26 2 2,oL 27 26,oM 28 6,oA 29 4 27 28,oS 30 4 29,o 31 (.bslice 4 1 [zi,zi,
 zi,zn] [(0,(.s 30))]),o 32 (.append 4 48 (.s 25) (.s 31)),oF 33 2 5,oP 1 33 32]) (.seq (rT [oF 34 3 5,oL 35 34,oF 36 3 2,oL 37 36,oM
 38 6,oA 39 1 37 38,oR 40 39,o 41 (.bslice 1 1 [zi] [(0,(.s 40))]),o 42 (.append 1 8 (.s 35) (.s 41)),oF 43 3 5,oP 1 43 42]) (.seq (rF
 [oM 44 1,oM 45 6,oA 46 1 44 45,oR 47 46]) (.cond (.s 47) (.seq (rT [oF 48 2 5,oL 49 48,oF 50 2 2,oL 51 50,oM 52 6,oA 53 4 51 52,oS 54
 4 53,o 55 (.bslice 4 1 [zi,zi,zi,zn] [(0,(.s 54))]),o 56 (.append 4 48 (.s 49) (.s 55)),oF 57 2 5,oP 1 57 56]) (rT [oF 58 3 5,oL 59
 58,oF 60 3 2,oL 61 60,oM 62 6,oA 63 1 61 62,oR 64 63,o 65 (.bslice 1 1 [zi] [(0,(.s 64))]),o 66 (.append 1 8 (.s 59) (.s 65)),oF 67
 3 5,oP 1 67 66])) .skip))))) (rF [oM 22 6,oD 23 .add 22 1,oM 6 23])))))) (.seq (rF [oF 68 2 5,oL 69 68,oN 70 69,oF 71 1 5,oP 1 71 70])
 (.seq (.seq (rF [oI 7 0]) (.block 2 (.loop (.seq (.seq (rF [oM 72 7,oF 73 4 2,oL 74 73,oN 75 74,oC 76 .lss 72 75]) (.cond (.s 76) .skip (.exit
 2))) (.seq (.block 3 (.seq (rF [oF 79 4 2,oL 80 79,oM 81 7,oA 82 11 80 81,oS 83 11 82,o 8 (.allocL [zi,zi,zi,zi,zi,zi,zn,zn,zb,
 zi,zi]),oP 11 8 83]) (.seq (rF [oF 84 1 8,oL 85 84,oM 9 85]) (.seq (rF [oM 86 1,oM 87 9,o 88 (.call false (cf 431) [(.s 86),(.s 87)]),
 oF 89 1 8,oP 1 89 88]) (.seq (.seq (rF [oM 90 1,oM 91 9,oA 92 1 90 91,oR 93 92]) (.cond (.s 93) (rF [oF 94 1 8,oL 95 94,oD 96 .add 95 1,
 oF 97 1 8,oP 1 97 96]) .skip)) (.seq (rF [oM 98 1,oF 99 2 8,oL 100 99,o 101 (.call false (cf 431) [(.s 98),(.s 100)]),oF 102 2 8,oP 1
 102 101]) (rF [oF 103 4 5,oL 104 103,oK 105 11 8,o 106 (.bslice 11 1 [zi,zi,zi,zi,zi,zi,zn,zn,zb,zi,zi] [(0,(.s 105))]),o 107
 (.append 11 120 (.s 104) (.s 106)),oF 108 4 5,oP 1 108 107]))))))) (rF [oM 77 7,oD 78 .add 77 1,oM 7 78])))))) (.seq (.seq (rF [oI 10 0])
 (.block 4 (.loop (.seq (.seq (rF [oM 109 10,oF 110 1 2,oL 111 110,oC 112 .lss 109 111]) (.cond (.s 112) .skip (.exit 4))) (.seq (.block 5
 (.seq (rF [oM 115 1,oM 116 10,oA 117 1 115 116,oR 118 117]) (.cond (.s 118) (.seq (rF [oM 119 1,oM 120 10,o 121 (.call false (cf 431) [(.s
 119),(.s 120)]),oM 11 121]) (rT [oF 122 4 5,oL 123 122,oM 124 11,oM 125 11,oD 126 .add 125 1,o 127 (.call false (cf 61) [(ci 1),(ci 1)]),
 oK 128 7 2,oM 129 10,o 130 (.call false (cf 432) [(.s 128),(.s 129)]),o 131 (.field false 10 1 (.s 130)),o 132 (.build [zi,zi,zi,zi,
 zi,zi,zn,zn,zb,zi,zi] [(0,1,(ci 5)),(1,1,(.s 124)),(2,1,(.s 126)),(3,4,(.s 127)),(10,1,(.s 131))]),o 133 (.bslice 11 1 [zi,
 zi,zi,zi,zi,zi,zn,zn,zb,zi,zi] [(0,(.s 132))]),o 134 (.append 11 120 (.s 123) (.s 133)),oF 135 4 5,oP 1 135 134])) .skip))) (rF
 [oM 113 10,oD 114 .add 113 1,oM 10 114])))))) (.seq (.seq (rF [oI 12 0]) (.block 6 (.loop (.seq (.seq (rF [oM 136 12,oF 137 5 2,oL 138 137,
 oN 139 138,oC 140 .lss 136 139]) (.cond (.s 140) .skip (.exit 6))) (.seq (.block 7 (rT [oF 143 5 5,oL 144 143,oF 145 5 2,oL 146 145,oM 147
 12,oA 148 6 146 147,oS 149 6 148,oM 150 1,o 151 (.call false (cf 433) [(.s 149),(.s 150)]),o 152 (.bslice 6 1 [zi,zn,zi,zi,zi,zn]
 [(0,(.s 151))]),o 153 (.append 6 80 (.s 144) (.s 152)),oF 154 5 5,oP 1 154 153])) (rF [oM 141 12,oD 142 .add 141 1,oM 12 142])))))) (.seq
 (rF [oK 155 7 5,oP 7 4 155]) .ret))))))))⟩
def zri:F:=⟨9,false,[.s 4],(.seq (rF [oQ 2 7 0,o 3 (.boxH 1 (.s 1)),oI 4 0]) (.seq (rF [oF 5 4 2,oL 6 5,o 7 (.mkfn 435 [] [(.s 3)]),
 o 8 (.call false (cf 434) [(.s 6),(.s 7)]),oM 4 8]) .ret))⟩
def zrh:F:=⟨8,true,[],(.seq (rF [o 3 (.boxH 1 (.s 0))]) (.seq (rF [o 4 (.allocH [(.t .nilf)])]) (.seq (rF [o 5 (.mkfn 426 [] [(.s 1),
 (.s 3),(.s 2),(.s 4)]),oO 1 4 5]) (rF [oR 6 4,o 7 (.call true (.s 6) [(.c zn),(ci 0)])]))))⟩
def zqe:F:=⟨37,true,[.s 8],(.seq (rF [oB 8 false]) (.seq (.seq (rF [oM 10 0,oN 11 10,oR 12 2,oC 13 .eql 11 12]) (.cond (.s 13) (.seq
 (rF [oR 14 3,oM 15 0,o 16 (.call true (.s 14) [(.s 15)]),oM 8 16]) .ret) .skip)) (.seq (.seq (rF [oM 17 1,oM 9 17]) (.block 0 (.loop (.seq
 (.seq (rF [oM 18 9,oR 19 4,oN 20 19,oC 21 .lss 18 20]) (.cond (.s 21) .skip (.exit 0))) (.seq (.block 1 (.seq (.regionD [(0,8)] [oR 24 5,
 oM 25 0,o 26 (.call false (cf 427) [(.s 25)]),oR 27 4,oM 28 9,oA 29 2 27 28,oS 30 2 29,o 31 (.bslice 2 1 [zi,zi] [(0,(.s 30))]),o 32
 (.append 2 16 (.s 26) (.s 31)),oM 33 9,oD 34 .add 33 1,o 35 (.call true (.s 24) [(.s 32),(.s 34)]),oT 36 35]) (.cond (.s 36) (.seq (rF [oB
 8 false]) .ret) .skip))) (rF [oM 22 9,oD 23 .add 22 1,oM 9 23])))))) (.seq (rF [oB 8 true]) .ret))))⟩
def zrg:F:=⟨9,false,[.s 2],(.seq (rF [o 2 (.mv (.c zn))]) (.seq (rF [oM 3 0,oM 4 0,oN 5 4,oM 6 0,oN 7 6,o 8 (.slice 2 (.s 3) none
 (some (.s 5)) (some (.s 7))),oM 2 8]) .ret))⟩
def zsV:F:=⟨1,false,[],.ext (.cloneT 6)⟩
def zrf:F:=⟨22,false,[.l 2 true 4],(.seq (rF [oQ 1 4 0,o 2 (.allocL [zi,zi,zi,zn])]) (.seq (rF [o 3 (.mv (.c zn))]) (.seq (.seq (rF
 [oF 6 3 1,oL 7 6,oN 8 7,oI 9 0]) (.block 0 (.loop (.seq (rF [oC 10 .lss 9 8]) (.seq (.cond (.s 10) .skip (.exit 0)) (.seq (.block 1 (.seq
 (rF [oA 11 4 7 9,oS 12 4 11,o 5 (.allocL [zi,zi,zi,zn]),oP 4 5 12]) (rF [oM 13 3,oK 14 4 5,o 15 (.call false (cf 429) [(.s 14)]),o 16
 (.bslice 4 1 [zi,zi,zi,zn] [(0,(.s 15))]),o 17 (.append 4 48 (.s 13) (.s 16)),oM 3 17]))) (rF [oD 18 .add 9 1,oM 9 18]))))))) (.seq (rF
 [oM 19 3,oF 20 3 1,oP 1 20 19]) (.seq (rF [oK 21 4 1,oP 4 2 21]) .ret)))))⟩
def zre:F:=⟨209,false,[.l 4 true 7],(.seq (rF [oQ 2 7 0,o 3 (.boxH 1 (.s 1)),o 4 (.allocL [ze,zi,zn,zn,zn,zn,zb])]) (.seq (rF
 [o 19 (.mkfn 436 [] [(.s 3)]),oM 5 19]) (.seq (rF [o 20 (.mkfn 438 [] [(.s 3)]),oM 6 20]) (.seq (rF [oF 21 0 2,oL 22 21,oF 23 1 2,oL 24
 23,oR 25 3,oN 26 25,oC 27 .add 24 26,oF 28 6 2,oL 29 28,o 30 (.build [ze,zi,zn,zn,zn,zn,zb] [(0,1,(.s 22)),(1,1,(.s 27)),(6,
 1,(.s 29))]),o 7 (.allocL [ze,zi,zn,zn,zn,zn,zb]),oP 7 7 30]) (.seq (.seq (rF [oF 31 1 2,oL 32 31,oI 33 0]) (.block 0 (.loop (.seq
 (rF [oC 34 .lss 33 32]) (.seq (.cond (.s 34) .skip (.exit 0)) (.seq (.block 1 (.seq (rF [oM 35 33,oM 8 35]) (.seq (rT [oF 36 2 7,oL 37 36,
 oF 38 2 2,oL 39 38,oM 40 8,oA 41 4 39 40,oS 42 4 41,o 43 (.call false (cf 429) [(.s 42)]),o 44 (.bslice 4 1 [zi,zi,zi,zn] [(0,(.s 43))]),
 o 45 (.append 4 48 (.s 37) (.s 44)),oF 46 2 7,oP 1 46 45]) (.seq (rT [oF 47 3 7,oL 48 47,oF 49 3 2,oL 50 49,oM 51 8,oA 52 1 50 51,oR
 53 52,o 54 (.bslice 1 1 [zi] [(0,(.s 53))]),o 55 (.append 1 8 (.s 48) (.s 54)),oF 56 3 7,oP 1 56 55]) (.seq (rF [oM 57 6,oM 58 8,o 59
 (.call false (.s 57) [(.s 58)])]) (.cond (.s 59) (.seq (rT [oF 60 2 7,oL 61 60,oF 62 2 2,oL 63 62,oM 64 8,oA 65 4 63 64,oS 66 4 65,o 67
 (.call false (cf 429) [(.s 66)]),o 68 (.bslice 4 1 [zi,zi,zi,zn] [(0,(.s 67))]),o 69 (.append 4 48 (.s 61) (.s 68)),oF 70 2 7,oP 1 70
 69]) (rT [oF 71 3 7,oL 72 71,oF 73 3 2,oL 74 73,oM 75 8,oA 76 1 74 75,oR 77 76,o 78 (.bslice 1 1 [zi] [(0,(.s 77))]),o 79 (.append 1
 8 (.s 72) (.s 78)),oF 80 3 7,oP 1 80 79])) .skip)))))) (rF [oD 81 .add 33 1,oM 33 81]))))))) (.seq (.seq (rF [oF 82 4 2,oL 83 82,oN 84 83,
 oI 85 0]) (.block 2 (.loop (.seq (rF [oC 86 .lss 85 84]) (.seq (.cond (.s 86) .skip (.exit 2)) (.seq (.block 3 (.seq (rF [oA 87 11 83 85,oS
 88 11 87,o 10 (.allocL [zi,zi,zi,zi,zi,zi,zn,zn,zb,zi,zi]),oP 11 10 88]) (.seq (rF [oM 89 5,oF 90 1 10,oL 91 90,o 92 (.call false
 (.s 89) [(.s 91)]),oM 11 92]) (.seq (.seq (rF [oM 93 6,oF 94 1 10,oL 95 94,o 96 (.call false (.s 93) [(.s 95)])]) (.cond (.s 96) (rF [oM
 97 11,oD 98 .add 97 1,oM 11 98]) .skip)) (.seq (rT [oM 99 11,oM 100 5,oF 101 2 10,oL 102 101,o 103 (.call false (.s 100) [(.s 102)]),oF
 104 3 10,oK 105 4 104,o 106 (.call false (cf 429) [(.s 105)]),oF 107 7 10,oL 108 107,o 109 (.call false (cf 439) [(.s 108)]),oF 110 1 10,
 oP 1 110 99,oF 111 2 10,oP 1 111 103,oF 112 3 10,oP 4 112 106,oF 113 7 10,oP 1 113 109]) (rF [oF 114 4 7,oL 115 114,oK 116 11 10,o 117
 (.bslice 11 1 [zi,zi,zi,zi,zi,zi,zn,zn,zb,zi,zi] [(0,(.s 116))]),o 118 (.append 11 120 (.s 115) (.s 117)),oF 119 4 7,oP 1 119 118]))))))
 (rF [oD 120 .add 85 1,oM 85 120]))))))) (.seq (.seq (rF [oR 121 3,oN 122 121,oI 123 0]) (.block 4 (.loop (.seq (rF [oC 124 .lss 123 122])
 (.seq (.cond (.s 124) .skip (.exit 4)) (.seq (.block 5 (.seq (rF [oA 125 1 121 123,oR 126 125,oM 13 126]) (rT [oF 127 4 7,oL 128 127,oM 129
 5,oM 130 13,o 131 (.call false (.s 129) [(.s 130)]),oM 132 5,oM 133 13,o 134 (.call false (.s 132) [(.s 133)]),oD 135 .add 134 1,o 136
 (.build [zi,zi,zi,zn] [(0,1,(ci 1)),(1,1,(ci 1)),(2,1,(ci 1))]),oF 137 4 2,oL 138 137,oK 139 7 2,oM 140 13,o 141 (.call false
 (cf 424) [(.s 139),(.s 140)]),oA 142 11 138 141,oG 143 10 142,oR 144 143,o 145 (.build [zi,zi,zi,zi,zi,zi,zn,zn,zb,zi,zi] [(0,
 1,(ci 5)),(1,1,(.s 131)),(2,1,(.s 135)),(3,4,(.s 136)),(10,1,(.s 144))]),o 146 (.bslice 11 1 [zi,zi,zi,zi,zi,zi,zn,zn,zb,
 zi,zi] [(0,(.s 145))]),o 147 (.append 11 120 (.s 128) (.s 146)),oF 148 4 7,oP 1 148 147]))) (rF [oD 149 .add 123 1,oM 123 149]))))))) (.seq
 (.seq (rF [oF 150 5 2,oL 151 150,oN 152 151,oI 153 0]) (.block 6 (.loop (.seq (rF [oC 154 .lss 153 152]) (.seq (.cond (.s 154) .skip (.exit
 6)) (.seq (.block 7 (.seq (rF [oA 155 6 151 153,oS 156 6 155,o 15 (.allocL [zi,zn,zi,zi,zi,zn]),oP 6 15 156]) (.seq (rF [o 16 (.mv (.c
 zn))]) (.seq (.seq (rF [oF 157 1 2,oL 158 157,oI 159 0]) (.block 8 (.loop (.seq (rF [oC 160 .lss 159 158]) (.seq (.cond (.s 160) .skip (.exit
 8)) (.seq (.block 9 (.seq (rF [oM 161 159,oM 17 161]) (.seq (rF [oF 162 1 15,oL 163 162,oM 164 17,o 165 (.call false (cf 206) [(.s 163),
 (.s 164)]),oM 18 165]) (.seq (.seq (rF [oM 166 18]) (.cond (.s 166) (rF [oM 167 16,oM 168 5,oM 169 17,o 170 (.call false (.s 168) [(.s 169)]),
 o 171 (.bslice 1 1 [zi] [(0,(.s 170))]),o 172 (.append 1 8 (.s 167) (.s 171)),oM 16 172]) .skip)) (.seq (rF [oM 173 6,oM 174 17,o 175 (.call
 false (.s 173) [(.s 174)]),oM 176 175,gM 176 true 177 18,gM 176 true 178 177,gM 178 false 179 17,gF 178 false 180 0 15,gL 178 false 181
 180,gC 178 false 182 .eql 179 181,og 176 true 183 (.pick (.s 178) (cb true) (.s 182)),oW 184 176 183]) (.cond (.s 184) (rF [oM 185 16,oM
 186 5,oM 187 17,o 188 (.call false (.s 186) [(.s 187)]),oD 189 .add 188 1,o 190 (.bslice 1 1 [zi] [(0,(.s 189))]),o 191 (.append 1 8 (.s
 185) (.s 190)),oM 16 191]) .skip)))))) (rF [oD 192 .add 159 1,oM 159 192]))))))) (rT [oF 193 5 7,oL 194 193,oM 195 5,oF 196 0 15,oL 197
 196,o 198 (.call false (.s 195) [(.s 197)]),oM 199 16,oF 200 2 15,oK 201 4 200,o 202 (.call false (cf 429) [(.s 201)]),o 203 (.build [zi,
 zn,zi,zi,zi,zn] [(0,1,(.s 198)),(1,1,(.s 199)),(2,4,(.s 202))]),o 204 (.bslice 6 1 [zi,zn,zi,zi,zi,zn] [(0,(.s 203))]),o
 205 (.append 6 80 (.s 194) (.s 204)),oF 206 5 7,oP 1 206 205]))))) (rF [oD 207 .add 153 1,oM 153 207]))))))) (.seq (rF [oK 208 7 7,oP 7 4 208]) .ret)))))))))⟩
def zwY:F:=⟨20,false,[.s 4],(.seq (rF [oI 4 0]) (.seq (rF [oM 7 1,oM 5 7]) (.seq (.seq (rF [oI 6 0]) (.block 0 (.loop (.seq (.seq (rF
 [oM 8 6,oM 9 1,oC 10 .lss 8 9]) (.cond (.s 10) .skip (.exit 0))) (.seq (.block 1 (.seq (rF [oM 13 0,oM 14 6,oA 15 1 13 14,oR 16 15]) (.cond
 (.s 16) (rF [oM 17 5,oD 18 .add 17 1,oM 5 18]) .skip))) (rF [oM 11 6,oD 12 .add 11 1,oM 6 12])))))) (.seq (rF [oM 19 5,oM 4 19]) .ret))))⟩
def zwX:F:=⟨21,false,[.l 4 true 11],(.seq (rF [oQ 2 7 0,o 4 (.allocL [zi,zi,zi,zi,zi,zi,zn,zn,zb,zi,zi])]) (.seq (rF [oI 5
 0]) (.seq (.block 0 (.loop (.seq (.seq (rF [oF 6 4 2,oL 7 6,oM 8 5,oA 9 11 7 8,oG 10 1 9,oR 11 10,oM 12 1,oC 13 .neq 11 12]) (.cond (.s
 13) .skip (.exit 0))) (.block 1 (rF [oM 14 5,oD 15 .add 14 1,oM 5 15]))))) (.seq (rF [oF 16 4 2,oL 17 16,oM 18 5,oA 19 11 17 18,oS 20 11 19,oP 11 4 20]) .ret))))⟩
def zwW:F:=⟨71,false,[.l 4 true 6],(.seq (rF [oQ 2 6 0,o 4 (.allocL [zi,zn,zi,zi,zi,zn])]) (.seq (rT [oM 9 1,oF 10 0 2,oL 11
 10,o 12 (.call false (cf 431) [(.s 9),(.s 11)]),oF 13 2 2,oK 14 4 13,o 15 (.build [zi,zn,zi,zi,zi,zn] [(0,1,(.s 12)),(2,4,(.s
 14))]),o 5 (.allocL [zi,zn,zi,zi,zi,zn]),oP 6 5 15]) (.seq (.seq (rF [oI 6 0]) (.block 0 (.loop (.seq (.seq (rF [oM 16 6,oM 17 1,oN
 18 17,oC 19 .lss 16 18]) (.cond (.s 19) .skip (.exit 0))) (.seq (.block 1 (.seq (rF [oB 7 false]) (.seq (.seq (rF [oI 8 0]) (.block 2 (.loop
 (.seq (.seq (rF [oM 22 8,oF 23 1 2,oL 24 23,oN 25 24,oC 26 .lss 22 25]) (.cond (.s 26) .skip (.exit 2))) (.seq (.block 3 (rF [oM 29 7,oM
 30 29,gF 30 false 31 1 2,gL 30 false 32 31,gM 30 false 33 8,gI 30 false 34 1 32 33,gR 30 false 35 34,gM 30 false 36 6,gC 30 false 37 .eql
 35 36,oV 38 30 37,oM 7 38])) (rF [oM 27 8,oD 28 .add 27 1,oM 8 28])))))) (.seq (.seq (rF [oM 39 7]) (.cond (.s 39) (rT [oF 40 1 5,oL 41
 40,oM 42 1,oM 43 6,o 44 (.call false (cf 431) [(.s 42),(.s 43)]),o 45 (.bslice 1 1 [zi] [(0,(.s 44))]),o 46 (.append 1 8 (.s 41) (.s 45)),
 oF 47 1 5,oP 1 47 46]) .skip)) (.seq (rF [oM 48 1,oM 49 6,oA 50 1 48 49,oR 51 50,oM 52 51,gM 52 true 53 7,gM 52 true 54 53,gF 54 false
 55 0 2,gL 54 false 56 55,gM 54 false 57 6,gC 54 false 58 .eql 56 57,og 52 true 59 (.pick (.s 54) (cb true) (.s 58)),oW 60 52 59]) (.cond
 (.s 60) (rT [oF 61 1 5,oL 62 61,oM 63 1,oM 64 6,o 65 (.call false (cf 431) [(.s 63),(.s 64)]),oD 66 .add 65 1,o 67 (.bslice 1 1 [zi] [(0,
 (.s 66))]),o 68 (.append 1 8 (.s 62) (.s 67)),oF 69 1 5,oP 1 69 68]) .skip)))))) (rF [oM 20 6,oD 21 .add 20 1,oM 6 21])))))) (.seq (rF [oK 70 6 5,oP 6 4 70]) .ret))))⟩
def zrd:F:=⟨19,false,[.s 4],(.seq (rF [oI 4 0]) (.seq (.seq (rF [oM 6 0,oN 7 6,oI 8 0]) (.block 0 (.loop (.seq (rF [oC 9 .lss 8 7])
 (.seq (.cond (.s 9) .skip (.exit 0)) (.seq (.block 1 (.seq (rF [oM 10 8,oM 5 10]) (.seq (rF [oM 11 1,oM 12 0,oM 13 5,oA 14 11 12 13,oS 15
 11 14,o 16 (.call false (.s 11) [(.s 15)])]) (.cond (.s 16) (.seq (rF [oM 17 5,oM 4 17]) .ret) .skip)))) (rF [oD 18 .add 8 1,oM 8 18]))))))) (.seq (rF [oI 4 (-1)]) .ret)))⟩
def zrc:F:=⟨8,false,[.s 3],(.seq (rF [oQ 2 11 0,oB 3 false]) (.seq (rF [oF 4 1 2,oL 5 4,oR 6 1,oC 7 .eql 5 6,oM 3 7]) .ret))⟩
def zrb:F:=⟨15,false,[.s 3],(.seq (rF [oI 3 0]) (.seq (rF [oR 7 1,oM 8 0,o 9 (.call false (cf 437) [(.s 7),(.s 8)]),oM 6 9,oX 10
 6 0,oX 11 6 1,oM 4 10,oM 5 11]) (.seq (rF [oM 12 0,oM 13 4,oC 14 .add 12 13,oM 3 14]) .ret)))⟩
def zra:F:=⟨54,false,[.s 4,.s 5],(.seq (rF [oI 4 0,oB 5 false]) (.seq (rF [oM 10 0,oN 11 10,oM 6 11]) (.seq (rF [oM 12 6,oI 7 0,
 oM 8 12]) (.seq (.block 0 (.loop (.seq (.seq (rF [oM 13 7,oM 14 8,oC 15 .lss 13 14]) (.cond (.s 15) .skip (.exit 0))) (.block 1 (.seq (rF [oM
 16 7,oM 17 8,oC 18 .add 16 17,o 19 (.conv .u64 (.s 18)),o 20 (.bin .shr (.s 19) (.c (.t (.int .u64 1)))),o 21 (.conv .i64 (.s 20)),oM 9
 21]) (.seq (rF [oM 22 0,oM 23 9,oA 24 1 22 23,oR 25 24,oM 26 1,o 27 (.call false (cf 126) [(.s 25),(.s 26)])]) (.cond (.s 27) (rF [oM 28
 9,oD 29 .add 28 1,oM 7 29]) (rF [oM 30 9,oM 8 30])))))))) (.seq (rF [oM 31 7,oM 32 7,oM 33 6,oC 34 .lss 32 33,oM 35 34,gM 35 true 36
 0,gM 35 true 37 7,gI 35 true 38 1 36 37,gR 35 true 39 38,gM 35 true 40 1,gC 35 true 41 .eql 39 40,gM 35 true 42 41,gM 42 false 43 0,gM
 42 false 44 7,gI 42 false 45 1 43 44,gR 42 false 46 45,og 42 false 47 (.call false (cf 440) [(.s 46)]),gM 42 false 48 47,gM 48 true 49 1,
 og 48 true 50 (.call false (cf 440) [(.s 49)]),og 42 false 51 (.pick (.s 48) (.s 50) (cb false)),og 35 true 52 (.pick (.s 42) (cb true) (.s
 51)),oW 53 35 52,oM 4 31,oM 5 53]) .ret)))))⟩
def zq9:F:=⟨7,false,[.s 3],(.seq (rF [oB 3 false]) (.seq (rF [oR 4 1,oM 5 0,o 6 (.call false (cf 206) [(.s 4),(.s 5)]),oM 3 6]) .ret))⟩
def zq8:F:=⟨23,false,[.s 2],(.seq (rF [o 2 (.mv (.c zn))]) (.seq (rF [o 3 (.mv (.c zn))]) (.seq (.seq (rF [oM 6 0,oN 7 6,oI 8 0]) (.block
 0 (.loop (.seq (rF [oC 9 .lss 8 7]) (.seq (.cond (.s 9) .skip (.exit 0)) (.seq (.block 1 (.seq (rF [oA 10 5 6 8,oS 11 5 10,o 5 (.allocL [zi,
 zi,zi,zi,zn]),oP 5 5 11]) (rT [oM 12 3,oF 13 0 5,oL 14 13,oF 15 1 5,oK 16 4 15,o 17 (.call false (cf 429) [(.s 16)]),o 18 (.build [zi,
 zi,zi,zi,zn] [(0,1,(.s 14)),(1,4,(.s 17))]),o 19 (.bslice 5 1 [zi,zi,zi,zi,zn] [(0,(.s 18))]),o 20 (.append 5 56 (.s 12) (.s 19)),
 oM 3 20]))) (rF [oD 21 .add 8 1,oM 8 21]))))))) (.seq (rF [oM 22 3,oM 2 22]) .ret))))⟩
def zq7:F:=⟨6,false,[.s 2],(.seq (rF [oB 2 false]) (.seq (rF [oM 3 0,oM 4 0,oC 5 .neq 3 4,oM 2 5]) .ret))⟩
end Rg
end
section
set_option maxRecDepth 20000
namespace Rg
open Go
def zst:List (Nat×F):=[(9,f9),
 (23,f23),
 (24,f24),
 (28,f28),
 (31,f31),
 (33,f33),
 (36,f36),
 (39,f39),
 (47,f47),
 (48,f48),
 (49,f49),
 (51,f51),
 (57,f57),
 (60,f60),
 (61,f61),
 (62,f62),
 (64,f64),
 (65,f65),
 (68,f68),
 (70,f70),
 (71,f71),
 (74,f74),
 (75,f75),
 (76,f76),
 (77,f77),
 (78,f78),
 (79,f79),
 (80,f80),
 (81,f81),
 (82,f82),
 (83,f83),
 (84,f84),
 (85,f85),
 (86,f86),
 (87,f87),
 (88,f88),
 (89,f89),
 (91,f91),
 (95,f95),
 (96,f96),
 (97,f97),
 (98,f98),
 (99,f99),
 (100,zr0),
 (101,zrZ),
 (102,zrY),
 (103,zrX),
 (104,zrW),
 (105,zrV),
 (106,zrU),
 (107,zrT),
 (108,zrS),
 (109,zrR),
 (110,f110),
 (111,f111),
 (112,f112),
 (113,f113),
 (114,f114),
 (115,f115),
 (116,f116),
 (126,f126),
 (131,f131),
 (132,f132),
 (133,f133),
 (134,f134),
 (135,f135),
 (136,f136),
 (137,f137),
 (138,f138),
 (144,f144),
 (145,zrQ),
 (146,zrP),
 (147,f147),
 (148,f148),
 (149,f149),
 (150,f150),
 (151,f151),
 (152,f152),
 (153,f153),
 (154,f154),
 (155,f155),
 (156,f156),
 (157,f157),
 (158,f158),
 (159,f159),
 (161,zrO),
 (162,zrN),
 (163,zrM),
 (164,zrL),
 (165,zrK),
 (166,f166),
 (198,zs0),
 (206,f206),
 (207,f207),
 (228,f228),
 (253,zrJ),
 (289,zrI),
 (299,f299),
 (300,f300),
 (301,f301),
 (307,zrH),
 (309,zrG),
 (310,zqg),
 (311,zrF),
 (312,zrE),
 (313,zrD),
 (314,zrC),
 (315,zqf),
 (316,zrB),
 (318,zrA),
 (319,zrz),
 (320,zry),
 (321,zrx),
 (322,zrw),
 (325,zrv),
 (395,zru),
 (396,zw5),
 (398,zrt),
 (401,zsZ),
 (402,zrs),
 (403,zrr),
 (404,zrq),
 (405,zrp),
 (406,zw4),
 (407,zw3),
 (408,zw2),
 (409,zro),
 (412,zsY),
 (413,zsX),
 (414,zrn),
 (415,zrm),
 (416,zrl),
 (417,zrk),
 (418,zrj),
 (419,zsW),
 (420,zw1),
 (421,zw0),
 (422,zwZ),
 (424,zri),
 (425,zrh),
 (426,zqe),
 (427,zrg),
 (428,zsV),
 (429,zrf),
 (430,zre),
 (431,zwY),
 (432,zwX),
 (433,zwW),
 (434,zrd),
 (435,zrc),
 (436,zrb),
 (437,zra),
 (438,zq9),
 (439,zq8),
 (440,zq7)]
def Γ:Nat->Option F:=fun k=>zst.lookup k
def G:Nat->List T
 | 0=>[.int .i64 0,.int .i64 1,.int .i64 3,.int .i64 7,.int .i64 15,.int .i64 31,.int .i64 63,.int .i64 127,.int .i64 255]
 | _=>[]
theorem Γ9:Γ 9=some f9:=by rfl
theorem Γ23:Γ 23=some f23:=by rfl
theorem Γ24:Γ 24=some f24:=by rfl
theorem Γ28:Γ 28=some f28:=by rfl
theorem Γ31:Γ 31=some f31:=by rfl
theorem Γ33:Γ 33=some f33:=by rfl
theorem Γ36:Γ 36=some f36:=by rfl
theorem Γ39:Γ 39=some f39:=by rfl
theorem Γ47:Γ 47=some f47:=by rfl
theorem Γ48:Γ 48=some f48:=by rfl
theorem Γ49:Γ 49=some f49:=by rfl
theorem Γ51:Γ 51=some f51:=by rfl
theorem Γ57:Γ 57=some f57:=by rfl
theorem Γ60:Γ 60=some f60:=by rfl
theorem Γ61:Γ 61=some f61:=by rfl
theorem Γ62:Γ 62=some f62:=by rfl
theorem Γ64:Γ 64=some f64:=by rfl
theorem Γ65:Γ 65=some f65:=by rfl
theorem Γ68:Γ 68=some f68:=by rfl
theorem Γ70:Γ 70=some f70:=by rfl
theorem Γ71:Γ 71=some f71:=by rfl
theorem Γ74:Γ 74=some f74:=by rfl
theorem Γ75:Γ 75=some f75:=by rfl
theorem Γ76:Γ 76=some f76:=by rfl
theorem Γ77:Γ 77=some f77:=by rfl
theorem Γ78:Γ 78=some f78:=by rfl
theorem Γ79:Γ 79=some f79:=by rfl
theorem Γ80:Γ 80=some f80:=by rfl
theorem Γ81:Γ 81=some f81:=by rfl
theorem Γ82:Γ 82=some f82:=by rfl
theorem Γ83:Γ 83=some f83:=by rfl
theorem Γ84:Γ 84=some f84:=by rfl
theorem Γ85:Γ 85=some f85:=by rfl
theorem Γ86:Γ 86=some f86:=by rfl
theorem Γ87:Γ 87=some f87:=by rfl
theorem Γ88:Γ 88=some f88:=by rfl
theorem Γ89:Γ 89=some f89:=by rfl
theorem Γ91:Γ 91=some f91:=by rfl
theorem Γ95:Γ 95=some f95:=by rfl
theorem Γ96:Γ 96=some f96:=by rfl
theorem Γ97:Γ 97=some f97:=by rfl
theorem Γ98:Γ 98=some f98:=by rfl
theorem Γ99:Γ 99=some f99:=by rfl
theorem Γ100:Γ 100=some zr0:=by rfl
theorem Γ101:Γ 101=some zrZ:=by rfl
theorem Γ102:Γ 102=some zrY:=by rfl
theorem Γ103:Γ 103=some zrX:=by rfl
theorem Γ104:Γ 104=some zrW:=by rfl
theorem Γ105:Γ 105=some zrV:=by rfl
theorem Γ106:Γ 106=some zrU:=by rfl
theorem Γ107:Γ 107=some zrT:=by rfl
theorem Γ108:Γ 108=some zrS:=by rfl
theorem Γ109:Γ 109=some zrR:=by rfl
theorem Γ110:Γ 110=some f110:=by rfl
theorem Γ111:Γ 111=some f111:=by rfl
theorem Γ112:Γ 112=some f112:=by rfl
theorem Γ113:Γ 113=some f113:=by rfl
theorem Γ114:Γ 114=some f114:=by rfl
theorem Γ115:Γ 115=some f115:=by rfl
theorem Γ116:Γ 116=some f116:=by rfl
theorem Γ126:Γ 126=some f126:=by rfl
theorem Γ131:Γ 131=some f131:=by rfl
theorem Γ132:Γ 132=some f132:=by rfl
theorem Γ133:Γ 133=some f133:=by rfl
theorem Γ134:Γ 134=some f134:=by rfl
theorem Γ135:Γ 135=some f135:=by rfl
theorem Γ136:Γ 136=some f136:=by rfl
theorem Γ137:Γ 137=some f137:=by rfl
theorem Γ138:Γ 138=some f138:=by rfl
theorem Γ144:Γ 144=some f144:=by rfl
theorem Γ145:Γ 145=some zrQ:=by rfl
theorem Γ146:Γ 146=some zrP:=by rfl
theorem Γ147:Γ 147=some f147:=by rfl
theorem Γ148:Γ 148=some f148:=by rfl
theorem Γ149:Γ 149=some f149:=by rfl
theorem Γ150:Γ 150=some f150:=by rfl
theorem Γ151:Γ 151=some f151:=by rfl
theorem Γ152:Γ 152=some f152:=by rfl
theorem Γ153:Γ 153=some f153:=by rfl
theorem Γ154:Γ 154=some f154:=by rfl
theorem Γ155:Γ 155=some f155:=by rfl
theorem Γ156:Γ 156=some f156:=by rfl
theorem Γ157:Γ 157=some f157:=by rfl
theorem Γ158:Γ 158=some f158:=by rfl
theorem Γ159:Γ 159=some f159:=by rfl
theorem Γ161:Γ 161=some zrO:=by rfl
theorem Γ162:Γ 162=some zrN:=by rfl
theorem Γ163:Γ 163=some zrM:=by rfl
theorem Γ164:Γ 164=some zrL:=by rfl
theorem Γ165:Γ 165=some zrK:=by rfl
theorem Γ166:Γ 166=some f166:=by rfl
theorem Γ198:Γ 198=some zs0:=by rfl
theorem Γ206:Γ 206=some f206:=by rfl
theorem Γ207:Γ 207=some f207:=by rfl
theorem Γ228:Γ 228=some f228:=by rfl
theorem Γ253:Γ 253=some zrJ:=by rfl
theorem Γ289:Γ 289=some zrI:=by rfl
theorem Γ299:Γ 299=some f299:=by rfl
theorem Γ300:Γ 300=some f300:=by rfl
theorem Γ301:Γ 301=some f301:=by rfl
theorem Γ307:Γ 307=some zrH:=by rfl
theorem Γ309:Γ 309=some zrG:=by rfl
theorem Γ310:Γ 310=some zqg:=by rfl
theorem Γ311:Γ 311=some zrF:=by rfl
theorem Γ312:Γ 312=some zrE:=by rfl
theorem Γ313:Γ 313=some zrD:=by rfl
theorem Γ314:Γ 314=some zrC:=by rfl
theorem Γ315:Γ 315=some zqf:=by rfl
theorem Γ316:Γ 316=some zrB:=by rfl
theorem Γ318:Γ 318=some zrA:=by rfl
theorem Γ319:Γ 319=some zrz:=by rfl
theorem Γ320:Γ 320=some zry:=by rfl
theorem Γ321:Γ 321=some zrx:=by rfl
theorem Γ322:Γ 322=some zrw:=by rfl
theorem Γ325:Γ 325=some zrv:=by rfl
theorem Γ395:Γ 395=some zru:=by rfl
theorem Γ396:Γ 396=some zw5:=by rfl
theorem Γ398:Γ 398=some zrt:=by rfl
theorem Γ401:Γ 401=some zsZ:=by rfl
theorem Γ402:Γ 402=some zrs:=by rfl
theorem Γ403:Γ 403=some zrr:=by rfl
theorem Γ404:Γ 404=some zrq:=by rfl
theorem Γ405:Γ 405=some zrp:=by rfl
theorem Γ406:Γ 406=some zw4:=by rfl
theorem Γ407:Γ 407=some zw3:=by rfl
theorem Γ408:Γ 408=some zw2:=by rfl
theorem Γ409:Γ 409=some zro:=by rfl
theorem Γ412:Γ 412=some zsY:=by rfl
theorem Γ413:Γ 413=some zsX:=by rfl
theorem Γ414:Γ 414=some zrn:=by rfl
theorem Γ415:Γ 415=some zrm:=by rfl
theorem Γ416:Γ 416=some zrl:=by rfl
theorem Γ417:Γ 417=some zrk:=by rfl
theorem Γ418:Γ 418=some zrj:=by rfl
theorem Γ419:Γ 419=some zsW:=by rfl
theorem Γ420:Γ 420=some zw1:=by rfl
theorem Γ421:Γ 421=some zw0:=by rfl
theorem Γ422:Γ 422=some zwZ:=by rfl
theorem Γ424:Γ 424=some zri:=by rfl
theorem Γ425:Γ 425=some zrh:=by rfl
theorem Γ426:Γ 426=some zqe:=by rfl
theorem Γ427:Γ 427=some zrg:=by rfl
theorem Γ428:Γ 428=some zsV:=by rfl
theorem Γ429:Γ 429=some zrf:=by rfl
theorem Γ430:Γ 430=some zre:=by rfl
theorem Γ431:Γ 431=some zwY:=by rfl
theorem Γ432:Γ 432=some zwX:=by rfl
theorem Γ433:Γ 433=some zwW:=by rfl
theorem Γ434:Γ 434=some zrd:=by rfl
theorem Γ435:Γ 435=some zrc:=by rfl
theorem Γ436:Γ 436=some zrb:=by rfl
theorem Γ437:Γ 437=some zra:=by rfl
theorem Γ438:Γ 438=some zq9:=by rfl
theorem Γ439:Γ 439=some zq8:=by rfl
theorem Γ440:Γ 440=some zq7:=by rfl
end Rg
end
section
namespace Rg
open Go Go.Sort Go.Shelf
theorem intsOf_get: ∀{rs:List (List V)} {zs:List Int},intsOf rs=some zs->rs.length=zs.length/\ ∀(i:Nat) (z:Int),zs[i]? =some z->rs[i]? =some [.t (.int .i64 z)]
 | [],zs,h=>by simp only[intsOf,zA]at h;subst h;simp
 | row::r,zs,h=>by
   unfold intsOf at h;split at h
   ·rename_i h0;simp at h0
   ·rename_i z r' h0;simp only[List.cons.injEq]at h0;obtain⟨rfl,rfl⟩:=h0;rw[zE]at h;obtain⟨zs',hz,rfl⟩:=h;obtain⟨h1,h2⟩:=intsOf_get hz;refine⟨by simp[h1],fun i z' hi=> ?_⟩
    cases i with
    | zero=>simp at hi;subst hi;rfl
    | succ i=>simpa using h2 i z' (by simpa using hi)
   ·cases h
theorem zgU (c:Array Value) (ys:List Int) (j:Nat):(putCells (Value.int .i64) 0 ys.toArray c)[j]? =(c[j]?).map fun x=>match ys[j]? with | some y=>Value.int .i64 y | none=>x:=by
 unfold putCells;rw[Array.getElem?_mapIdx]
 cases hc:c[j]? with
 | none=>rfl
 | some x=>
   simp only[Option.map_some,zA]
   by_cases hj:j<ys.length
   ·rw[if_pos (by simp[hj]),zI hj];simp[hj]
   ·rw[if_neg (by simp;omega),List.getElem?_eq_none (by omega)]
theorem zd1 (w:World) (q b:Nat) (ys:List Int) (r:Nat) (x:TypeId×Nat) (hx:w.shape? r=some x):(putRow (Value.int .i64) (Sort.ahead w q) b 0 ys.toArray).shape? r=some x:=by
 unfold World.shape? at hx⊢;simp only[putRow,mapBlock,Sort.ahead,Array.getElem?_modify]
 by_cases h:b=r
 ·subst h;rw[if_pos rfl]
  cases ho:w.heap[b]? with
  | none=>rw[ho]at hx;cases hx
  | some o=>
    rw[ho]at hx
    cases o with
    | cells c e fr=>simpa[onCells,putCells]using hx
    | _=>cases hx
 ·rw[if_neg h];exact hx
section
variable {N:Nam} {c:Ctx} {A:Nat->Prop} {μ lam:Nat->Nat} {w:World} {H:Nat->Option O} {n:Nat}
theorem rel_putInts (R:Rel N c 0 A μ lam (.init [] H n) zaB w) {k:Nat} {rs:List (List V)} (hk:H k=some (.rows 1 rs false)) (ys:List Int) (hl:ys.length=rs.length) (q:Nat):
 Rel N c 0 A μ lam (.init [] (upd H k (some (.rows 1 (ofInts ys) false))) n) zaB (putRow (Value.int .i64) (Sort.ahead w q) (μ k) 0 ys.toArray):=by
 obtain⟨cc,e0,z,h1,h2,h3,h4,h5⟩:=R.heap k _ hk;have hz:=h2 rfl;subst hz
 have hget: ∀r,(putRow (Value.int .i64) (Sort.ahead w q) (μ k) 0 ys.toArray).heap[r]? =if μ k=r then(w.heap[r]?).map (onCells (putCells (Value.int .i64) 0 ys.toArray))else w.heap[r]? :=by
  intro r;simp only[putRow,mapBlock,Sort.ahead,Array.getElem?_modify]
 refine R.changeH (o':= .rows 1 (ofInts ys) false) hk ⟨rfl,by simp[ofInts,hl]⟩ rfl (by simp) (by simp) rfl ?_ ?_ ?_ ?_ ⟨rfl,rfl⟩
 ·simp[putRow,mapBlock,Sort.ahead]
 ·intro r hr;rw[hget,if_neg (fun h=>hr h.symm)]
 ·exact fun r x hx=>zd1 w q (μ k) ys r x hx
 ·intro E;refine⟨putCells (Value.int .i64) 0 ys.toArray cc,e0,(0,0),?_,fun _=>rfl,?_,?_,?_⟩
  ·rw[hget,if_pos rfl,h1];rfl
  ·have:(putCells (Value.int .i64) 0 ys.toArray cc).size=cc.size:=by simp[putCells]
   rw[this];simp[ofInts,hl];omega
  ·intro i row hi;simp only[ofInts,zJ,zE]at hi;obtain⟨y,_,rfl⟩:=hi;rfl
  ·intro i row j x hi hj;simp only[ofInts,zJ,zE]at hi;obtain⟨y,hy,rfl⟩:=hi
   have hj0:j=0:=by
    have:=(zH.1 hj).1;simp at this;exact this
   subst hj0;simp only[List.getElem?_cons_zero,zA]at hj;subst hj;have hlt:i<ys.length:=(zH.1 hy).1;obtain⟨row,hrow⟩: ∃row,rs[i]? =some row:=⟨_,zI (by omega)⟩
   have hrl:=h4 i row hrow;obtain⟨x0,hx0⟩: ∃x0,row[0]? =some x0:=⟨_,zI (by omega)⟩
   obtain⟨v,hv,_⟩:=h5 i row 0 x0 hrow hx0;refine⟨.int .i64 y,?_,.t (.int _ _)⟩;rw[zgU,hv];simp[hy]
theorem zmJ (R:Rel N c 0 A μ lam (.init [] H n) zaB w) (os:Array Obj):Rel N c 0 A μ lam (.init [] H n) zaB (grow w os):=by
 have hget: ∀r,r<w.heap.size->(grow w os).heap[r]? =w.heap[r]? :=fun r hr=>by simp[grow,Array.getElem?_append,hr]
 refine R.world (by simp[grow]) ?_ ?_ ?_ (Marks.nil _ _ _) ⟨rfl,rfl⟩
 ·rintro r (h | h | ⟨k,o,hk,hl,rfl⟩)
  ·exact hget r (R.alt r h)
  ·obtain⟨t,ht,_⟩:=h;simp[St.init]at ht
  ·exact hget _ (R.lt_live hk hl)
 ·intro r hr _;exact hget r (Nat.lt_of_lt_of_le hr R.csize)
 ·intro r x hx;unfold World.shape? at hx⊢
  by_cases hr:r<w.heap.size
  ·rw[hget r hr];exact hx
  ·rw[Array.getElem?_eq_none (by omega)]at hx;cases hx
theorem rel_below (R:Rel N c 0 A μ lam (.init [] H n) zaB w) {w':World} (hb:Go.RowKit.Below w.heap.size w w'):Rel N c 0 A μ lam (.init [] H n) zaB w':=by
 refine R.world hb.size ?_ ?_ ?_ (Marks.nil _ _ _) ⟨hb.os,hb.output⟩
 ·rintro r (h | h | ⟨k,o,hk,hl,rfl⟩)
  ·exact hb.block r (R.alt r h)
  ·obtain⟨t,ht,_⟩:=h;simp[St.init]at ht
  ·exact hb.block _ (R.lt_live hk hl)
 ·intro r hr _;exact hb.block r (Nat.lt_of_lt_of_le hr R.csize)
 ·intro r x hx;unfold World.shape? at hx⊢
  by_cases hr:r<w.heap.size
  ·rw[hb.block r hr];exact hx
  ·rw[Array.getElem?_eq_none (by omega)]at hx;cases hx
theorem ziL (R:Rel N c 0 A μ lam (.init [] H n) zaB w) {k len:Nat} {rs:List (List V)} {zs:List Int} (hk:H k=some (.rows 1 rs false)) (hz:intsOf rs=some zs) (hl:zs.length=len)
 {v:Value} (hv:RepV w A N.nm μ H v (.ms k 0 len)):
 ∃a cap,v= .slice a zs.length cap/\zs.length<=cap/\(zs=[]\/a=some ⟨μ k,0,none⟩)/\Holds (Value.int .i64) w (μ k) 0 zs.toArray/\μ k<w.heap.size/\(cap=0\/(a=some ⟨μ k,0,none⟩/\ ∃e m,w.shape? (μ k)=some (e,m)/\cap<=m)):=by
 obtain⟨i1,i2⟩:=intsOf_get hz;obtain⟨cc,e0,z,h1,h2,h3,h4,h5⟩:=R.heap k _ hk;have hzz:=h2 rfl;subst hzz;have hlt:μ k<w.heap.size:=R.lt_live hk rfl
 have hH:Holds (Value.int .i64) w (μ k) 0 zs.toArray:=by
  intro j hj;have hj':j<zs.length:=by simpa using hj
  refine⟨?_,by simp[World.frozen?,h1]⟩;have hzj:zs[j]? =some zs[j]:=zI hj';obtain⟨u,hu,hr⟩:=h5 j _ 0 _ (i2 j _ hzj) rfl
  cases hr with
  | t hr=>
    cases hr;simp only[World.cell?,h1,Nat.zero_add];simp only[Nat.mul_one,Nat.add_zero]at hu;simp[hu,hj']
 have hv1:RepC w A N.nm μ H v (.ms k 0 len):=hv
 cases hv1 with
 | ms _ _ _ cap sz rs' frz a hk' hi hc ha=>
   rw[hk]at hk';cases hk';subst hl;refine⟨a,cap,rfl,by omega,?_,hH,hlt,?_⟩
   ·rcases ha with h0 | ⟨rfl,_⟩
    ·exact .inl (List.eq_nil_of_length_eq_zero (by omega))
    ·exact .inr (by simp)
   ·rcases ha with h0 | ⟨rfl,e,m,hs,hm⟩
    ·exact .inl h0
    ·exact .inr ⟨by simp,e,m,hs,by omega⟩
 | dms _ _ _ hk' _=>rw[hk]at hk';cases hk'
end
theorem zch {w:World} {A:Nat->Prop} {nm μ:Nat->Nat} {H:Nat->Option O} {vs:Array Value} {x:V} (h:zaT w A nm μ H vs [x]): ∃v,vs= #[v]/\RepV w A nm μ H v x:=by
 obtain⟨h1,h2⟩:=h;obtain⟨v,hv,hr⟩:=h2 0 x rfl;refine⟨v,?_,hr⟩;apply Array.ext_getElem?;intro i
 cases i with
 | zero=>simpa using hv
 | succ i=>rw[Array.getElem?_eq_none (by simp at h1;omega),Array.getElem?_eq_none (by simp)]
theorem zpv {H:Nat->Option O} {k:Nat} {o:O} (h:H k=some o):upd H k (some o)=H:=by
 funext j;unfold upd;split
 ·rename_i e;rw[e,h]
 ·rfl
theorem zfG {rs:List (List V)} (h:intsOf rs=some []):rs=[]:=List.eq_nil_of_length_eq_zero (by simpa using(intsOf_get h).1)
theorem znj {P:Program} {N:Nam} {g:Nat} {ρ:Ren} (Ly:Go.Proofs.Lays.n189 P ρ) (hf:ρ.f 189=N.nm g) {rf:Func} (hr:Real P (N.nm g) rf):zjY P N g .sortI:=by
 refine⟨⟨rf,hr⟩,fun args H n r H' n' h c A μ lam w vs R ha=> ?_,fun _ _ h=>by simp[zwd]at h⟩;rw[<- hf];unfold zwb at h;split at h
 all_goals(try contradiction)
 ·cases h;obtain⟨v,rfl,hv⟩:=zch ha;cases hv.t_inv;refine(Go.Proofs.Any.slices_Sort_int_none Ly _ _ w).mono ?_;rintro e w' ⟨rfl,rfl⟩;exact⟨_,A,μ,lam,rfl,R,⟨#[],rfl,rfl,by simp⟩⟩
 ·rename_i k len _;split at h
  ·rename_i rs hk;simp only[zB]at h;obtain⟨zs,hz,h⟩:=h;split at h
   ·rename_i hl;cases h;obtain⟨v,rfl,hv⟩:=zch ha;obtain⟨a,cap,rfl,hc,hor,hH,hlt,_⟩:=ziL R hk hz hl.1 hv
    by_cases h0:zs=[]
    ·subst h0;refine(Go.Proofs.Any.slices_Sort_int_none Ly _ _ w).mono ?_;rintro e w' ⟨rfl,rfl⟩;have hrs:=zfG hz;subst hrs;refine⟨_,A,μ,lam,rfl,?_,⟨#[],rfl,rfl,by simp⟩⟩;rw[List.mergeSort_nil,show ofInts []=[]from rfl,zpv hk];exact R
    ·obtain rfl:=hor.resolve_left h0;refine(Go.Proofs.Any.slices_Sort_int Ly (μ k) 0 cap zs w hH hlt (by omega)).mono ?_;rintro e w' ⟨rfl,q,os,rfl⟩;refine⟨_,A,μ,lam,rfl,zmJ (rel_putInts R hk _ ?_ q) os,⟨#[],rfl,rfl,by simp⟩⟩;rw[List.length_mergeSort,(intsOf_get hz).1]
   ·cases h
  ·cases h
theorem zjL (zs:List Int):(Go.Lib.compact zs).length<=zs.length:=by
 unfold Go.Lib.compact Go.Lib.compactUpTo;rw[List.length_map];exact Nat.le_trans (List.length_filter_le _ _) (by simp)
theorem ziQ (H:Nat->Option O) (d:Nat): ∀l:List Int,(ofInts l).mapM (fun row=>row.mapM (toT H d))=some (l.map fun z=>[T.int .i64 z])
 | []=>rfl
 | z::l=>by
   have e:ofInts (z::l)=[.t (.int .i64 z)]::ofInts l:=rfl;have e1:toT H d (.t (.int .i64 z))=some (.int .i64 z):=by cases d<;>rfl
   rw[e,List.mapM_cons,ziQ H d l];simp only[List.mapM_cons,List.mapM_nil,e1];rfl
theorem zfF (H:Nat->Option O) (d:Nat): ∀l:List Int,(ofInts l).flatMap (fun row=>row.flatMap (reach H d))=[]
 | []=>rfl
 | z::l=>by
   have e:ofInts (z::l)=[.t (.int .i64 z)]::ofInts l:=rfl;have e1:reach H d (.t (.int .i64 z))=[]:=by cases d<;>rfl
   rw[e,List.flatMap_cons,zfF H d l];simp only[List.flatMap_cons,List.flatMap_nil,e1];rfl
theorem zj1 {H:Nat->Option O} (k:Nat) (a b:Option O):upd (upd H k a) k b=upd H k b:=by
 funext j;unfold upd;split<;>rfl
theorem zh9 {P:Program} {N:Nam} {g:Nat} {ρ:Ren} (Ly:Go.Proofs.Lays2.n20 P ρ) (hf:ρ.f 20=N.nm g) {rf:Func} (hr:Real P (N.nm g) rf):zjY P N g .compactI:=by
 refine⟨⟨rf,hr⟩,fun args H n r H' n' h c A μ lam w vs R ha=> ?_,fun _ _ h=>by simp[zwd]at h⟩;rw[<- hf];unfold zwb at h;split at h
 all_goals(try contradiction)
 ·cases h;obtain⟨v,rfl,hv⟩:=zch ha;cases hv.t_inv;refine(Go.Proofs.Any.slices_Compact_int_empty Ly _ _ w).mono ?_;rintro e w' ⟨rfl,rfl⟩;exact⟨_,A,μ,lam,rfl,R,(RepC.t (.sl0 _ _)).toV⟩
 ·rename_i k len _;split at h
  ·rename_i rs hk;simp only[zB]at h;obtain⟨zs,hz,h⟩:=h;split at h
   ·rename_i hl;cases h;obtain⟨v,rfl,hv⟩:=zch ha;obtain⟨a,cap,rfl,hc,hor,hH,hlt,hcap⟩:=ziL R hk hz hl.1 hv;have hcl:=zjL zs
    by_cases h0:zs=[]
    ·subst h0;refine(Go.Proofs.Any.slices_Compact_int_empty Ly _ _ w).mono ?_;rintro e w' ⟨rfl,rfl⟩;have hrs:=zfG hz;subst hrs;exact⟨_,_,μ,lam,rfl,R.freeze hk,(RepC.t (.sl0 _ _)).toV⟩
    ·obtain rfl:=hor.resolve_left h0;refine(Go.Proofs.Any.slices_Compact_int Ly (μ k) 0 cap zs w hH (by omega) hc).mono ?_;rintro e w' ⟨rfl,q,rfl⟩
     have hlen:(Go.Lib.compact zs++List.replicate (zs.length-(Go.Lib.compact zs).length) 0).length=rs.length:=by
      rw[List.length_append,List.length_replicate,(intsOf_get hz).1];omega
     have R1:=rel_putInts R hk _ hlen q;have R2:Rel N c 0 (fun r=>A r\/r=μ k) μ lam (.init [] (upd (upd H k (some (.rows 1 (ofInts (Go.Lib.compact zs++List.replicate (zs.length-(Go.Lib.compact zs).length) 0)) false))) k (some (.rows 1 (ofInts (Go.Lib.compact zs++List.replicate (zs.length-(Go.Lib.compact zs).length) 0)) true))) n) zaB _:=R1.freeze (k:=k) (upd_same _ _ _);rw[zj1]at R2;refine⟨_,_,μ,lam,rfl,R2,?_⟩
     have hcap0:cap≠0:=by
      intro hcc;exact h0 (List.eq_nil_of_length_eq_zero (by omega))
     obtain⟨_,e,m,hs,hm⟩:=hcap.resolve_left hcap0
     have hrep:RepC (putRow (Value.int .i64) (Sort.ahead w q) (μ k) 0 (Go.Lib.compact zs++List.replicate (zs.length-(Go.Lib.compact zs).length) 0).toArray) A N.nm μ (upd H k (some (.rows 1 (ofInts (Go.Lib.compact zs++List.replicate (zs.length-(Go.Lib.compact zs).length) 0)) false))) (.slice (some ⟨μ k,0,none⟩) (Go.Lib.compact zs).length cap) (.ms k 0 (Go.Lib.compact zs).length):=by
      refine .ms k 0 _ cap 1 _ false _ (upd_same _ _ _) ?_ (by have e1:=(intsOf_get hz).1;simp only[ofInts,List.length_map,hlen];omega) (.inr ⟨by simp,e,m,?_,by omega⟩)
      ·simp only[ofInts,List.length_map,hlen,(intsOf_get hz).1];omega
      ·exact zd1 w q (μ k) _ _ _ hs
     have hrd:rd (ofInts (Go.Lib.compact zs++List.replicate (zs.length-(Go.Lib.compact zs).length) 0)) 0 (Go.Lib.compact zs).length=some (ofInts (Go.Lib.compact zs)):=by
      unfold rd;rw[if_pos (by simp[ofInts]),List.drop_zero];simp[ofInts,List.map_append]
     have hT:toT (upd H k (some (.rows 1 (ofInts (Go.Lib.compact zs++List.replicate (zs.length-(Go.Lib.compact zs).length) 0)) false))) 1000 (.ms k 0 (Go.Lib.compact zs).length)=some (.sl ((Go.Lib.compact zs).map fun z=>[.int .i64 z])):=by
      simp only[toT,upd_same,hrd,zC,zD,ziQ]
     have hR:reach (upd H k (some (.rows 1 (ofInts (Go.Lib.compact zs++List.replicate (zs.length-(Go.Lib.compact zs).length) 0)) false))) 1000 (.ms k 0 (Go.Lib.compact zs).length)=[k]:=by
      simp only[reach,upd_same,zfF]
     have hrt:=toT_rep R1.heap 1000 _ _ _ hT hrep;refine(RepC.t (hrt.mono (fun _ _=>rfl) ?_)).toV;rintro r (h | ⟨k',hk',_,rfl⟩)
     ·exact .inl h
     ·have h1:k'∈ [k]:=by rw[<- hR];exact hk'
      rw[List.mem_singleton]at h1;subst h1;exact .inr rfl
   ·cases h
  ·cases h
theorem Rel.more {N:Nam} {c:Ctx} {A:Nat->Prop} {μ lam:Nat->Nat} {w:World} {H:Nat->Option O} {n:Nat} (R:Rel N c 0 A μ lam (.init [] H n) zaB w) {m:Nat} (hm:n<=m):Rel N c 0 A μ lam (.init [] H m) zaB w:=
 { R with fresh:=fun k hk=>R.fresh k (Nat.le_trans hm hk) }
theorem zhZ {es:List (List T)} {zs:List Int} (h:intsOf (es.map (·.map V.t))=some zs):es.length=zs.length/\ ∀(i:Nat) (z:Int),zs[i]? =some z->es[i]? =some [.int .i64 z]:=by
 obtain⟨h1,h2⟩:=intsOf_get h;refine⟨by simpa using h1,fun i z hi=> ?_⟩;have:=h2 i z hi;rw[zJ,zE]at this;obtain⟨e,he,h3⟩:=this
 match e,h3 with
 | [],h3=>simp at h3
 | [x],h3=>simp only[List.map_cons,List.map_nil,List.cons.injEq,V.t.injEq,and_true]at h3;rw[he,h3]
 | _::_::_,h3=>simp at h3
theorem zlC {P:Program} {N:Nam} {g:Nat} {ρ:Ren} (Ly:Go.Proofs.Lays2.n15 P ρ) (hf:ρ.f 15=N.nm g) {rf:Func} (hr:Real P (N.nm g) rf):zjY P N g .cloneI:=by
 refine⟨⟨rf,hr⟩,fun args H n r H' n' h c A μ lam w vs R ha=> ?_,fun _ _ h=>by simp[zwd]at h⟩;rw[<- hf]
 have empty: ∀(a:Option Addr) (cap:Nat),Calls P (ρ.f 15) #[.slice a 0 cap] w fun e w'=> ∃v A' μ' lam',e= .returned v/\Rel N c 0 A' μ' lam' (.init [] H n) zaB w'/\RepV w' A' N.nm μ' H v (.t (.sl [])):=by
  intro a cap
  cases a with
  | none=>
    refine(Go.Proofs.Any.slices_Clone_int_nil Ly _ _ w).mono ?_;rintro e w' ⟨rfl,rfl⟩
    exact⟨_,A,μ,lam,rfl,R,(RepC.t (.sl0 _ _)).toV⟩
  | some a=>
    refine(Go.Proofs.Any.slices_Clone_int_zero Ly a cap w).mono ?_;rintro e w' ⟨v',rfl,ho,_,hb⟩;have R1:Rel N c 0 A μ lam (.init [] H n) zaB w':=rel_below R hb;refine⟨_,A,μ,lam,rfl,R1,?_⟩;rcases ho.2 with⟨rfl,_⟩ | ⟨g,cp,cur,rfl,_⟩
    ·exact(RepC.t (.sl0 _ _)).toV
    ·exact(RepC.t (.sl0 _ _)).toV
 unfold zwb at h;split at h
 all_goals(try contradiction)
 ·cases h;obtain⟨v,rfl,hv⟩:=zch ha;cases hv.t_inv;exact empty _ _
 ·cases h;obtain⟨v,rfl,hv⟩:=zch ha
  cases hv.t_inv with
  | sl0 a cap=>exact empty _ _
  | sl r off cap sz es vf h0=>exact absurd h0 (by simp)
 ·rename_i es hne;simp only[zB]at h;obtain⟨zs,hz,h⟩:=h;split at h
  ·rename_i hl;cases h;obtain⟨v,rfl,hv⟩:=zch ha;obtain⟨i1,i2⟩:=zhZ hz
   cases hv.t_inv with
   | sl0 a cap=>simp_all
   | sl r0 off cap sz es vf h0 hc hA hs hvv hrr=>
     have hcell: ∀j,j<zs.length->w.cell? ⟨r0,off+j,none⟩=some (.int .i64 (zs.getD j 0)):=by
      intro j hj;have hzj:zs[j]? =some zs[j]:=zI hj;have hej:=i2 j _ hzj;have h1:=hs j _ hej;simp at h1;subst h1;have h2:=hvv j _ 0 _ hej rfl;have h3:=hrr j _ 0 _ hej rfl;cases h3':vf j 0<;>rw[h3']at h3<;>cases h3
      rw[h3']at h2;simpa[hj]using h2
     rw[i1];refine(Go.Proofs.Any.slices_Clone_int Ly r0 off zs.length cap zs w (Nat.le_refl _) (by omega) hcell).mono ?_;rintro e w' ⟨v',rfl,ho,_,hb⟩;have R1:Rel N c 0 A μ lam (.init [] H (n+1)) zaB w':=(rel_below R hb).more (Nat.le_succ _);rcases ho.2 with⟨_,h00⟩ | ⟨g0,cp,cur,rfl,hg,hcur,hcp,_,hsz,htk⟩
     ·omega
     ·have hsz1:cur.size=cp:=by simpa using hsz
      rw[List.take_length,Nat.mul_one]at htk
      have R2:=R1.adoptH (k:=n) (r:=g0) (o:=.rows 1 (ofInts zs) false) (R.fresh n (Nat.le_refl _)) (Nat.lt_succ_self _) ⟨fun h=>Nat.lt_irrefl _ (Nat.lt_of_lt_of_le (R.alt _ h) hg),fun t ht=>by simp[St.init]at ht,fun k o hk hlv e=>by
       have:=R.lt_live hk hlv
       omega,.inr (Nat.le_trans R.csize hg)⟩ ⟨cur,_,(0,0),hcur,fun _=>rfl,by simp[ofInts];omega,fun i row hi=>by
       simp only[ofInts,zJ,zE]at hi;obtain⟨y,_,rfl⟩:=hi;rfl,fun i row j x hi hj=>by
       simp only[ofInts,zJ,zE]at hi;obtain⟨y,hy,rfl⟩:=hi
       have hj0:j=0:=by
        have:=(zH.1 hj).1;simp at this;exact this
       subst hj0;simp only[List.getElem?_cons_zero,zA]at hj;subst hj;refine⟨.int .i64 y,?_,.t (.int _ _)⟩;have hlt:i<zs.length:=(zH.1 hy).1;have h5:(cur.toList.take zs.length)[i]? =some (.int .i64 y):=by rw[htk,zJ,hy];rfl
       rw[List.getElem?_take,if_pos hlt,Array.getElem?_toList]at h5
       simpa using h5⟩ (by simp)
      refine⟨_,A,_,lam,rfl,R2,?_⟩;refine RepC.toV (.ms n 0 zs.length cp 1 (ofInts zs) false _ (upd_same _ _ _) (by simp[ofInts]) (by simp[ofInts];omega) (.inr ⟨?_,ρ.t 3,cur.size,?_,by omega⟩))
      ·rw[upd_same]
      ·rw[upd_same];unfold World.shape?;rw[hcur]
  ·cases h
end Rg
end
section
namespace Rg
open Go Go.Proofs Go.Shelf Go.RowKit Go.Lib
variable {P:Program} {ρ:Ren}
set_option maxHeartbeats 2000000 in
set_option maxRecDepth 100000 in
theorem clone_any (L:SlLaysE0.n41 P ρ) {i0:TypeInfo} {z:Value} {size bytes:Nat} (hi:P.info? (ρ.t 23)=some i0) (hz0:i0.zero=some z) (hz1:i0.size=size) (hz2:i0.bytes=bytes) (hzs:z.cells.size=size) (hsz:0<size)
 (z23: ∀w,(Go.sizeOf (ρ.t 23)).run P w= .ok size w) (ad:Addr) (n c:Nat) (news:List Value) (w:World) (hl:news.length=n*size) (hn:n<=maxLen) (hbig:n*bytes<=140737488355328)
 (hc: ∀j u,news[j]? =some u->w.cell? (ad.add j)=some u) (h1: ∀u∈news,u.oneCell'=true):
 Calls P (ρ.f 41) #[.slice (some ad) n c] w fun e w'=> ∃v',e= .returned v'/\w'.ownsRow w.heap.size (ρ.t 23) size v' n news/\Below w.heap.size w w':=by
 have mixed:=L.mixed;have t4:=L.t4;have a4:=L.a4;have z4:=L.z4;have v4:=L.v4;have t22:=L.t22;have a22:=L.a22;have z22:=L.z22;have v22:=L.v22;have q22: ∀(w:World) (a:Option Addr) (n c n' c':Nat),(binOp .eql (ρ.t 22) (.slice a n c) (.slice none n' c')).run P w= .ok (.bool a.isNone) w:=fun w a n c n' c'=>Lib.run_eql_slice_nil w _ _ a n c n' c' L.t22
 have u22: ∀w,Sem.run P (underlying (ρ.t 22)) w= .ok (TypeDesc.slice (ρ.t 23)) w:=run_underlying t22;have A:Aside (∀j u,news[j]? =some u->w.cell? (ad.add j)=some u):=hc;clear hc;obtain⟨_,_,FG⟩:=L.f41
 go_enter FG,SlBodyN.n41_ntmps ρ
 go_wp2_with (at_builtin;refine wpList_append_own _ rfl _ _ (ρ.t 22) rfl w.heap.size (ρ.t 23) i0 z size bytes t22 hi hz0 hz1 hz2 hzs hsz _ _ _ rfl (World.ownsRow_made w #[] 0 (Nat.le_refl _) (Nat.zero_le _) (by simp)) ad n c news rfl ?qc1 ?qc2 ?qc3 ?qc4 ?qc5 ?qc6 ?_)
 case qc1=>exact hl
 case qc2=>exact fun j u hj=>Lib.cell?_alloc_some _ (A.out j u hj)
 case qc3=>exact h1
 case qc4=>rw[Nat.zero_add];exact hn
 case qc5=>rw[Nat.zero_add];exact hbig
 case qc6=>simp
 intro v' w1 hown hgrow hnil
 go_wp2
 go_ret
 refine⟨v',rfl,by simpa using hown,?_⟩;exact((Below.refl _ w).alloc (Nat.le_refl _) _).grown hgrow (by simp) (by intro k hk;simp[Value.ownBlock]at hk;omega)
theorem zfN {N:Nam} {g:Nat} (L:SlLaysE0.n41 P ρ) {i0:TypeInfo} {z:Value} {size bytes:Nat} (hi:P.info? (ρ.t 23)=some i0) (hz0:i0.zero=some z) (hz1:i0.size=size) (hz2:i0.bytes=bytes) (hzs:z.cells.size=size) (hsz:0<size)
 (z23: ∀w,(Go.sizeOf (ρ.t 23)).run P w= .ok size w) (hby:bytes<=32768) (hf:ρ.f 41=N.nm g) {rf:Func} (hr:Real P (N.nm g) rf):zjY P N g (.cloneT size):=by
 refine⟨⟨rf,hr⟩,fun args H n r H' n' h=>by simp[zwb]at h,fun args r h=> ?_⟩;intro A w vs hA hgl ha;rw[<- hf]
 have empty: ∀(a:Option Addr) (cap:Nat),Calls P (ρ.f 41) #[.slice a 0 cap] w fun e w'=> ∃v,e= .returned v/\(w'.os=w.os/\w'.output=w.output)/\w.heap.size<=w'.heap.size/\(∀q,q<w.heap.size->w'.heap[q]? =w.heap[q]?)/\
  RepV w' (fun q=>A q\/(w.heap.size<=q/\q<w'.heap.size)) N.nm (fun _=>0) (fun _=>none) v (.t (.sl [])):=by
  intro a cap
  cases a with
  | none=>
    refine(AnyE.slices_Clone_nil L 0 cap w).mono ?_;rintro e w' ⟨rfl,rfl⟩
    exact⟨_,rfl,⟨rfl,rfl⟩,Nat.le_refl _,fun _ _=>rfl,(RepC.t (.sl0 _ _)).toV⟩
  | some a=>
    refine(clone_any L hi hz0 hz1 hz2 hzs hsz z23 a 0 cap [] w (by simp) (by omega) (by omega) (fun j u h=>by simp at h) (fun u h=>by simp at h)).mono ?_;rintro e w' ⟨v',rfl,ho,hb⟩;refine⟨_,rfl,⟨hb.os,hb.output⟩,hb.size,hb.block,?_⟩;rcases ho.2 with⟨rfl,_⟩ | ⟨g,cp,cur,rfl,_⟩
    ·exact(RepC.t (.sl0 _ _)).toV
    ·exact(RepC.t (.sl0 _ _)).toV
 unfold zwd at h;split at h
 all_goals(try contradiction)
 ·cases h;obtain⟨v,rfl,hv⟩:=zch ha;cases hv.t_inv;exact empty _ _
 ·rename_i e0 sz0 es heq;cases heq;split at h
  ·rename_i hle;cases h;obtain⟨v,rfl,hv⟩:=zch ha
   cases hv.t_inv with
   | sl0 a cap=>exact empty _ _
   | sl r0 off cap sz es vf h0 hc hA0 hs hvv hrr=>
     have hrow: ∀(i:Nat) (e:List T),es[i]? =some e->e.length=size:=fun i e he=>by
      have:=List.all_eq_true.1 hle.2 e (List.mem_of_getElem? he);simpa using this
     have hsz2:sz=size:=by
      have h2:es[0]? =some es[0]:=zI h0;rw[<- hs 0 _ h2,hrow 0 _ h2]
     subst hsz2
     have hget: ∀q,q<es.length*sz-> ∃e x,es[q/ sz]? =some e/\e[q % sz]? =some x:=by
      intro q hq;have h1:q/ sz<es.length:=Nat.div_lt_of_lt_mul (by rw[Nat.mul_comm];exact hq);have h2:es[q/ sz]? =some es[q/ sz]:=zI h1;have h3:q % sz<(es[q/ sz]).length:=by rw[hrow _ _ h2];exact Nat.mod_lt _ hsz
      exact⟨_,_,h2,zI h3⟩
     have hnews: ∀(j:Nat) (u:Value),((List.range (es.length*sz)).map fun q=>vf (q/ sz) (q % sz))[j]? =some u->j<es.length*sz/\u=vf (j/ sz) (j % sz):=by
      intro j u hj;rw[zJ,zE]at hj;obtain⟨q,hq,rfl⟩:=hj;have hlt:=(zH.1 hq).1;rw[List.length_range]at hlt;rw[List.getElem?_range hlt]at hq;cases hq;exact⟨hlt,rfl⟩
     have hdm: ∀j,j/ sz*sz+j % sz=j:=fun j=>by rw[Nat.mul_comm];exact Nat.div_add_mod j sz
     have hle1:=hle.1;refine(clone_any L hi hz0 hz1 hz2 hzs hsz z23 ⟨r0,off,none⟩ es.length cap ((List.range (es.length*sz)).map fun q=>vf (q/ sz) (q % sz)) w (by simp) (by unfold maxLen;omega) ?_ ?_ ?_).mono ?_
     ·exact Nat.le_trans (Nat.mul_le_mul (Nat.le_of_lt hle1) hby) (by decide)
     ·intro j u hj;obtain⟨hlt,rfl⟩:=hnews j u hj;obtain⟨e,x,he,hx⟩:=hget j hlt;have:=hvv _ _ _ _ he hx;rw[Nat.add_assoc,hdm]at this;rw[za1];exact this
     ·intro u hu;obtain⟨j,hj⟩:=List.getElem?_of_mem hu;obtain⟨hlt,rfl⟩:=hnews j u hj;obtain⟨e,x,he,hx⟩:=hget j hlt;exact(hrr _ _ _ _ he hx).one
     ·rintro e w' ⟨v',rfl,ho,hb⟩;refine⟨_,rfl,⟨hb.os,hb.output⟩,hb.size,hb.block,?_⟩;rcases ho.2 with⟨rfl,h5⟩ | ⟨g,cp,cur,rfl,hg,hcur,hcp,_,hcs,htk⟩
      ·omega
      ·have hgl':g<w'.heap.size:=(Array.getElem?_eq_some_iff.1 hcur).1;refine(RepC.t (RepT.sl g 0 cp sz es vf h0 hcp (.inr ⟨hg,hgl'⟩) hs (fun i e j x he hx=> ?_) (fun i e j x he hx=> ?_))).toV
       ·have hil:=(zH.1 he).1;have hjl:=(zH.1 hx).1;rw[hs i e he]at hjl;have hq:i*sz+j<es.length*sz:=Nat.lt_of_lt_of_le (show i*sz+j<(i+1)*sz by rw[Nat.add_mul];omega) (Nat.mul_le_mul_right _ hil)
        have h6:((List.range (es.length*sz)).map fun q=>vf (q/ sz) (q % sz))[i*sz+j]? =some (vf i j):=by
         rw[zJ,List.getElem?_range hq,Option.map_some]
         congr 2
         ·rw[Nat.mul_comm,Nat.mul_add_div hsz,Nat.div_eq_of_lt hjl,Nat.add_zero]
         ·rw[Nat.mul_comm,Nat.mul_add_mod,Nat.mod_eq_of_lt hjl]
        rw[<- htk,List.getElem?_take]at h6;rw[if_pos hq,Array.getElem?_toList]at h6;simp only[World.cell?,hcur,Nat.zero_add,h6];rfl
       ·exact(hrr _ _ _ _ he hx).mono (fun r hr=>hb.block r (hA r hr)) (fun r hr=> .inl hr)
  ·cases h
end Rg
end

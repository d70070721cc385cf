/- Part of the proof of the laws of the package relyguardlaw36: an abstract machine for the program's functions, what they compute, and that the machine is the program's. No condition. (Fn2) -/
import Derived.Test.YtaiokglcgiemnaaGreatDoorPartAN
section
namespace Rg
open Go
def f203:F:=⟨33,true,[.s 6],(.seq (rF [o 6 (.mv (.c zn))]) (.seq (rF [oM 8 0,oM 9 1,oM 10 2,oM 11 0,oN 12 11,o 13 (.slice 2 (.s 8)
 (some (.s 9)) (some (.s 10)) (some (.s 12)))]) (.seq (.seq (rF [oM 14 1,oM 15 2,oC 16 .eql 14 15]) (.cond (.s 16) (.seq (rF [oM 17 0,oM 6
 17]) .ret) .skip)) (.seq (rF [oM 18 0,oN 19 18,oM 7 19]) (.seq (rT [oM 20 0,oM 21 1,o 22 (.slice 2 (.s 20) none (some (.s 21)) none),oM
 23 0,oM 24 2,o 25 (.slice 2 (.s 23) (some (.s 24)) none none),o 26 (.append 2 48 (.s 22) (.s 25)),oM 0 26]) (.seq (rF [oM 27 0,oM 28 0,
 oN 29 28,oM 30 7,o 31 (.slice 2 (.s 27) (some (.s 29)) (some (.s 30)) none),on (.clear 2 [zn,zn] (.s 31))]) (.seq (rF [oM 32 0,oM 6 32]) .ret)))))))⟩
def f205:F:=⟨90,false,[.s 4],(.seq (rF [oQ 2 4 0,oQ 3 2 1,oB 4 false]) (.seq (.seq (rF [oF 8 0 3,oL 9 8,oN 10 9,oD 11 .eql 10 0,
 oM 12 11,gF 12 false 13 0 3,gL 12 false 14 13,gN 12 false 15 14,gF 12 false 16 0 2,gL 12 false 17 16,gN 12 false 18 17,gC 12 false 19
 .gtr 15 18,oV 20 12 19,oM 21 20,gF 21 false 22 1 3,gL 21 false 23 22,gN 21 false 24 23,gF 21 false 25 0 3,gL 21 false 26 25,gN 21 false
 27 26,gC 21 false 28 .neq 24 27,oV 29 21 28]) (.cond (.s 29) (.seq (rF [oB 4 false]) .ret) .skip)) (.seq (.seq (rF [oF 30 0 3,oL 31 30,oN
 32 31,oI 33 0]) (.block 0 (.loop (.seq (rF [oC 34 .lss 33 32]) (.seq (.cond (.s 34) .skip (.exit 0)) (.seq (.block 1 (.seq (rF [oM 35 33,oA
 36 1 31 33,oR 37 36,oM 5 35,oM 6 37]) (.seq (.seq (rF [oM 38 6,oD 39 .lss 38 0,oM 40 39,gM 40 false 41 6,gF 40 false 42 0 2,gL 40 false
 43 42,gN 40 false 44 43,gC 40 false 45 .geq 41 44,oV 46 40 45,oM 47 46,gF 47 false 48 0 3,gL 47 false 49 48,gM 47 false 50 5,og 47 false
 51 (.slice 1 (.s 49) none (some (.s 50)) none),gM 47 false 52 6,og 47 false 53 (.call false (cf 206) [(.s 51),(.s 52)]),oV 54 47 53]) (.cond
 (.s 54) (.seq (rF [oB 4 false]) .ret) .skip)) (.seq (rF [oF 55 0 2,oL 56 55,oM 57 6,oA 58 6 56 57,oS 59 6 58,o 7 (.allocL [ze,zi,zi,zi,
 zb,zi]),oP 6 7 59]) (.seq (rT [oF 60 3 7,oL 61 60,oD 62 .neq 61 (-1),oM 63 62,gF 63 false 64 4 7,gL 63 false 65 64,gM 63 false 66 5,
 gD 63 false 67 .gtr 66 0,og 63 false 68 (.eqb true (.s 65) (.s 67)),oV 69 63 68,oM 70 69,gF 70 false 71 1 3,gL 70 false 72 71,gM 70 false
 73 5,gI 70 false 74 1 72 73,gR 70 false 75 74,gD 70 false 76 .lss 75 0,oV 77 70 76,oM 78 77,gF 78 false 79 1 3,gL 78 false 80 79,gM 78
 false 81 5,gI 78 false 82 1 80 81,gR 78 false 83 82,gF 78 false 84 1 7,gL 78 false 85 84,og 78 false 86 (.bin .shl (ci 1) (.s 85)),gC 78
 false 87 .geq 83 86,oV 88 78 87]) (.cond (.s 88) (.seq (rF [oB 4 false]) .ret) .skip)))))) (rF [oD 89 .add 33 1,oM 33 89]))))))) (.seq (rF [oB 4 true]) .ret))))⟩
def f206:F:=⟨9,false,[.s 4],(.seq (rF [oB 4 false]) (.seq (rF [oM 5 0,oM 6 1,o 7 (.call false (cf 207) [(.s 5),(.s 6)]),oD 8 .geq 7 0,oM 4 8]) .ret))⟩
def f207:F:=⟨19,false,[.s 4],(.seq (rF [oI 4 0]) (.seq (.seq (rF [oM 6 0,oN 7 6,oI 8 0]) (.block 0 (.loop (.seq (rF [oC 9 .lss 8 7])
 (.seq (.cond (.s 9) .skip (.exit 0)) (.seq (.block 1 (.seq (rF [oM 10 8,oM 5 10]) (.seq (rF [oM 11 1,oM 12 0,oM 13 5,oA 14 1 12 13,oR 15
 14,oC 16 .eql 11 15]) (.cond (.s 16) (.seq (rF [oM 17 5,oM 4 17]) .ret) .skip)))) (rF [oD 18 .add 8 1,oM 8 18]))))))) (.seq (rF [oI 4 (-1)]) .ret)))⟩
def f240:F:=⟨1,false,[],.ext .itoa⟩
def f259:F:=⟨1,false,[],.ext .joinS⟩
def f328:F:=⟨102,false,[.s 8],(.seq (rF [oQ 4 4 0,oB 8 false]) (.seq (rF [o 15 (.call false (cf 334) []),oM 9 15]) (.seq (.seq (rF [oK
 16 4 4,oM 17 1,oM 18 2,o 19 (.call false (cf 335) [(.s 16),(.s 17),(.s 18)]),oT 20 19,oM 21 20,gM 21 false 22 3,gN 21 false 23 22,gD
 21 false 24 .gtr 23 40,oV 25 21 24]) (.cond (.s 25) (.seq (rF [oM 26 9,oM 8 26]) .ret) .skip)) (.seq (rF [oF 27 3 4,oL 28 27,oM 29 1,oA
 30 7 28 29,oG 31 5 30,oR 32 31,oM 33 2,oA 34 6 32 33,oS 35 6 34,o 10 (.allocL [zi,zn,zi,zi,zi,zn]),oP 6 10 35]) (.seq (rF [oK 37
 4 4,oM 38 1,oM 39 2,o 40 (.call false (cf 336) [(.s 37),(.s 38),(.s 39)]),oM 36 40,oX 41 36 0,oX 42 36 1,oM 11 41,oM 12 42]) (.seq
 (rF [oK 44 4 4,oM 45 1,oM 46 2,o 47 (.call false (cf 337) [(.s 44),(.s 45),(.s 46)]),oM 43 47,oX 48 43 0,oX 49 43 1,oM 13 48,oM 14
 49]) (.seq (.seq (rF [oM 50 14,oD 51 .neq 50 0]) (.cond (.s 51) (.seq (rF [oM 52 9,oM 53 52,gM 53 true 54 12,gM 53 true 55 14,gC 53 true
 56 .eql 54 55,oW 57 53 56,oM 58 57,gM 58 true 59 11,gD 58 true 60 .eql 59 0,oW 61 58 60,oM 8 61]) .ret) .skip)) (.seq (.seq (rF [oM 62
 12,oD 63 .neq 62 0,oM 64 63,gM 64 false 65 11,gD 64 false 66 .lss 65 0,oV 67 64 66,oM 68 67,gM 68 false 69 11,gF 68 false 70 2 10,gF
 68 false 71 1 70,gL 68 false 72 71,og 68 false 73 (.call false (cf 33) [(.s 72)]),gC 68 false 74 .geq 69 73,oV 75 68 74]) (.cond (.s 75)
 (.seq (rF [oB 8 false]) .ret) .skip)) (.seq (rT [oM 76 9,oM 77 76,gF 77 true 78 3 4,gL 77 true 79 78,gM 77 true 80 1,gI 77 true 81 7 79
 80,gG 77 true 82 2 81,gR 77 true 83 82,gF 77 true 84 0 10,gL 77 true 85 84,gI 77 true 86 4 83 85,og 77 true 87 (.load true 4 (.s 86)),
 gM 77 true 88 3,gM 77 true 89 3,og 77 true 90 (.call false (cf 27) [(.s 87),(.s 88),(.s 89)]),gD 77 true 91 .neq 90 1,gM 77 true 92 91,
 gF 92 false 93 2 10,gK 92 false 94 4 93,gM 92 false 95 3,gM 92 false 96 3,og 92 false 97 (.call false (cf 27) [(.s 94),(.s 95),(.s 96)]),
 gM 92 false 98 11,gC 92 false 99 .leq 97 98,og 77 true 100 (.pick (.s 92) (cb true) (.s 99)),oW 101 77 100,oM 8 101]) .ret)))))))))⟩
def f334:F:=⟨75,false,[.s 0],(.seq (rF [oB 0 false]) (.seq (rF [o 12 (.call false (cf 347) [(cb false)]),o 1 (.allocL [zn,zn,zn,zn]),
 oP 4 1 12]) (.seq (rF [oK 14 4 1,o 15 (.call false (cf 336) [(.s 14),(ci 0),(ci 0)]),oM 13 15,oX 16 13 0,oX 17 13 1,oM 2 16,oM 3 17])
 (.seq (rF [oK 19 4 1,o 20 (.build [zi,zi,zi] [(1,1,(ci 0))]),o 21 (.build [zi,zi,zi] [(1,1,(ci 1))]),o 22 (.build [zi,zi,zi] [(1,
 1,(ci 0))]),o 23 (.build [zi,zi,zi] [(1,1,(ci 1))]),o 24 (.build [zi,zi,zi] [(1,1,(ci 2))]),o 25 (.bslice 3 5 [zi,zi,zi] [(0,(.s
 20)),(1,(.s 21)),(2,(.s 22)),(3,(.s 23)),(4,(.s 24))]),o 26 (.call false (cf 341) [(.s 19),(ci 0),(.s 25),(ci 0),(ci 0)]),oM 18
 26,oX 27 18 0,oX 28 18 1,oM 4 27,oM 5 28]) (.seq (rF [oK 30 4 1,o 31 (.call false (cf 343) [(.s 30),(ci 1),(ci 0),(ci 0),(ci 100)]),
 oM 29 31,oX 32 29 0,oX 33 29 1,oX 34 29 2,oM 6 32,oM 7 33,oM 8 34]) (.seq (rF [o 36 (.call false (cf 347) [(cb true)]),o 37 (.call false
 (cf 343) [(.s 36),(ci 0),(ci 0),(ci 0),(ci 100)]),oM 35 37,oX 38 35 0,oX 39 35 1,oX 40 35 2,oM 9 38,oM 10 39,oM 11 40]) (.seq (rF
 [oM 41 2,oD 42 .eql 41 2,oM 43 42,gM 43 true 44 3,gD 43 true 45 .eql 44 0,oW 46 43 45,oM 47 46,gM 47 true 48 4,gD 47 true 49 .eql 48
 2,oW 50 47 49,oM 51 50,gM 51 true 52 5,gD 51 true 53 .eql 52 0,oW 54 51 53,oM 55 54,gM 55 true 56 8,gD 55 true 57 .eql 56 4,oW 58 55
 57,oM 59 58,gM 59 true 60 11,gD 59 true 61 .eql 60 0,oW 62 59 61,oM 63 62,gM 63 true 64 9,gN 63 true 65 64,gD 63 true 66 .eql 65 0,oW
 67 63 66,oM 68 67,gM 68 true 69 10,og 68 true 70 (.build [zi,zi,zi] [(1,1,(ci 0))]),og 68 true 71 (.build [zi,zi,zi] [(1,1,(ci 1))]),
 og 68 true 72 (.bslice 3 2 [zi,zi,zi] [(0,(.s 70)),(1,(.s 71))]),og 68 true 73 (.call false (cf 40) [(.s 69),(.s 72)]),oW 74 68 73,oM 0 74]) .ret)))))))⟩
def f335:F:=⟨15,false,[.s 6],(.seq (rF [oQ 3 4 0,oB 6 false]) (.seq (rF [oK 7 4 3,o 8 (.call false (cf 9) [(.s 7)]),oM 9 8,gK 9 true
 10 4 3,gM 9 true 11 1,gM 9 true 12 2,og 9 true 13 (.call false (cf 348) [(.s 10),(.s 11),(.s 12)]),oW 14 9 13,oM 6 14]) .ret))⟩
def f336:F:=⟨135,false,[.s 6,.s 7],(.seq (rF [oQ 3 4 0,oI 6 0,oI 7 0]) (.seq (.seq (rF [oK 23 4 3,oM 24 1,oM 25 2,o 26 (.call false
 (cf 349) [(.s 23),(.s 24),(.s 25)]),oT 27 26]) (.cond (.s 27) (.seq (rF [oI 6 0,oI 7 1]) .ret) .skip)) (.seq (rF [oF 28 3 3,oL 29 28,oM
 30 1,oA 31 7 29 30,oS 32 7 31,o 8 (.allocL [ze,zi,zn,zn,zn,zn,zb]),oP 7 8 32]) (.seq (rF [oF 33 5 8,oL 34 33,oM 35 2,oA 36 6 34
 35,oS 37 6 36,o 9 (.allocL [zi,zn,zi,zi,zi,zn]),oP 6 9 37]) (.seq (rF [oF 39 2 8,oL 40 39,oF 41 0 9,oL 42 41,oA 43 4 40 42,oS 44
 4 43,o 45 (.call true (cf 60) [(.s 44)]),oM 38 45,oX 46 38 0,oX 47 38 1,oM 10 46,oM 11 47]) (.seq (rF [oF 49 2 9,oK 50 4 49,o 51 (.call
 true (cf 60) [(.s 50)]),oM 48 51,oX 52 48 0,oX 53 48 1,oM 12 52,oM 13 53]) (.seq (rF [oM 54 11,oM 55 13,o 56 (.bslice 1 2 [zn] [(0,(.s
 54)),(1,(.s 55))]),o 57 (.call true (cf 350) [(.s 56)]),oM 14 57]) (.seq (rF [oM 58 14,o 59 (.call true (cf 74) [(.s 58)])]) (.seq (rF [oM
 60 14,o 61 (.call true (cf 75) [(.s 60)]),oM 14 61]) (.seq (rF [oI 15 0]) (.seq (.seq (rF [oM 62 14,oN 63 62,oI 64 0]) (.block 0 (.loop (.seq
 (rF [oC 65 .lss 64 63]) (.seq (.cond (.s 65) .skip (.exit 0)) (.seq (.block 1 (.seq (rF [oA 66 1 62 64,oR 67 66,oM 17 67]) (rF [oM 68 15,oF
 69 0 3,oL 70 69,oM 71 17,oA 72 6 70 71,oG 73 1 72,oR 74 73,oC 75 .add 68 74,oM 15 75]))) (rF [oD 76 .add 64 1,oM 64 76]))))))) (.seq
 (.seq (rF [oM 77 15,oD 78 .gtr 77 12]) (.cond (.s 78) (.seq (rF [oI 6 0,oI 7 2]) .ret) .skip)) (.seq (rF [oI 18 0]) (.seq (rF [oF 79 0 3,oL
 80 79,oN 81 80,o 82 (.mkslice 1 8 [zi] (.s 81) (.s 81)),oM 19 82]) (.seq (.seq (rF [oM 83 15,o 84 (.bin .shl (ci 1) (.s 83)),oI 85 0]) (.block
 2 (.loop (.seq (rF [oC 86 .lss 85 84]) (.seq (.cond (.s 86) .skip (.exit 2)) (.seq (.block 3 (.seq (rF [oM 87 85,oM 20 87]) (.seq (.seq (rF
 [oM 88 14,oN 89 88,oI 90 0]) (.block 4 (.loop (.seq (rF [oC 91 .lss 90 89]) (.seq (.cond (.s 91) .skip (.exit 4)) (.seq (.block 5 (.seq (rF
 [oA 92 1 88 90,oR 93 92,oM 22 93]) (.seq (rF [oM 94 19,oM 95 22,oM 96 20,oF 97 0 3,oL 98 97,oM 99 22,oA 100 6 98 99,oG 101 1 100,oR
 102 101,o 103 (.bin .shl (ci 1) (.s 102)),oD 104 .sub 103 1,oC 105 .and 96 104,oA 106 1 94 95,oO 1 106 105]) (rF [oM 107 20,oF 108 0 3,
 oL 109 108,oM 110 22,oA 111 6 109 110,oG 112 1 111,oR 113 112,oC 114 .shr 107 113,oM 20 114])))) (rF [oD 115 .add 90 1,oM 90 115])))))))
 (.seq (rF [oF 116 2 8,oL 117 116,oF 118 0 9,oL 119 118,oA 120 4 117 119,oS 121 4 120,oM 122 19,oM 123 19,o 124 (.call false (cf 27) [(.s
 121),(.s 122),(.s 123)]),oD 125 .eql 124 1]) (.cond (.s 125) (rF [oM 126 18,oF 127 2 9,oK 128 4 127,oM 129 19,oM 130 19,o 131 (.call
 false (cf 27) [(.s 128),(.s 129),(.s 130)]),o 132 (.mx false (.s 126) (.s 131)),oM 18 132]) .skip))))) (rF [oD 133 .add 85 1,oM 85 133])))))))
 (.seq (rF [oM 134 18,oM 6 134,oI 7 0]) .ret))))))))))))))))⟩
def f337:F:=⟨123,false,[.s 6,.s 7],(.seq (rF [oQ 3 4 0,oI 6 0,oI 7 0]) (.seq (.seq (rF [oK 24 4 3,oM 25 1,oM 26 2,o 27 (.call false
 (cf 348) [(.s 24),(.s 25),(.s 26)]),oT 28 27]) (.cond (.s 28) (.seq (rF [oI 6 0,oI 7 1]) .ret) .skip)) (.seq (rF [oF 29 3 3,oL 30 29,oM
 31 1,oA 32 7 30 31,oG 33 5 32,oR 34 33,oM 35 2,oA 36 6 34 35,oS 37 6 36,o 8 (.allocL [zi,zn,zi,zi,zi,zn]),oP 6 8 37]) (.seq (rT
 [oF 38 3 3,oL 39 38,oM 40 1,oA 41 7 39 40,oG 42 2 41,oR 43 42,oF 44 0 8,oL 45 44,oA 46 4 43 45,oS 47 4 46,o 9 (.allocL [zi,zi,zi,
 zn]),oP 4 9 47]) (.seq (rF [oK 49 4 9,o 50 (.call false (cf 138) [(.s 49)]),oM 48 50,oX 51 48 0,oX 52 48 1,oM 10 51,oM 11 52]) (.seq (rF
 [oF 54 2 8,oK 55 4 54,o 56 (.call false (cf 138) [(.s 55)]),oM 53 56,oX 57 53 0,oX 58 53 1,oM 12 57,oM 13 58]) (.seq (rF [o 59 (.mkslice
 1 1 [zb] (ci 32) (ci 32)),oM 14 59]) (.seq (.seq (rF [oI 15 0]) (.block 0 (.loop (.seq (.seq (rF [oM 60 15,oM 61 11,oN 62 61,oC 63 .lss 60
 62]) (.cond (.s 63) .skip (.exit 0))) (.seq (.block 1 (rF [oM 66 14,oM 67 11,oM 68 15,oA 69 1 67 68,oR 70 69,oA 71 1 66 70,on (.store 1
 (.s 71) (cb true))])) (rF [oM 64 15,oD 65 .add 64 1,oM 15 65])))))) (.seq (.seq (rF [oI 16 0]) (.block 2 (.loop (.seq (.seq (rF [oM 72 16,
 oM 73 13,oN 74 73,oC 75 .lss 72 74]) (.cond (.s 75) .skip (.exit 2))) (.seq (.block 3 (rF [oM 78 14,oM 79 13,oM 80 16,oA 81 1 79 80,oR
 82 81,oA 83 1 78 82,on (.store 1 (.s 83) (cb true))])) (rF [oM 76 16,oD 77 .add 76 1,oM 16 77])))))) (.seq (rF [oM 84 14,o 85 (.call false
 (cf 159) [(.s 84)]),oM 17 85]) (.seq (rF [oF 87 0 3,oL 88 87,oM 89 17,o 90 (.call false (cf 351) [(.s 88),(.s 89)]),oM 86 90,oX 91 86
 0,oX 92 86 1,oM 18 91,oM 19 92]) (.seq (.seq (rF [oM 93 18,o 94 (.call false (cf 352) [(.s 93)]),oD 95 .gtr 94 12]) (.cond (.s 95) (.seq
 (rF [oI 6 0,oI 7 2]) .ret) .skip)) (.seq (rF [oM 96 17,oM 97 18,o 98 (.build [zn,zn,zn] [(0,1,(.s 96)),(1,1,(.s 97))]),o 20 (.allocL
 [zn,zn,zn]),oP 3 20 98]) (.seq (rF [oI 21 0]) (.seq (.seq (rF [oI 22 0]) (.block 4 (.loop (.seq (.seq (rF [oM 99 22,oM 100 18,o 101 (.call
 false (cf 352) [(.s 100)]),o 102 (.call false (cf 33) [(.s 101)]),oC 103 .lss 99 102]) (.cond (.s 103) .skip (.exit 4))) (.seq (.block 5 (.seq
 (rT [oK 106 3 20,oM 107 22,o 108 (.mkslice 1 8 [zi] (ci 32) (ci 32)),o 109 (.call true (cf 353) [(.s 106),(.s 107),(.s 108)]),oM 23 109])
 (.seq (rF [oK 110 4 9,oM 111 23,oM 112 23,o 113 (.call false (cf 90) [(.s 110),(.s 111),(.s 112)]),oD 114 .eql 113 1]) (.cond (.s 114)
 (rF [oM 115 21,oF 116 2 8,oK 117 4 116,oM 118 23,oM 119 23,o 120 (.call false (cf 90) [(.s 117),(.s 118),(.s 119)]),o 121 (.mx false
 (.s 115) (.s 120)),oM 21 121]) .skip)))) (rF [oM 104 22,oD 105 .add 104 1,oM 22 105])))))) (.seq (rF [oM 122 21,oM 6 122,oI 7 0]) .ret))))))))))))))))⟩
def f341:F:=⟨116,false,[.s 10,.s 11],(.seq (rF [oQ 5 4 0,oI 10 0,oI 11 0]) (.seq (.seq (rF [oK 21 4 5,oM 22 3,oM 23 4,o 24 (.call
 false (cf 349) [(.s 21),(.s 22),(.s 23)]),oT 25 24,oM 26 25,gM 26 false 27 1,og 26 false 28 (.call false (cf 358) [(.s 27)]),gT 26 false
 29 28,oV 30 26 29]) (.cond (.s 30) (.seq (rF [oI 10 0,oI 11 1]) .ret) .skip)) (.seq (.seq (rF [oM 31 2,oN 32 31,oD 33 .gtr 32 120]) (.cond
 (.s 33) (.seq (rF [oI 10 0,oI 11 2]) .ret) .skip)) (.seq (rF [oF 34 3 5,oL 35 34,oM 36 3,oA 37 7 35 36,oG 38 5 37,oR 39 38,oM 40 4,oA
 41 6 39 40,oS 42 6 41,o 12 (.allocL [zi,zn,zi,zi,zi,zn]),oP 6 12 42]) (.seq (rF [oK 43 4 5,o 44 (.call false (cf 12) [(.s 43)]),o 13
 (.allocL [zn,zn,zn]),oP 3 13 44]) (.seq (rF [oI 14 0,oI 15 0]) (.seq (.seq (rT [oF 45 1 13,oL 46 45,oM 47 3,oA 48 1 46 47,oR 49 48,oF
 50 0 12,oL 51 50,oC 52 .eql 49 51]) (.cond (.s 52) (rF [oI 15 1]) .skip)) (.seq (.seq (rF [oM 53 2,oN 54 53,oI 55 0]) (.block 0 (.loop (.seq
 (rF [oC 56 .lss 55 54]) (.seq (.cond (.s 56) .skip (.exit 0)) (.seq (.block 1 (.seq (rF [oA 57 3 53 55,oS 58 3 57,o 17 (.allocL [zi,zi,zi]),
 oP 3 17 58]) (.seq (rF [oK 60 4 5,oM 61 1,oK 62 3 13,oK 63 3 17,o 64 (.call false (cf 180) [(.s 60),(.s 61),(.s 62),(.s 63)]),oM 59 64,
 oX 65 59 0,oX 66 59 1,o 18 (.allocL [zn,zn,zn]),oP 3 18 65,oM 19 66]) (.seq (.seq (rF [oM 67 19,oD 68 .neq 67 0]) (.cond (.s 68) (.seq
 (rF [oI 10 0,oI 11 110]) .ret) .skip)) (.seq (rF [oF 69 0 17,oL 70 69,oM 71 3,oC 72 .eql 70 71,oM 73 72,gF 73 true 74 1 17,gL 73 true
 75 74,gD 73 true 76 .neq 75 (-1),oW 77 73 76,oM 78 77,gF 78 false 79 1 13,gL 78 false 80 79,gM 78 false 81 3,gI 78 false 82 1 80 81,gR
 78 false 83 82,gD 78 false 84 .eql 83 (-1),oV 85 78 84,oM 20 85]) (.seq (.block 2 (.seq (rT [oK 87 6 12,oF 88 1 18,oL 89 88,oM 90 3,oA
 91 1 89 90,oR 92 91,o 93 (.call false (cf 359) [(.s 87),(.s 92)]),oT 94 93,oM 86 94]) (.cond (.s 86) (rF [oI 15 0]) (.seq (rT [oM 96 20,
 oM 97 96,gF 97 true 98 1 18,gL 97 true 99 98,gM 97 true 100 3,gI 97 true 101 1 99 100,gR 97 true 102 101,gF 97 true 103 0 12,gL 97 true
 104 103,gC 97 true 105 .eql 102 104,oW 106 97 105,oM 95 106]) (.cond (.s 95) (rF [oM 107 15,oD 108 .add 107 1,oM 15 108]) .skip))))) (.seq
 (rF [oM 109 14,oM 110 15,oD 111 .sub 110 1,o 112 (.mx false (.s 109) (.s 111)),oM 14 112]) (rF [oK 113 3 18,oP 3 13 113])))))))) (rF [oD
 114 .add 55 1,oM 55 114]))))))) (.seq (rF [oM 115 14,oM 10 115,oI 11 0]) .ret)))))))))⟩
def f343:F:=⟨128,false,[.s 10,.s 11,.s 12],(.seq (rF [oQ 5 4 0,o 10 (.mv (.c zn)),o 11 (.mv (.c zn)),oI 12 0]) (.seq (.seq (rF [oK
 21 4 5,oM 22 2,oM 23 3,o 24 (.call false (cf 349) [(.s 21),(.s 22),(.s 23)]),oT 25 24,oM 26 25,gM 26 false 27 1,og 26 false 28 (.call
 false (cf 358) [(.s 27)]),gT 26 false 29 28,oV 30 26 29,oM 31 30,gM 31 false 32 4,gD 31 false 33 .lss 32 1,oV 34 31 33]) (.cond (.s 34)
 (.seq (rF [o 10 (.mv (.c zn)),o 11 (.mv (.c zn)),oI 12 1]) .ret) .skip)) (.seq (rF [oK 36 4 5,oM 37 1,oM 38 4,o 39 (.call false (cf 360)
 [(.s 36),(.s 37),(.s 38)]),oM 35 39,oX 40 35 0,oX 41 35 1,oM 13 40,oM 12 41]) (.seq (.seq (rF [oM 42 12,oD 43 .neq 42 0]) (.cond (.s
 43) (.seq (rF [oM 44 12,o 10 (.mv (.c zn)),o 11 (.mv (.c zn)),oM 12 44]) .ret) .skip)) (.seq (rF [oF 45 3 5,oL 46 45,oM 47 2,oA 48 7 46
 47,oG 49 5 48,oR 50 49,oM 51 3,oA 52 6 50 51,oS 53 6 52,o 14 (.allocL [zi,zn,zi,zi,zi,zn]),oP 6 14 53]) (.seq (rF [oK 54 4 5,oM
 55 1,oM 56 13,o 57 (.call true (cf 361) [(.s 54),(.s 55),(.s 56)]),oM 15 57]) (.seq (rF [oM 58 15,oM 59 2,o 60 (.nilchk (.s 58)),oG 61
 2 60,oO 1 61 59]) (.seq (.seq (rF [oM 62 13,oN 63 62,oI 64 0]) (.block 0 (.loop (.seq (rF [oC 65 .lss 64 63]) (.seq (.cond (.s 65) .skip (.exit
 0)) (.seq (.block 1 (.seq (rF [oA 66 3 62 64,oS 67 3 66,o 17 (.allocL [zn,zn,zn]),oP 3 17 67]) (rT [oM 68 15,oM 69 15,o 70 (.nilchk (.s
 69)),oG 71 1 70,oR 72 71,oK 73 6 14,oF 74 1 17,oL 75 74,oM 76 2,oA 77 1 75 76,oR 78 77,o 79 (.call false (cf 359) [(.s 73),(.s 78)]),
 o 80 (.bslice 1 1 [zb] [(0,(.s 79))]),o 81 (.append 1 1 (.s 72) (.s 80)),o 82 (.nilchk (.s 68)),oG 83 1 82,oO 1 83 81]))) (rF [oD 84 .add
 64 1,oM 64 84]))))))) (.seq (rF [oM 85 15,o 86 (.call true (cf 362) [(.s 85)]),oM 18 86]) (.seq (.seq (rF [oM 87 13,oN 88 87,oI 89 0]) (.block
 2 (.loop (.seq (rF [oC 90 .lss 89 88]) (.seq (.cond (.s 90) .skip (.exit 2)) (.seq (.block 3 (.seq (rF [oM 91 89,oA 92 3 87 89,oS 93 3 92,
 o 20 (.allocL [zn,zn,zn]),oM 19 91,oP 3 20 93]) (.seq (rT [oF 94 1 20,oL 95 94,oM 96 2,oA 97 1 95 96,oR 98 97,oF 99 0 14,oL 100 99,
 oC 101 .eql 98 100,oM 102 101,gM 102 true 103 18,gM 102 true 104 19,gI 102 true 105 1 103 104,gR 102 true 106 105,oW 107 102 106]) (.cond
 (.s 107) (.seq (rF [oM 108 15,oM 109 19,oM 110 13,oN 111 110,oM 112 15,o 113 (.mkfn 364 [(.s 112)] []),o 114 (.call true (cf 363) [(.s
 108),(ci 0),(.s 109),(.s 111),(.s 113)]),oM 115 15,oM 116 19,o 117 (.bin .mul (ci 2) (.s 116)),oM 118 19,o 119 (.bin .mul (ci 2) (.s
 118)),oD 120 .add 119 1,oM 121 13,oN 122 121,o 123 (.bin .mul (ci 2) (.s 122)),oM 124 15,o 125 (.mkfn 365 [(.s 124)] []),o 126 (.call
 true (cf 363) [(.s 115),(.s 117),(.s 120),(.s 123),(.s 125)]),oM 10 114,oM 11 126,oI 12 0]) .ret) .skip)))) (rF [oD 127 .add 89 1,oM
 89 127]))))))) (.seq (rF [o 10 (.mv (.c zn)),o 11 (.mv (.c zn)),oI 12 4]) .ret)))))))))))⟩
def f347:F:=⟨56,false,[.l 2 true 4],(.seq (rF [o 2 (.allocL [zn,zn,zn,zn])]) (.seq (rF [o 9 (.call false (cf 62) [(ci 0),(ci 2)]),
 o 3 (.allocL [zi,zi,zi,zn]),oP 4 3 9]) (.seq (rF [o 10 (.call false (cf 61) [(ci 2),(ci 2)]),o 4 (.allocL [zi,zi,zi,zn]),oP 4 4 10])
 (.seq (rF [o 11 (.call false (cf 61) [(ci 1),(ci 1)]),o 5 (.allocL [zi,zi,zi,zn]),oP 4 5 11]) (.seq (rT [oK 12 4 3,o 13 (.call false (cf
 61) [(ci 1),(ci 2)]),o 14 (.call false (cf 63) [(ci 8),(ci 2),(.s 12),(.s 13)]),o 6 (.allocL [zi,zi,zi,zn]),oP 4 6 14]) (.seq (.seq
 (rF [oM 15 0]) (.cond (.s 15) (rF [o 16 (.call false (cf 61) [(ci 0),(ci 2)]),oP 4 6 16]) .skip)) (.seq (rF [oK 17 4 3,oK 18 4 4,o 19 (.call
 false (cf 63) [(ci 13),(ci 1),(.s 17),(.s 18)]),o 7 (.allocL [zi,zi,zi,zn]),oP 4 7 19]) (.seq (rF [oK 20 4 7,oK 21 4 5,oK 22 4 5,o
 23 (.bslice 4 3 [zi,zi,zi,zn] [(0,(.s 20)),(1,(.s 21)),(2,(.s 22))]),o 24 (.bslice 1 3 [zi] [(0,(ci 0)),(1,(ci 0)),(2,(ci 0))]),
 o 25 (.build [ze,zi,zn,zn,zn,zn,zb] [(0,1,(.c (.t (.str (bs [116]))))),(1,1,(ci 3)),(2,1,(.s 23)),(3,1,(.s 24))]),o 8 (.allocL
 [ze,zi,zn,zn,zn,zn,zb]),oP 7 8 25]) (.seq (rT [oK 26 4 3,oK 27 4 4,o 28 (.call false (cf 63) [(ci 12),(ci 1),(.s 26),(.s 27)]),o
 29 (.build [zi,zi,zi,zi,zi,zi,zn,zn,zb,zi,zi] [(0,1,(ci 1)),(1,1,(ci 0)),(2,1,(ci 1)),(3,4,(.s 28))]),oK 30 4 5,oK 31
 4 6,o 32 (.build [zi,zi,zi,zi,zn] [(0,1,(ci 0)),(1,4,(.s 31))]),o 33 (.bslice 5 1 [zi,zi,zi,zi,zn] [(0,(.s 32))]),o 34 (.build
 [zi,zi,zi,zi,zi,zi,zn,zn,zb,zi,zi] [(0,1,(ci 1)),(1,1,(ci 1)),(2,1,(ci 0)),(3,4,(.s 30)),(7,1,(.s 33))]),oK 35 4 3,
 oK 36 4 4,o 37 (.call false (cf 63) [(ci 11),(ci 1),(.s 35),(.s 36)]),o 38 (.build [zi,zi,zi,zi,zi,zi,zn,zn,zb,zi,zi] [(0,1,
 (ci 1)),(1,1,(ci 0)),(2,1,(ci 2)),(3,4,(.s 37))]),o 39 (.bslice 11 3 [zi,zi,zi,zi,zi,zi,zn,zn,zb,zi,zi] [(0,(.s 29)),(1,
 (.s 34)),(2,(.s 38))]),oF 40 4 8,oP 1 40 39]) (.seq (rF [o 41 (.bslice 1 1 [zi] [(0,(ci 1))]),oK 42 4 4,oK 43 4 3,o 44 (.call false (cf
 63) [(ci 9),(ci 2),(.s 42),(.s 43)]),o 45 (.build [zi,zn,zi,zi,zi,zn] [(0,1,(ci 0)),(1,1,(.s 41)),(2,4,(.s 44))]),o 46 (.bslice
 6 1 [zi,zn,zi,zi,zi,zn] [(0,(.s 45))]),oF 47 5 8,oP 1 47 46]) (.seq (rF [o 48 (.build [ze,zi,zi,zi,zb,zi] [(0,1,(.c (.t (.str
 (bs [116,46,105]))))),(1,1,(ci 2)),(3,1,(ci 0))]),o 49 (.bslice 6 1 [ze,zi,zi,zi,zb,zi] [(0,(.s 48))]),oK 50 4 5,o 51 (.build
 [ze,ze,zi,zi,zi,zn,zi,zi,zi,zn,zn] [(0,1,(.c (.t (.str (bs [77]))))),(1,1,(.c (.t (.str (bs [111]))))),(6,4,(.s 50))]),o 52
 (.bslice 11 1 [ze,ze,zi,zi,zi,zn,zi,zi,zi,zn,zn] [(0,(.s 51))]),oK 53 7 8,o 54 (.bslice 7 1 [ze,zi,zn,zn,zn,zn,zb] [(0,(.s
 53))]),o 55 (.build [zn,zn,zn,zn] [(0,1,(.s 49)),(1,1,(.s 52)),(3,1,(.s 54))]),oP 4 2 55]) .ret)))))))))))⟩
def f348:F:=⟨35,false,[.s 6],(.seq (rF [oQ 3 4 0,oB 6 false]) (.seq (rF [oK 7 4 3,o 8 (.call false (cf 39) [(.s 7)]),oM 9 8,gM 9 true
 10 1,gD 9 true 11 .geq 10 0,oW 12 9 11,oM 13 12,gM 13 true 14 1,gF 13 true 15 3 3,gL 13 true 16 15,gN 13 true 17 16,gC 13 true 18 .lss
 14 17,oW 19 13 18,oM 20 19,gM 20 true 21 2,gD 20 true 22 .geq 21 0,oW 23 20 22,oM 24 23,gM 24 true 25 2,gF 24 true 26 3 3,gL 24 true
 27 26,gM 24 true 28 1,gI 24 true 29 7 27 28,gG 24 true 30 5 29,gR 24 true 31 30,gN 24 true 32 31,gC 24 true 33 .lss 25 32,oW 34 24 33,oM 6 34]) .ret))⟩
def f349:F:=⟨44,false,[.s 6],(.seq (rF [oQ 3 4 0,oB 6 false]) (.seq (rF [oK 11 4 3,o 12 (.call false (cf 64) [(.s 11)]),oM 10 12,oX
 13 10 0,oX 14 10 1,oX 15 10 2,oM 7 13,oM 8 14,oM 9 15]) (.seq (rF [oM 16 7,oD 17 .eql 16 0,oM 18 17,gM 18 true 19 1,gD 18 true 20 .geq
 19 0,oW 21 18 20,oM 22 21,gM 22 true 23 1,gF 22 true 24 3 3,gL 22 true 25 24,gN 22 true 26 25,gC 22 true 27 .lss 23 26,oW 28 22 27,oM
 29 28,gM 29 true 30 2,gD 29 true 31 .geq 30 0,oW 32 29 31,oM 33 32,gM 33 true 34 2,gF 33 true 35 3 3,gL 33 true 36 35,gM 33 true 37 1,
 gI 33 true 38 7 36 37,gG 33 true 39 5 38,gR 33 true 40 39,gN 33 true 41 40,gC 33 true 42 .lss 34 41,oW 43 33 42,oM 6 43]) .ret)))⟩
def f350:F:=⟨36,true,[.s 2],(.seq (rF [o 2 (.mv (.c zn))]) (.seq (rF [oI 3 0]) (.seq (.seq (rF [oM 9 0,oN 10 9,oI 11 0]) (.block 0 (.loop
 (.seq (rF [oC 12 .lss 11 10]) (.seq (.cond (.s 12) .skip (.exit 0)) (.seq (.block 1 (.seq (rF [oA 13 1 9 11,oR 14 13,oM 5 14]) (.seq (rF [oM
 15 3,oM 16 5,oN 17 16,oC 18 .add 15 17,oM 3 18]) (.seq (rF [oM 19 3,oD 20 .lss 19 0]) (.cond (.s 20) (rF [o 21 (.stop),on (.stop)]) .skip)))))
 (rF [oD 22 .add 11 1,oM 11 22]))))))) (.seq (rF [oM 23 3,o 24 (.call true (cf 368) [(.c zn),(.s 23)]),oM 6 24]) (.seq (.seq (rF [oM 25 0,
 oN 26 25,oI 27 0]) (.block 2 (.loop (.seq (rF [oC 28 .lss 27 26]) (.seq (.cond (.s 28) .skip (.exit 2)) (.seq (.block 3 (.seq (rF [oA 29 1 25
 27,oR 30 29,oM 8 30]) (rF [oM 31 6,oM 32 8,o 33 (.append 1 8 (.s 31) (.s 32)),oM 6 33]))) (rF [oD 34 .add 27 1,oM 27 34]))))))) (.seq (rF [oM 35 6,oM 2 35]) .ret))))))⟩
def f351:F:=⟨37,false,[.s 4,.s 5],(.seq (rF [o 4 (.mv (.c zn)),oB 5 false]) (.seq (.seq (rF [oM 8 1,oM 9 0,oN 10 9,o 11 (.mx true
 (.s 10) (ci 32)),o 12 (.call false (cf 369) [(.s 8),(.s 11)]),oT 13 12]) (.cond (.s 13) (.seq (rF [o 4 (.mv (.c zn)),oB 5 false]) .ret) .skip))
 (.seq (rF [o 14 (.bslice 1 0 [zi] []),oM 6 14]) (.seq (.seq (rF [oI 7 0]) (.block 0 (.loop (.seq (.seq (rF [oM 15 7,oM 16 1,oN 17 16,oC 18
 .lss 15 17]) (.cond (.s 18) .skip (.exit 0))) (.seq (.block 1 (rF [oM 21 6,oM 22 0,oM 23 1,oM 24 7,oA 25 1 23 24,oR 26 25,oA 27 6 22 26,
 oG 28 1 27,oR 29 28,o 30 (.bslice 1 1 [zi] [(0,(.s 29))]),o 31 (.append 1 8 (.s 21) (.s 30)),oM 6 31])) (rF [oM 19 7,oD 20 .add 19 1,oM
 7 20])))))) (.seq (rF [oM 32 6,oM 33 1,oM 34 6,o 35 (.call false (cf 370) [(.s 33),(.s 34),(ci 256)]),oD 36 .geq 35 0,oM 4 32,oM 5 36]) .ret)))))⟩
def f352:F:=⟨18,false,[.s 2],(.seq (rF [oI 2 0]) (.seq (rF [oI 3 0]) (.seq (.seq (rF [oI 4 0]) (.block 0 (.loop (.seq (.seq (rF [oM 5
 4,oM 6 0,oN 7 6,oC 8 .lss 5 7]) (.cond (.s 8) .skip (.exit 0))) (.seq (.block 1 (rF [oM 11 3,oM 12 0,oM 13 4,oA 14 1 12 13,oR 15 14,oC
 16 .add 11 15,oM 3 16])) (rF [oM 9 4,oD 10 .add 9 1,oM 4 10])))))) (.seq (rF [oM 17 3,oM 2 17]) .ret))))⟩
def f353:F:=⟨62,true,[.s 6],(.seq (rF [oQ 3 3 0,o 6 (.mv (.c zn))]) (.seq (rF [o 10 (.bslice 1 0 [zi] []),oM 11 2,o 12 (.append 1 8
 (.s 10) (.s 11)),oM 7 12]) (.seq (.seq (rF [oF 13 0 3,oL 14 13,oF 15 1 3,oL 16 15,o 17 (.call false (cf 370) [(.s 14),(.s 16),(ci 12)]),
 oD 18 .lss 17 0]) (.cond (.s 18) (.seq (rF [oM 19 7,oM 6 19]) .ret) .skip)) (.seq (rF [oM 20 1,oF 21 1 3,oL 22 21,o 23 (.call false (cf 352)
 [(.s 22)]),o 24 (.call false (cf 33) [(.s 23)]),oD 25 .sub 24 1,oC 26 .and 20 25,oM 1 26]) (.seq (.seq (rF [oI 8 0]) (.block 0 (.loop (.seq
 (.seq (rF [oM 27 8,oF 28 0 3,oL 29 28,oN 30 29,oC 31 .lss 27 30]) (.cond (.s 31) .skip (.exit 0))) (.seq (.block 1 (.seq (rF [oF 34 1 3,
 oL 35 34,oM 36 8,oA 37 1 35 36,oR 38 37,o 39 (.call false (cf 33) [(.s 38)]),oM 9 39]) (.seq (.seq (rF [oF 40 0 3,oL 41 40,oM 42 8,oA
 43 1 41 42,oR 44 43,oM 45 7,oN 46 45,oC 47 .lss 44 46]) (.cond (.s 47) (rT [oM 48 7,oF 49 0 3,oL 50 49,oM 51 8,oA 52 1 50 51,oR 53 52,
 oM 54 1,oM 55 9,oC 56 .rem 54 55,oA 57 1 48 53,oO 1 57 56]) .skip)) (rF [oM 58 1,oM 59 9,oC 60 .quo 58 59,oM 1 60])))) (rF [oM 32 8,oD
 33 .add 32 1,oM 8 33])))))) (.seq (rF [oM 61 7,oM 6 61]) .ret))))))⟩
def f358:F:=⟨13,false,[.s 2],(.seq (rF [oB 2 false]) (.seq (rF [oM 3 0,oD 4 .eql 3 0,oM 5 4,gM 5 false 6 0,gD 5 false 7 .eql 6 1,
 oV 8 5 7,oM 9 8,gM 9 false 10 0,gD 9 false 11 .eql 10 2,oV 12 9 11,oM 2 12]) .ret))⟩
def f359:F:=⟨15,false,[.s 4],(.seq (rF [oQ 2 6 0,oB 4 false]) (.seq (rF [oM 5 1,oF 6 0 2,oL 7 6,oC 8 .eql 5 7,oM 9 8,gF 9 false
 10 1 2,gL 9 false 11 10,gM 9 false 12 1,og 9 false 13 (.call false (cf 206) [(.s 11),(.s 12)]),oV 14 9 13,oM 4 14]) .ret))⟩
def f360:F:=⟨32,false,[.s 6,.s 7],(.seq (rF [oQ 3 4 0,o 6 (.mv (.c zn)),oI 7 0]) (.seq (.seq (rF [oK 12 4 3,oM 13 1,oM 14 2,o 15
 (.call false (cf 374) [(.s 12),(.s 13),(.s 14)]),oT 16 15]) (.cond (.s 16) (.seq (rF [o 6 (.mv (.c zn)),oI 7 1]) .ret) .skip)) (.seq (rF
 [o 8 (.allocH [zn])]) (.seq (rF [oK 17 4 3,oM 18 1,o 19 (.build [zn,zn,zn,zn,zi,zn] [(0,4,(.s 17)),(4,1,(.s 18))]),o 20 (.boxH 6
 (.s 19)),oM 9 20]) (.seq (rF [oM 22 9,oM 23 2,o 24 (.mkfn 376 [] [(.s 8)]),o 25 (.call true (cf 375) [(.s 22),(.s 23),(.s 24)]),oM 21
 25,oX 26 21 0,oX 27 21 1,oM 10 26,oM 11 27]) (.seq (.seq (rF [oM 28 11,oD 29 .eql 28 2]) (.cond (.s 29) (.seq (rF [oM 30 11,o 6 (.mv (.c
 zn)),oM 7 30]) .ret) .skip)) (.seq (rF [oR 31 8,oM 6 31,oI 7 0]) .ret)))))))⟩
def f361:F:=⟨94,true,[.s 6],(.seq (rF [oQ 3 4 0,o 6 (.mv (.c (.t .nilp)))]) (.seq (rF [o 19 (.mkmap),oM 7 19]) (.seq (.seq (rF [oM 20
 2,oN 21 20,oI 22 0]) (.block 0 (.loop (.seq (rF [oC 23 .lss 22 21]) (.seq (.cond (.s 23) .skip (.exit 0)) (.seq (.block 1 (.seq (rF [oM 24
 22,oA 25 3 20 22,oS 26 3 25,o 9 (.allocL [zn,zn,zn]),oM 8 24,oP 3 9 26]) (rF [oM 27 7,oK 28 3 9,o 29 (.call false (cf 377) [(.s 28)]),
 oM 30 8,on (.mapupd 2 (.s 27) (.s 29) (.s 30))]))) (rF [oD 31 .add 22 1,oM 22 31]))))))) (.seq (rF [oM 32 2,oN 33 32,o 34 (.mkslice 1 24
 [zn] (.s 33) (.s 33)),o 35 (.build [zn,zn,zi] [(0,1,(.s 34))]),o 36 (.boxH 3 (.s 35)),oM 10 36]) (.seq (.seq (rF [oM 37 2,oN 38 37,oI
 39 0]) (.block 2 (.loop (.seq (rF [oC 40 .lss 39 38]) (.seq (.cond (.s 40) .skip (.exit 2)) (.seq (.block 3 (.seq (rF [oM 41 39,oA 42 3 37 39,
 oS 43 3 42,o 12 (.allocL [zn,zn,zn]),oM 11 41,oP 3 12 43]) (.seq (rF [oK 44 4 3,oM 45 1,oK 46 3 12,o 47 (.call false (cf 179) [(.s 44),
 (.s 45),(.s 46)]),oN 48 47,oI 49 0]) (.block 4 (.loop (.seq (rF [oC 50 .lss 49 48]) (.seq (.cond (.s 50) .skip (.exit 4)) (.seq (.block 5
 (.seq (rF [oA 51 3 47 49,oS 52 3 51,o 14 (.allocL [zi,zi,zi]),oP 3 14 52]) (.seq (rF [oK 54 4 3,oM 55 1,oK 56 3 12,oK 57 3 14,o 58 (.call
 false (cf 180) [(.s 54),(.s 55),(.s 56),(.s 57)]),oM 53 58,oX 59 53 0,oX 60 53 1,o 15 (.allocL [zn,zn,zn]),oP 3 15 59,oM 16 60]) (.seq
 (rF [oM 62 7,oK 63 3 15,o 64 (.call false (cf 377) [(.s 63)]),o 65 (.lookup 2 zi true (.s 62) (.s 64)),oM 61 65,oX 66 61 0,oX 67 61 1,
 oM 17 66,oM 18 67]) (.seq (rF [oM 68 18,oM 69 68,gM 69 true 70 16,gD 69 true 71 .eql 70 0,oW 72 69 71]) (.cond (.s 72) (.regionD [(1,16),
 (2,16),(3,16)] [oM 73 10,o 74 (.nilchk (.s 73)),oG 75 0 74,oR 76 75,oM 77 11,oM 78 10,o 79 (.nilchk (.s 78)),oG 80 0 79,oR 81 80,
 oM 82 11,oA 83 1 81 82,oR 84 83,oM 85 17,oK 86 3 14,o 87 (.build [zi,zi,zi,zi] [(0,1,(.s 85)),(1,3,(.s 86))]),o 88 (.bslice 4 1
 [zi,zi,zi,zi] [(0,(.s 87))]),o 89 (.append 4 32 (.s 84) (.s 88)),oA 90 1 76 77,oO 1 90 89]) .skip)))))) (rF [oD 91 .add 49 1,oM 49 91])))))))))
 (rF [oD 92 .add 39 1,oM 39 92]))))))) (.seq (rF [oM 93 10,oM 6 93]) .ret))))))⟩
def f362:F:=⟨82,true,[.s 2],(.seq (rF [o 2 (.mv (.c zn))]) (.seq (rF [oM 11 0,o 12 (.call true (cf 378) [(.s 11)]),oM 3 12]) (.seq (rF
 [o 13 (.mkmap),oM 4 13]) (.seq (.seq (rF [oM 14 0,o 15 (.nilchk (.s 14)),oG 16 0 15,oR 17 16,oN 18 17,oI 19 0]) (.block 0 (.loop (.seq
 (rF [oC 20 .lss 19 18]) (.seq (.cond (.s 20) .skip (.exit 0)) (.seq (.block 1 (.seq (rF [oM 21 19,oA 22 1 17 19,oR 23 22,oM 5 21,oM 6 23])
 (.seq (rF [oM 24 6,oN 25 24,oI 26 0]) (.block 2 (.loop (.seq (rF [oC 27 .lss 26 25]) (.seq (.cond (.s 27) .skip (.exit 2)) (.seq (.block 3
 (.seq (rF [oA 28 4 24 26,oS 29 4 28,o 8 (.allocL [zi,zi,zi,zi]),oP 4 8 29]) (.seq (rT [oM 30 3,oM 31 5,oA 32 1 30 31,oR 33 32,oD 34
 .neq 33 (-1),oM 35 34,gM 35 true 36 3,gM 35 true 37 5,gI 35 true 38 1 36 37,gR 35 true 39 38,gM 35 true 40 3,gF 35 true 41 0 8,gL 35
 true 42 41,gI 35 true 43 1 40 42,gR 35 true 44 43,gC 35 true 45 .eql 39 44,oW 46 35 45,oM 47 46,gM 47 true 48 0,gF 47 true 49 1 8,gK
 47 true 50 3 49,og 47 true 51 (.call true (cf 379) [(.s 48),(.s 50)]),oW 52 47 51]) (.cond (.s 52) (rF [oM 53 4,oM 54 3,oM 55 5,oA 56 1
 54 55,oR 57 56,on (.mapupd 0 (.s 53) (.s 57) (cb true))]) .skip)))) (rF [oD 58 .add 26 1,oM 26 58]))))))))) (rF [oD 59 .add 19 1,oM 19 59])))))))
 (.seq (rF [oM 60 0,o 61 (.nilchk (.s 60)),oG 62 0 61,oR 63 62,oN 64 63,o 65 (.mkslice 1 1 [zb] (.s 64) (.s 64)),oM 9 65]) (.seq (.seq (rF
 [oM 66 9,oN 67 66,oI 68 0]) (.block 4 (.loop (.seq (rF [oC 69 .lss 68 67]) (.seq (.cond (.s 69) .skip (.exit 4)) (.seq (.block 5 (.seq (rF
 [oM 70 68,oM 10 70]) (rF [oM 71 9,oM 72 10,oM 73 4,oM 74 3,oM 75 10,oA 76 1 74 75,oR 77 76,o 78 (.lookup 0 zb false (.s 73) (.s 77)),
 oA 79 1 71 72,oO 1 79 78]))) (rF [oD 80 .add 68 1,oM 68 80]))))))) (.seq (rF [oM 81 9,oM 2 81]) .ret)))))))⟩
def f363:F:=⟨94,true,[.s 10],(.seq (rF [o 10 (.mv (.c zn))]) (.seq (rT [oM 19 3,o 20 (.mkslice 1 8 [zi] (.s 19) (.s 19)),oM 21 3,o
 22 (.mkslice 3 24 [zi,zi,zi] (.s 21) (.s 21)),o 11 (.allocH [zn]),o 12 (.allocH [zn]),oO 1 11 20,oO 1 12 22]) (.seq (.seq (rF [oM 23 3,
 oI 24 0]) (.block 0 (.loop (.seq (rF [oC 25 .lss 24 23]) (.seq (.cond (.s 25) .skip (.exit 0)) (.seq (.block 1 (.seq (rF [oM 26 24,oM 13 26])
 (rF [oR 27 11,oM 28 13,oA 29 1 27 28,on (.store 1 (.s 29) (ci (-1)))]))) (rF [oD 30 .add 24 1,oM 24 30]))))))) (.seq (rF [oR 31 11,oM 32
 1,oM 33 1,oA 34 1 31 32,oO 1 34 33]) (.seq (rF [oM 35 1,o 36 (.bslice 1 1 [zi] [(0,(.s 35))]),oM 14 36]) (.seq (.seq (rF [oI 15 0]) (.block
 2 (.loop (.seq (.seq (rF [oM 37 15,oM 38 14,oN 39 38,oC 40 .lss 37 39,oM 41 40,gR 41 true 42 11,gM 41 true 43 2,gI 41 true 44 1 42 43,
 gR 41 true 45 44,gD 41 true 46 .eql 45 (-1),oW 47 41 46]) (.cond (.s 47) .skip (.exit 2))) (.seq (.block 3 (.seq (rF [oM 50 4,oM 51 14,oM
 52 15,oA 53 1 51 52,oR 54 53,o 55 (.call true (.s 50) [(.s 54)]),oN 56 55,oI 57 0]) (.block 4 (.loop (.seq (rF [oC 58 .lss 57 56]) (.seq
 (.cond (.s 58) .skip (.exit 4)) (.seq (.block 5 (.seq (rF [oA 59 4 55 57,oS 60 4 59,o 17 (.allocL [zi,zi,zi,zi]),oP 4 17 60]) (.seq (rF
 [oR 61 11,oF 62 0 17,oL 63 62,oA 64 1 61 63,oR 65 64,oD 66 .eql 65 (-1)]) (.cond (.s 66) (.seq (.regionD [(3,13)] [oR 67 11,oF 68 0 17,
 oL 69 68,oR 70 12,oF 71 0 17,oL 72 71,oM 73 14,oM 74 15,oA 75 1 73 74,oR 76 75,oF 77 1 17,oK 78 3 77,oA 79 1 67 69,oO 1 79 76,oA
 80 3 70 72,oO 3 80 78]) (rF [oM 81 14,oF 82 0 17,oL 83 82,o 84 (.bslice 1 1 [zi] [(0,(.s 83))]),o 85 (.append 1 8 (.s 81) (.s 84)),oM
 14 85])) .skip)))) (rF [oD 86 .add 57 1,oM 57 86])))))))) (rF [oM 48 15,oD 49 .add 48 1,oM 15 49])))))) (.seq (rF [o 87 (.mkfn 380 [] [(.s
 11)]),o 88 (.mkfn 381 [] [(.s 12)]),o 89 (.build [(.t .nilf),(.t .nilf)] [(0,1,(.s 87)),(1,1,(.s 88))]),o 18 (.allocL [(.t .nilf),(.t
 .nilf)]),oP 2 18 89]) (.seq (rF [oK 90 2 18,oM 91 1,oM 92 2,o 93 (.call true (cf 382) [(.s 90),(.s 91),(.s 92)]),oM 10 93]) .ret))))))))⟩
def f364:F:=⟨12,true,[.s 4],(.seq (rF [o 4 (.mv (.c zn))]) (.seq (rF [oM 5 0,o 6 (.nilchk (.s 5)),oG 7 0 6,oR 8 7,oM 9 1,oA 10 1 8 9,oR 11 10,oM 4 11]) .ret))⟩
def f365:F:=⟨49,true,[.s 4],(.seq (rF [o 4 (.mv (.c zn))]) (.seq (rF [o 5 (.mv (.c zn))]) (.seq (.seq (rF [oM 9 0,o 10 (.nilchk (.s 9)),
 oG 11 0 10,oR 12 11,oM 13 1,oD 14 .quo 13 2,oA 15 1 12 14,oR 16 15,oN 17 16,oI 18 0]) (.block 0 (.loop (.seq (rF [oC 19 .lss 18 17]) (.seq
 (.cond (.s 19) .skip (.exit 0)) (.seq (.block 1 (.seq (rF [oA 20 4 16 18,oS 21 4 20,o 7 (.allocL [zi,zi,zi,zi]),oP 4 7 21]) (.seq (rF [oM
 22 1,oD 23 .rem 22 2,oM 8 23]) (.seq (.seq (rF [oM 24 0,oF 25 1 7,oK 26 3 25,o 27 (.call true (cf 379) [(.s 24),(.s 26)])]) (.cond (.s
 27) (rF [oI 8 1]) .skip)) (.seq (rT [oM 28 0,o 29 (.nilchk (.s 28)),oG 30 1 29,oR 31 30,oF 32 0 7,oL 33 32,oA 34 1 31 33,oR 35 34]) (.cond
 (.s 35) (rF [oM 36 5,oF 37 0 7,oL 38 37,o 39 (.bin .mul (ci 2) (.s 38)),oM 40 8,oC 41 .add 39 40,oF 42 1 7,oK 43 3 42,o 44 (.build [zi,
 zi,zi,zi] [(0,1,(.s 41)),(1,3,(.s 43))]),o 45 (.bslice 4 1 [zi,zi,zi,zi] [(0,(.s 44))]),o 46 (.append 4 32 (.s 36) (.s 45)),oM
 5 46]) .skip)))))) (rF [oD 47 .add 18 1,oM 18 47]))))))) (.seq (rF [oM 48 5,oM 4 48]) .ret))))⟩
def f368:F:=⟨27,true,[.s 4],(.seq (rF [o 4 (.mv (.c zn))]) (.seq (.seq (rF [oM 5 1,oD 6 .lss 5 0]) (.cond (.s 6) (rF [o 7 (.stop),on
 (.stop)]) .skip)) (.seq (.seq (rF [oM 8 1,oM 9 0,o 10 (.capN (.s 9)),oM 11 0,oN 12 11,oC 13 .sub 10 12,oC 14 .sub 8 13,oM 1 14]) (.seq
 (rF [oM 15 1,oD 16 .gtr 15 0]) (.cond (.s 16) (rF [oM 17 0,oM 18 0,o 19 (.capN (.s 18)),o 20 (.slice 1 (.s 17) none (some (.s 19)) none),
 oM 21 1,o 22 (.appz 1 8 [zi] (.s 20) (.s 21)),oM 23 0,oN 24 23,o 25 (.slice 1 (.s 22) none (some (.s 24)) none),oM 0 25]) .skip))) (.seq (rF [oM 26 0,oM 4 26]) .ret))))⟩
def f369:F:=⟨41,false,[.s 4],(.seq (rF [oB 4 false]) (.seq (.seq (rF [oI 5 0]) (.block 0 (.loop (.seq (.seq (rF [oM 6 5,oM 7 0,oN 8
 7,oC 9 .lss 6 8]) (.cond (.s 9) .skip (.exit 0))) (.seq (.block 1 (.seq (rT [oM 12 0,oM 13 5,oA 14 1 12 13,oR 15 14,oD 16 .lss 15 0,oM
 17 16,gM 17 false 18 0,gM 17 false 19 5,gI 17 false 20 1 18 19,gR 17 false 21 20,gM 17 false 22 1,gC 17 false 23 .geq 21 22,oV 24 17 23,
 oM 25 24,gM 25 false 26 5,gD 25 false 27 .gtr 26 0,gM 25 false 28 27,gM 28 true 29 0,gM 28 true 30 5,gI 28 true 31 1 29 30,gR 28 true
 32 31,gM 28 true 33 0,gM 28 true 34 5,gD 28 true 35 .sub 34 1,gI 28 true 36 1 33 35,gR 28 true 37 36,gC 28 true 38 .leq 32 37,og 25 false
 39 (.pick (.s 28) (.s 38) (cb false)),oV 40 25 39]) (.cond (.s 40) (.seq (rF [oB 4 false]) .ret) .skip))) (rF [oM 10 5,oD 11 .add 10 1,oM
 5 11])))))) (.seq (rF [oB 4 true]) .ret)))⟩
def f370:F:=⟨77,false,[.s 6],(.seq (rF [oI 6 0]) (.seq (.seq (rF [oM 9 0,oN 10 9,oM 11 1,oN 12 11,oC 13 .neq 10 12,oM 14 13,gM 14
 false 15 0,gN 14 false 16 15,gD 14 false 17 .gtr 16 32,oV 18 14 17]) (.cond (.s 18) (.seq (rF [oI 6 (-1)]) .ret) .skip)) (.seq (rF [oI 7 0])
 (.seq (.seq (rF [oI 8 0]) (.block 0 (.loop (.seq (.seq (rF [oM 19 8,oM 20 0,oN 21 20,oC 22 .lss 19 21]) (.cond (.s 22) .skip (.exit 0))) (.seq
 (.block 1 (.seq (.seq (rT [oM 25 0,oM 26 8,oA 27 1 25 26,oR 28 27,oD 29 .lss 28 0,oM 30 29,gM 30 false 31 0,gM 30 false 32 8,gI 30 false
 33 1 31 32,gR 30 false 34 33,gD 30 false 35 .geq 34 32,oV 36 30 35,oM 37 36,gM 37 false 38 8,gD 37 false 39 .gtr 38 0,gM 37 false 40 39,
 gM 40 true 41 0,gM 40 true 42 8,gI 40 true 43 1 41 42,gR 40 true 44 43,gM 40 true 45 0,gM 40 true 46 8,gD 40 true 47 .sub 46 1,gI 40 true
 48 1 45 47,gR 40 true 49 48,gC 40 true 50 .leq 44 49,og 37 false 51 (.pick (.s 40) (.s 50) (cb false)),oV 52 37 51,oM 53 52,gM 53 false
 54 1,gM 53 false 55 8,gI 53 false 56 1 54 55,gR 53 false 57 56,gD 53 false 58 .lss 57 1,oV 59 53 58,oM 60 59,gM 60 false 61 1,gM 60 false
 62 8,gI 60 false 63 1 61 62,gR 60 false 64 63,gD 60 false 65 .gtr 64 8,oV 66 60 65]) (.cond (.s 66) (.seq (rF [oI 6 (-1)]) .ret) .skip))
 (rF [oM 67 7,oM 68 1,oM 69 8,oA 70 1 68 69,oR 71 70,oC 72 .add 67 71,oM 7 72]))) (rF [oM 23 8,oD 24 .add 23 1,oM 8 24])))))) (.seq (.seq
 (rF [oM 73 7,oM 74 2,oC 75 .gtr 73 74]) (.cond (.s 75) (.seq (rF [oI 6 (-1)]) .ret) .skip)) (.seq (rF [oM 76 7,oM 6 76]) .ret))))))⟩
def f374:F:=⟨27,false,[.s 6],(.seq (rF [oQ 3 4 0,oB 6 false]) (.seq (.seq (rF [oM 7 1,oD 8 .neq 7 0,oM 9 8,gM 9 true 10 1,gD 9 true
 11 .neq 10 1,oW 12 9 11,oM 13 12,gM 13 true 14 1,gD 13 true 15 .neq 14 2,oW 16 13 15]) (.cond (.s 16) (.seq (rF [oB 6 false]) .ret) .skip))
 (.seq (rF [oM 17 2,oD 18 .geq 17 1,oM 19 18,gM 19 true 20 2,gD 19 true 21 .leq 20 20000,oW 22 19 21,oM 23 22,gK 23 true 24 4 3,og 23
 true 25 (.call false (cf 385) [(.s 24)]),oW 26 23 25,oM 6 26]) .ret)))⟩
def b375_0:C:=(.round (rF [oM 8 11]) (.block 1 (.seq (.seq (rF [oM 12 8,oR 13 4,oC 14 .eql 12 13]) (.cond (.s 14) (.seq (rF [on (.store
 1 (.s 6) (ci 0)),on (.store 1 (.s 7) (ci 2))]) .ret) .skip)) (.seq (rT [oR 15 5,oR 16 3,o 17 (.nilchk (.s 16)),oG 18 5 17,oR 19 18,oM 20
 8,oA 21 7 19 20,oG 22 0 21,oS 23 3 22,o 24 (.call true (.s 15) [(.s 23)])]) (.cond (.s 24) (.seq (rF [oM 25 8,oO 1 6 25,on (.store 1 (.s 7) (ci 0))]) .ret) .skip)))))
def f375:F:=⟨26,true,[.h 6 false 1,.h 7 false 1],(.seq (rF [o 3 (.boxH 1 (.s 0)),o 4 (.boxH 1 (.s 1)),o 5 (.boxH 1 (.s 2)),o 6 (.allocH
 [zi]),o 7 (.allocH [zi])]) (.seq (.seq (rF [oR 9 3,o 10 (.call true (cf 386) [(.s 9)])]) (.block 0 (.rangeF (.s 10) [11] b375_0))) (.seq (rF
 [on (.store 1 (.s 6) (ci 0)),on (.store 1 (.s 7) (ci 4))]) .ret)))⟩
def f376:F:=⟨8,true,[.s 3],(.seq (rF [oQ 2 3 0,oB 3 false]) (.seq (rF [oR 4 1,oK 5 3 2,o 6 (.bslice 3 1 [zn,zn,zn] [(0,(.s 5))]),
 o 7 (.append 3 72 (.s 4) (.s 6)),oO 1 1 7]) (.seq (rF [oB 3 false]) .ret)))⟩
def f377:F:=⟨46,false,[.s 2],(.seq (rF [oQ 1 3 0,o 2 (.mv (.c ze))]) (.seq (rF [o 3 (.allocH [zn])]) (.seq (rF [o 9 (.mkfn 387 [] [(.s
 3)]),oM 4 9]) (.seq (rF [oM 10 4,oF 11 0 1,oL 12 11,o 13 (.call true (.s 10) [(.s 12)])]) (.seq (rF [oM 14 4,oF 15 1 1,oL 16 15,o 17 (.call
 true (.s 14) [(.s 16)])]) (.seq (.seq (rF [oF 18 2 1,oL 19 18,oN 20 19,oI 21 0]) (.block 0 (.loop (.seq (rF [oC 22 .lss 21 20]) (.seq (.cond
 (.s 22) .skip (.exit 0)) (.seq (.block 1 (.seq (rF [oA 23 1 19 21,oR 24 23,oM 6 24]) (.seq (.seq (rF [oM 25 6,oN 26 25,oI 27 0]) (.block
 2 (.loop (.seq (rF [oC 28 .lss 27 26]) (.seq (.cond (.s 28) .skip (.exit 2)) (.seq (.block 3 (.seq (rF [oA 29 2 25 27,oS 30 2 29,o 8 (.allocL
 [zn,zn]),oP 2 8 30]) (.seq (rF [oM 31 4,oF 32 0 8,oL 33 32,o 34 (.call true (.s 31) [(.s 33)])]) (rF [oM 35 4,oF 36 1 8,oL 37 36,o 38
 (.call true (.s 35) [(.s 37)])])))) (rF [oD 39 .add 27 1,oM 27 39]))))))) (rF [oR 40 3,o 41 (.bslice 1 1 [ze] [(0,(.c (.t (.str (bs [47])))))]),
 o 42 (.append 1 16 (.s 40) (.s 41)),oO 1 3 42])))) (rF [oD 43 .add 21 1,oM 21 43]))))))) (.seq (rF [oR 44 3,o 45 (.call false (cf 259) [(.s
 44),(.c (.t (.str (bs [32]))))]),oM 2 45]) .ret)))))))⟩
def f378:F:=⟨140,true,[.s 2],(.seq (rF [o 2 (.mv (.c zn))]) (.seq (rF [oM 17 0,o 18 (.nilchk (.s 17)),oG 19 0 18,oR 20 19,oN 21 20,
 o 22 (.mkslice 1 24 [zn] (.s 21) (.s 21)),oM 3 22]) (.seq (.seq (rF [oM 23 0,o 24 (.nilchk (.s 23)),oG 25 0 24,oR 26 25,oN 27 26,oI 28
 0]) (.block 0 (.loop (.seq (rF [oC 29 .lss 28 27]) (.seq (.cond (.s 29) .skip (.exit 0)) (.seq (.block 1 (.seq (rF [oM 30 28,oA 31 1 26 28,
 oR 32 31,oM 4 30,oM 5 32]) (.seq (rF [oM 33 5,oN 34 33,oI 35 0]) (.block 2 (.loop (.seq (rF [oC 36 .lss 35 34]) (.seq (.cond (.s 36) .skip
 (.exit 2)) (.seq (.block 3 (.seq (rF [oA 37 4 33 35,oS 38 4 37,o 7 (.allocL [zi,zi,zi,zi]),oP 4 7 38]) (.seq (rT [oM 39 0,o 40 (.nilchk
 (.s 39)),oG 41 1 40,oR 42 41,oM 43 4,oA 44 1 42 43,oR 45 44,oM 46 45,gM 46 true 47 0,og 46 true 48 (.nilchk (.s 47)),gG 46 true 49 1
 48,gR 46 true 50 49,gF 46 true 51 0 7,gL 46 true 52 51,gI 46 true 53 1 50 52,gR 46 true 54 53,oW 55 46 54]) (.cond (.s 55) (rT [oM 56 3,
 oF 57 0 7,oL 58 57,oM 59 3,oF 60 0 7,oL 61 60,oA 62 1 59 61,oR 63 62,oM 64 4,o 65 (.bslice 1 1 [zi] [(0,(.s 64))]),o 66 (.append 1
 8 (.s 63) (.s 65)),oA 67 1 56 58,oO 1 67 66]) .skip)))) (rF [oD 68 .add 35 1,oM 35 68]))))))))) (rF [oD 69 .add 28 1,oM 28 69]))))))) (.seq
 (rF [oM 70 0,o 71 (.nilchk (.s 70)),oG 72 0 71,oR 73 72,oN 74 73,o 75 (.mkslice 1 8 [zi] (.s 74) (.s 74)),oM 8 75]) (.seq (.seq (rF [oM
 76 8,oN 77 76,oI 78 0]) (.block 4 (.loop (.seq (rF [oC 79 .lss 78 77]) (.seq (.cond (.s 79) .skip (.exit 4)) (.seq (.block 5 (.seq (rF [oM
 80 78,oM 9 80]) (rF [oM 81 8,oM 82 9,oA 83 1 81 82,on (.store 1 (.s 83) (ci (-1)))]))) (rF [oD 84 .add 78 1,oM 78 84]))))))) (.seq (rF [oM
 85 0,o 86 (.call true (cf 388) [(.s 85)]),oM 10 86]) (.seq (rF [oM 87 10,o 88 (.call true (cf 389) [(.s 87)])]) (.seq (.seq (rF [oM 89 10,
 oN 90 89,oI 91 0]) (.block 6 (.loop (.seq (rF [oC 92 .lss 91 90]) (.seq (.cond (.s 92) .skip (.exit 6)) (.seq (.block 7 (.seq (rF [oA 93 1 89
 91,oR 94 93,oM 12 94]) (.seq (.seq (rF [oM 95 8,oM 96 12,oA 97 1 95 96,oR 98 97,oD 99 .neq 98 (-1)]) (.cond (.s 99) (.exit 7) .skip)) (.seq
 (rF [oM 100 8,oM 101 12,oM 102 12,oA 103 1 100 101,oO 1 103 102]) (.seq (rF [oM 104 12,o 105 (.bslice 1 1 [zi] [(0,(.s 104))]),oM 13 105])
 (.seq (rF [oI 14 0]) (.block 8 (.loop (.seq (.seq (rF [oM 106 14,oM 107 13,oN 108 107,oC 109 .lss 106 108]) (.cond (.s 109) .skip (.exit 8)))
 (.seq (.block 9 (.seq (rF [oM 112 3,oM 113 13,oM 114 14,oA 115 1 113 114,oR 116 115,oA 117 1 112 116,oR 118 117,oN 119 118,oI 120 0])
 (.block 10 (.loop (.seq (rF [oC 121 .lss 120 119]) (.seq (.cond (.s 121) .skip (.exit 10)) (.seq (.block 11 (.seq (rF [oA 122 1 118 120,oR 123
 122,oM 16 123]) (.seq (rF [oM 124 8,oM 125 16,oA 126 1 124 125,oR 127 126,oD 128 .eql 127 (-1)]) (.cond (.s 128) (.seq (rF [oM 129 8,oM
 130 16,oM 131 12,oA 132 1 129 130,oO 1 132 131]) (rF [oM 133 13,oM 134 16,o 135 (.bslice 1 1 [zi] [(0,(.s 134))]),o 136 (.append 1 8 (.s
 133) (.s 135)),oM 13 136])) .skip)))) (rF [oD 137 .add 120 1,oM 120 137])))))))) (rF [oM 110 14,oD 111 .add 110 1,oM 14 111]))))))))))) (rF
 [oD 138 .add 91 1,oM 91 138]))))))) (.seq (rF [oM 139 8,oM 2 139]) .ret)))))))))⟩
def f379:F:=⟨17,true,[.s 4],(.seq (rF [oQ 3 3 1,oB 4 false]) (.seq (rT [oF 5 0 3,oL 6 5,oM 7 0,o 8 (.nilchk (.s 7)),oG 9 2 8,oR
 10 9,oC 11 .eql 6 10,oM 12 11,gF 12 true 13 1 3,gL 12 true 14 13,gD 12 true 15 .neq 14 (-1),oW 16 12 15,oM 4 16]) .ret))⟩
def f380:F:=⟨8,true,[.s 3],(.seq (rF [oI 3 0]) (.seq (rF [oR 4 1,oM 5 0,oA 6 1 4 5,oR 7 6,oM 3 7]) .ret))⟩
def f381:F:=⟨8,true,[.l 3 true 3],(.seq (rF [o 3 (.allocL [zi,zi,zi])]) (.seq (rF [oR 4 1,oM 5 0,oA 6 3 4 5,oS 7 3 6,oP 3 3 7]) .ret))⟩
def f382:F:=⟨32,true,[.s 6],(.seq (rF [oQ 3 2 0,o 6 (.mv (.c zn))]) (.seq (rF [o 7 (.mv (.c zn))]) (.seq (.block 0 (.loop (.seq (.seq
 (rF [oM 8 2,oM 9 1,oC 10 .neq 8 9,oM 11 10,gF 11 true 12 0 3,gL 11 true 13 12,gM 11 true 14 2,og 11 true 15 (.call true (.s 13) [(.s 14)]),
 gD 11 true 16 .neq 15 (-1),oW 17 11 16]) (.cond (.s 17) .skip (.exit 0))) (.block 1 (.seq (rF [oM 18 7,oF 19 1 3,oL 20 19,oM 21 2,o 22 (.call
 true (.s 20) [(.s 21)]),o 23 (.bslice 3 1 [zi,zi,zi] [(0,(.s 22))]),o 24 (.append 3 24 (.s 18) (.s 23)),oM 7 24]) (rF [oF 25 0 3,oL 26
 25,oM 27 2,o 28 (.call true (.s 26) [(.s 27)]),oM 2 28])))))) (.seq (rF [oM 29 7,o 30 (.call true (cf 390) [(.s 29)])]) (.seq (rF [oM 31 7,oM 6 31]) .ret)))))⟩
def f385:F:=⟨14,false,[.s 2],(.seq (rF [oQ 1 4 0,oB 2 false]) (.seq (rF [oK 7 4 1,o 8 (.call false (cf 64) [(.s 7)]),oM 6 8,oX 9 6
 0,oX 10 6 1,oX 11 6 2,oM 3 9,oM 4 10,oM 5 11]) (.seq (rF [oM 12 3,oD 13 .eql 12 0,oM 2 13]) .ret)))⟩
def f386:F:=⟨4,true,[.s 2],(.seq (rF [o 1 (.boxH 1 (.s 0)),o 2 (.mv (.c (.t .nilf)))]) (.seq (rF [o 3 (.mkfn 392 [] [(.s 1)]),oM 2 3]) .ret))⟩
def f387:F:=⟨20,true,[],(.seq (.seq (rF [oM 5 0,oN 6 5,oI 7 0]) (.block 0 (.loop (.seq (rF [oC 8 .lss 7 6]) (.seq (.cond (.s 8) .skip
 (.exit 0)) (.seq (.block 1 (.seq (rF [oA 9 1 5 7,oR 10 9,oM 4 10]) (rT [oR 11 1,oM 12 4,o 13 (.call false (cf 240) [(.s 12)]),o 14 (.bslice
 1 1 [ze] [(0,(.s 13))]),o 15 (.append 1 16 (.s 11) (.s 14)),oO 1 1 15]))) (rF [oD 16 .add 7 1,oM 7 16]))))))) (rF [oR 17 1,o 18 (.bslice
 1 1 [ze] [(0,(.c (.t (.str (bs [59])))))]),o 19 (.append 1 16 (.s 17) (.s 18)),oO 1 1 19]))⟩
def f388:F:=⟨125,true,[.s 2],(.seq (rF [o 2 (.mv (.c zn))]) (.seq (rF [o 3 (.mv (.c zn)),o 4 (.mv (.c zn))]) (.seq (rF [oM 10 0,o 11
 (.nilchk (.s 10)),oG 12 0 11,oR 13 12,oN 14 13,o 15 (.mkslice 1 8 [zi] (.s 14) (.s 14)),oM 5 15]) (.seq (rF [oM 16 0,o 17 (.nilchk (.s
 16)),oG 18 0 17,oR 19 18,oN 20 19,o 21 (.mkslice 1 1 [zb] (.s 20) (.s 20)),oM 6 21]) (.seq (.seq (rF [oM 22 0,o 23 (.nilchk (.s 22)),oG
 24 0 23,oR 25 24,oN 26 25,oI 27 0]) (.block 0 (.loop (.seq (rF [oC 28 .lss 27 26]) (.seq (.cond (.s 28) .skip (.exit 0)) (.seq (.block 1 (.seq
 (rF [oM 29 27,oM 7 29]) (.seq (.seq (rF [oM 30 0,o 31 (.nilchk (.s 30)),oG 32 1 31,oR 33 32,oM 34 7,oA 35 1 33 34,oR 36 35,oM 37 36,
 gM 37 true 38 6,gM 37 true 39 7,gI 37 true 40 1 38 39,gR 37 true 41 40,gT 37 true 42 41,oW 43 37 42]) (.cond (.s 43) (.seq (rF [oM 44 6,
 oM 45 7,oA 46 1 44 45,on (.store 1 (.s 46) (cb true))]) (rF [oM 47 4,oM 48 7,o 49 (.bslice 1 1 [zi] [(0,(.s 48))]),o 50 (.append 1 8 (.s
 47) (.s 49)),oM 4 50])) .skip)) (.block 2 (.loop (.seq (.seq (rF [oM 51 4,oN 52 51,oD 53 .gtr 52 0]) (.cond (.s 53) .skip (.exit 2))) (.block
 3 (.seq (rF [oM 54 4,oM 55 4,oN 56 55,oD 57 .sub 56 1,oA 58 1 54 57,oR 59 58,oM 8 59]) (.seq (.seq (rT [oM 60 5,oM 61 8,oA 62 1 60 61,
 oR 63 62,oM 64 0,o 65 (.nilchk (.s 64)),oG 66 0 65,oR 67 66,oM 68 8,oA 69 1 67 68,oR 70 69,oN 71 70,oC 72 .eql 63 71]) (.cond (.s 72)
 (.seq (rF [oM 73 3,oM 74 8,o 75 (.bslice 1 1 [zi] [(0,(.s 74))]),o 76 (.append 1 8 (.s 73) (.s 75)),oM 3 76]) (.seq (rF [oM 77 4,oM 78
 4,oN 79 78,oD 80 .sub 79 1,o 81 (.slice 1 (.s 77) none (some (.s 80)) none),oM 4 81]) (.exit 3))) .skip)) (.seq (rT [oM 82 0,o 83 (.nilchk
 (.s 82)),oG 84 0 83,oR 85 84,oM 86 8,oA 87 1 85 86,oR 88 87,oM 89 5,oM 90 8,oA 91 1 89 90,oR 92 91,oA 93 4 88 92,oG 94 0 93,oR 95
 94,oM 9 95]) (.seq (rF [oM 96 5,oM 97 8,oA 98 1 96 97,oR 99 98,oD 100 .add 99 1,oA 101 1 96 97,oO 1 101 100]) (.seq (rF [oM 102 0,o 103
 (.nilchk (.s 102)),oG 104 1 103,oR 105 104,oM 106 9,oA 107 1 105 106,oR 108 107,oM 109 108,gM 109 true 110 6,gM 109 true 111 9,gI 109
 true 112 1 110 111,gR 109 true 113 112,gT 109 true 114 113,oW 115 109 114]) (.cond (.s 115) (.seq (rF [oM 116 6,oM 117 9,oA 118 1 116 117,
 on (.store 1 (.s 118) (cb true))]) (rF [oM 119 4,oM 120 9,o 121 (.bslice 1 1 [zi] [(0,(.s 120))]),o 122 (.append 1 8 (.s 119) (.s 121)),
 oM 4 122])) .skip))))))))))))) (rF [oD 123 .add 27 1,oM 27 123]))))))) (.seq (rF [oM 124 3,oM 2 124]) .ret))))))⟩
def f389:F:=⟨28,true,[],(.seq (rF [oM 4 0,oN 5 4,oD 6 .sub 5 1,oI 2 0,oM 3 6]) (.block 0 (.loop (.seq (.seq (rF [oM 7 2,oM 8 3,oC
 9 .lss 7 8]) (.cond (.s 9) .skip (.exit 0))) (.seq (.block 1 (rT [oM 14 0,oM 15 2,oM 16 0,oM 17 3,oM 18 0,oM 19 3,oA 20 1 18 19,oR 21
 20,oM 22 0,oM 23 2,oA 24 1 22 23,oR 25 24,oA 26 1 14 15,oO 1 26 21,oA 27 1 16 17,oO 1 27 25])) (rF [oM 10 2,oD 11 .add 10 1,oM 12 3,
 oD 13 .sub 12 1,oM 2 11,oM 3 13]))))))⟩
def f390:F:=⟨28,true,[],(.seq (rF [oM 4 0,oN 5 4,oD 6 .sub 5 1,oI 2 0,oM 3 6]) (.block 0 (.loop (.seq (.seq (rF [oM 7 2,oM 8 3,oC
 9 .lss 7 8]) (.cond (.s 9) .skip (.exit 0))) (.seq (.block 1 (rT [oM 14 0,oM 15 2,oM 16 0,oM 17 3,oM 18 0,oM 19 3,oA 20 3 18 19,oS 21
 3 20,oM 22 0,oM 23 2,oA 24 3 22 23,oS 25 3 24,oA 26 3 14 15,oO 3 26 21,oA 27 3 16 17,oO 3 27 25])) (rF [oM 10 2,oD 11 .add 10 1,oM
 12 3,oD 13 .sub 12 1,oM 2 11,oM 3 13]))))))⟩
def f392:F:=⟨80,true,[],(.seq (rF [o 2 (.boxH 1 (.s 0))]) (.seq (rF [o 11 (.mkmap),o 3 (.allocH [(.t .nilm)]),oO 1 3 11]) (.seq (rF
 [o 12 (.mkfn 393 [] [(.s 3),(.s 1),(.s 2)]),oM 4 12]) (.seq (.seq (rF [oM 13 4,oR 14 1,o 15 (.nilchk (.s 14)),oG 16 0 15,oS 17 4 16,o
 18 (.call false (cf 12) [(.s 17)]),o 19 (.build [zn,zn,zn,zi,zi,zi,zi] [(0,3,(.s 18)),(3,1,(ci (-1)))]),o 20 (.call true (.s 13)
 [(.s 19)]),oT 21 20]) (.cond (.s 21) .ret .skip)) (.seq (rF [oI 5 0]) (.block 0 (.loop (.seq (.seq (rF [oM 22 5,oR 23 1,o 24 (.nilchk (.s
 23)),oG 25 5 24,oR 26 25,oN 27 26,oC 28 .lss 22 27]) (.cond (.s 28) .skip (.exit 0))) (.seq (.block 1 (.seq (rF [oR 31 1,o 32 (.nilchk (.s
 31)),oG 33 5 32,oR 34 33,oM 35 5,oA 36 7 34 35,oG 37 0 36,oS 38 3 37,o 6 (.allocL [zn,zn,zn]),oP 3 6 38]) (.seq (rT [oR 39 1,o 40
 (.nilchk (.s 39)),oG 41 0 40,oS 42 4 41,oR 43 1,o 44 (.nilchk (.s 43)),oG 45 4 44,oR 46 45,oK 47 3 6,o 48 (.call false (cf 179) [(.s
 42),(.s 46),(.s 47)]),oN 49 48,oI 50 0]) (.block 2 (.loop (.seq (rF [oC 51 .lss 50 49]) (.seq (.cond (.s 51) .skip (.exit 2)) (.seq (.block
 3 (.seq (rF [oA 52 3 48 50,oS 53 3 52,o 8 (.allocL [zi,zi,zi]),oP 3 8 53]) (.seq (rT [oR 55 1,o 56 (.nilchk (.s 55)),oG 57 0 56,oS 58
 4 57,oR 59 1,o 60 (.nilchk (.s 59)),oG 61 4 60,oR 62 61,oK 63 3 6,oK 64 3 8,o 65 (.call false (cf 180) [(.s 58),(.s 62),(.s 63),(.s
 64)]),oM 54 65,oX 66 54 0,oX 67 54 1,o 9 (.allocL [zn,zn,zn]),oP 3 9 66,oM 10 67]) (.seq (rF [oM 68 10,oD 69 .eql 68 0,oM 70 69,gM
 70 true 71 4,gK 70 true 72 3 9,gM 70 true 73 5,gK 70 true 74 3 8,og 70 true 75 (.build [zn,zn,zn,zi,zi,zi,zi] [(0,3,(.s 72)),(3,
 1,(.s 73)),(4,3,(.s 74))]),og 70 true 76 (.call true (.s 71) [(.s 75)]),gT 70 true 77 76,oW 78 70 77]) (.cond (.s 78) .ret .skip)))))
 (rF [oD 79 .add 50 1,oM 50 79]))))))))) (rF [oM 29 5,oD 30 .add 29 1,oM 5 30]))))))))))⟩
def f393:F:=⟨33,true,[.s 5],(.seq (rF [oQ 4 7 0,oB 5 false]) (.seq (rF [oF 7 0 4,oK 8 3 7,o 9 (.call false (cf 394) [(.s 8)]),oM 6
 9]) (.seq (.seq (rF [oR 10 1,oM 11 6,o 12 (.lookup 2 zb false (.s 10) (.s 11))]) (.cond (.s 12) (.seq (rF [oB 5 true]) .ret) .skip)) (.seq
 (rF [oR 13 1,oM 14 6,on (.mapupd 2 (.s 13) (.s 14) (cb true))]) (.seq (.regionD [(0,7)] [oR 15 2,oR 16 2,o 17 (.nilchk (.s 16)),oG 18 5
 17,oR 19 18,oK 20 7 4,o 21 (.bslice 7 1 [zn,zn,zn,zi,zi,zi,zi] [(0,(.s 20))]),o 22 (.append 7 104 (.s 19) (.s 21)),o 23 (.nilchk
 (.s 15)),oG 24 5 23,oO 1 24 22]) (.seq (rT [oR 25 3,oR 26 2,o 27 (.nilchk (.s 26)),oG 28 5 27,oR 29 28,oN 30 29,oD 31 .sub 30 1,o 32
 (.call true (.s 25) [(.s 31)]),oM 5 32]) .ret))))))⟩
def f394:F:=⟨91,false,[.s 2],(.seq (rF [oQ 1 3 0,o 2 (.mv (.c ze))]) (.seq (rF [o 3 (.mv (.c zn))]) (.seq (.seq (rF [oF 14 0 1,oL 15
 14,oN 16 15,oI 17 0]) (.block 0 (.loop (.seq (rF [oC 18 .lss 17 16]) (.seq (.cond (.s 18) .skip (.exit 0)) (.seq (.block 1 (.seq (rF [oA 19
 1 15 17,oR 20 19,oM 5 20]) (rF [oM 21 3,oM 22 5,o 23 (.conv .u8 (.s 22)),o 24 (.bslice 1 1 [(.t (.int .u8 0))] [(0,(.s 23))]),o 25 (.append
 1 1 (.s 21) (.s 24)),oM 3 25]))) (rF [oD 26 .add 17 1,oM 17 26]))))))) (.seq (.seq (rF [oF 27 1 1,oL 28 27,oN 29 28,oI 30 0]) (.block 2
 (.loop (.seq (rF [oC 31 .lss 30 29]) (.seq (.cond (.s 31) .skip (.exit 2)) (.seq (.block 3 (.seq (rF [oA 32 1 28 30,oR 33 32,oM 7 33]) (rF
 [oM 34 3,oM 35 7,oD 36 .add 35 1,o 37 (.conv .u8 (.s 36)),o 38 (.bslice 1 1 [(.t (.int .u8 0))] [(0,(.s 37))]),o 39 (.append 1 1 (.s 34)
 (.s 38)),oM 3 39]))) (rF [oD 40 .add 30 1,oM 30 40]))))))) (.seq (.seq (rF [oF 41 2 1,oL 42 41,oN 43 42,oI 44 0]) (.block 4 (.loop (.seq
 (rF [oC 45 .lss 44 43]) (.seq (.cond (.s 45) .skip (.exit 4)) (.seq (.block 5 (.seq (rF [oA 46 1 42 44,oR 47 46,oM 9 47]) (.seq (rF [oM 48
 3,oM 49 9,oN 50 49,o 51 (.conv .u8 (.s 50)),o 52 (.bslice 1 1 [(.t (.int .u8 0))] [(0,(.s 51))]),o 53 (.append 1 1 (.s 48) (.s 52)),oM
 3 53]) (.seq (rF [oM 54 9,oN 55 54,oI 56 0]) (.block 6 (.loop (.seq (rF [oC 57 .lss 56 55]) (.seq (.cond (.s 57) .skip (.exit 6)) (.seq (.block
 7 (.seq (rF [oA 58 2 54 56,oS 59 2 58,o 11 (.allocL [zn,zn]),oP 2 11 59]) (.seq (rF [oM 60 3,oF 61 0 11,oL 62 61,oN 63 62,o 64 (.conv
 .u8 (.s 63)),o 65 (.bslice 1 1 [(.t (.int .u8 0))] [(0,(.s 64))]),o 66 (.append 1 1 (.s 60) (.s 65)),oM 3 66]) (.seq (rF [oF 67 0 11,oL
 68 67,oN 69 68,oI 70 0]) (.block 8 (.loop (.seq (rF [oC 71 .lss 70 69]) (.seq (.cond (.s 71) .skip (.exit 8)) (.seq (.block 9 (.seq (rF [oM
 72 70,oA 73 1 68 70,oR 74 73,oM 12 72,oM 13 74]) (rF [oM 75 3,oM 76 13,o 77 (.conv .u8 (.s 76)),oF 78 1 11,oL 79 78,oM 80 12,oA 81
 1 79 80,oR 82 81,o 83 (.conv .u8 (.s 82)),o 84 (.bslice 1 2 [(.t (.int .u8 0))] [(0,(.s 77)),(1,(.s 83))]),o 85 (.append 1 1 (.s 75) (.s
 84)),oM 3 85]))) (rF [oD 86 .add 70 1,oM 70 86])))))))))) (rF [oD 87 .add 56 1,oM 56 87])))))))))) (rF [oD 88 .add 44 1,oM 44 88])))))))
 (.seq (rF [oM 89 3,o 90 (.bstr (.s 89)),oM 2 90]) .ret))))))⟩
end Rg
end

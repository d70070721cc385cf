/- Part of the proof of the laws of the package relyguardlaw36: an abstract machine for the program's functions, what they compute, and that the machine is the program's. No condition. (Fn1) -/
import Derived.Test.YtaiokglcgiemnaaGreatDoorPartAN
section
namespace Rg
open Go
def f9:F:=⟨122,false,[.s 2],(.seq (rF [oQ 1 4 0,oB 2 false]) (.seq (.seq (rF [oF 8 0 1,oL 9 8,oN 10 9,oD 11 .gtr 10 32,oM 12 11,
 gF 12 false 13 3 1,gL 12 false 14 13,gN 12 false 15 14,gD 12 false 16 .gtr 15 4,oV 17 12 16,oM 18 17,gF 18 false 19 1 1,gL 18 false 20
 19,gN 18 false 21 20,gD 18 false 22 .gtr 21 6,oV 23 18 22,oM 24 23,gF 24 false 25 2 1,gL 24 false 26 25,gN 24 false 27 26,gD 24 false
 28 .gtr 27 4,oV 29 24 28]) (.cond (.s 29) (.seq (rF [oB 2 false]) .ret) .skip)) (.seq (rF [oI 3 0]) (.seq (.seq (rF [oI 4 0]) (.block 0 (.loop
 (.seq (.seq (rF [oM 30 4,oF 31 3 1,oL 32 31,oN 33 32,oC 34 .lss 30 33]) (.cond (.s 34) .skip (.exit 0))) (.seq (.block 1 (.seq (rF [oF 37
 3 1,oL 38 37,oM 39 4,oA 40 7 38 39,oS 41 7 40,o 5 (.allocL [ze,zi,zn,zn,zn,zn,zb]),oP 7 5 41]) (.seq (rF [oM 42 3,oF 43 4 5,oL
 44 43,oN 45 44,oC 46 .add 42 45,oM 3 46]) (.seq (rF [oM 47 3,oD 48 .gtr 47 24,oM 49 48,gF 49 false 50 2 5,gL 49 false 51 50,gN 49 false
 52 51,gD 49 false 53 .gtr 52 48,oV 54 49 53,oM 55 54,gF 55 false 56 3 5,gL 55 false 57 56,gN 55 false 58 57,gD 55 false 59 .gtr 58 48,
 oV 60 55 59,oM 61 60,gF 61 false 62 5 5,gL 61 false 63 62,gN 61 false 64 63,gD 61 false 65 .gtr 64 8,oV 66 61 65,oM 67 66,gK 67 false
 68 7 5,og 67 false 69 (.call false (cf 36) [(.s 68)]),gT 67 false 70 69,oV 71 67 70]) (.cond (.s 71) (.seq (rF [oB 2 false]) .ret) .skip)))))
 (rF [oM 35 4,oD 36 .add 35 1,oM 4 36])))))) (.seq (.seq (rF [oI 6 0]) (.block 2 (.loop (.seq (.seq (rF [oM 72 6,oF 73 1 1,oL 74 73,oN 75
 74,oC 76 .lss 72 75]) (.cond (.s 76) .skip (.exit 2))) (.seq (.block 3 (.seq (rF [oF 79 1 1,oL 80 79,oM 81 6,oA 82 11 80 81,oG 83 2 82,
 oS 84 4 83,o 85 (.call false (cf 23) [(.s 84),(ci 60)]),oT 86 85,oM 87 86,gF 87 false 88 1 1,gL 87 false 89 88,gM 87 false 90 6,gI 87
 false 91 11 89 90,gG 87 false 92 6 91,og 87 false 93 (.load true 4 (.s 92)),og 87 false 94 (.call false (cf 23) [(.s 93),(ci 60)]),gT 87
 false 95 94,oV 96 87 95,oM 97 96,gF 97 false 98 1 1,gL 97 false 99 98,gM 97 false 100 6,gI 97 false 101 11 99 100,gG 97 false 102 10 101,
 gR 97 false 103 102,gN 97 false 104 103,gD 97 false 105 .gtr 104 32,oV 106 97 105]) (.cond (.s 106) (.seq (rF [oB 2 false]) .ret) .skip)))
 (rF [oM 77 6,oD 78 .add 77 1,oM 6 78])))))) (.seq (.seq (rF [oI 7 0]) (.block 4 (.loop (.seq (.seq (rF [oM 107 7,oF 108 2 1,oL 109 108,oN
 110 109,oC 111 .lss 107 110]) (.cond (.s 111) .skip (.exit 4))) (.seq (.block 5 (.seq (rF [oF 114 2 1,oL 115 114,oM 116 7,oA 117 6 115 116,
 oG 118 1 117,oS 119 4 118,o 120 (.call false (cf 23) [(.s 119),(ci 60)]),oT 121 120]) (.cond (.s 121) (.seq (rF [oB 2 false]) .ret) .skip)))
 (rF [oM 112 7,oD 113 .add 112 1,oM 7 113])))))) (.seq (rF [oB 2 true]) .ret)))))))⟩
def f12:F:=⟨58,false,[.l 2 true 3],(.seq (rF [oQ 1 4 0,o 2 (.allocL [zn,zn,zn])]) (.seq (.seq (rF [oK 6 4 1,o 7 (.call false (cf 38)
 [(.s 6)]),oT 8 7]) (.cond (.s 8) (.seq (rF [o 9 (.build [zn,zn,zn] []),oP 3 2 9]) .ret) .skip)) (.seq (rT [oF 10 0 1,oL 11 10,oN 12 11,
 o 13 (.mkslice 1 8 [zi] (.s 12) (.s 12)),oF 14 3 1,oL 15 14,oN 16 15,o 17 (.mkslice 1 8 [zi] (.s 16) (.s 16)),oF 18 3 1,oL 19 18,oN 20
 19,o 21 (.mkslice 1 24 [zn] (.s 20) (.s 20)),o 22 (.build [zn,zn,zn] [(0,1,(.s 13)),(1,1,(.s 17)),(2,1,(.s 21))]),o 3 (.allocL [zn,
 zn,zn]),oP 3 3 22]) (.seq (.seq (rF [oF 23 0 1,oL 24 23,oN 25 24,oI 26 0]) (.block 0 (.loop (.seq (rF [oC 27 .lss 26 25]) (.seq (.cond (.s
 27) .skip (.exit 0)) (.seq (.block 1 (.seq (rF [oM 28 26,oM 4 28]) (rT [oF 29 0 3,oL 30 29,oM 31 4,oF 32 0 1,oL 33 32,oM 34 4,oA 35 6
 33 34,oG 36 2 35,oR 37 36,oA 38 1 30 31,oO 1 38 37]))) (rF [oD 39 .add 26 1,oM 26 39]))))))) (.seq (.seq (rF [oF 40 3 1,oL 41 40,oN 42
 41,oI 43 0]) (.block 2 (.loop (.seq (rF [oC 44 .lss 43 42]) (.seq (.cond (.s 44) .skip (.exit 2)) (.seq (.block 3 (.seq (rF [oM 45 43,oM 5
 45]) (.seq (rF [oF 46 3 1,oL 47 46,oM 48 5,oA 49 7 47 48,oG 50 6 49,oR 51 50]) (.cond (.s 51) (rF [oF 52 1 3,oL 53 52,oM 54 5,oA 55 1
 53 54,on (.store 1 (.s 55) (ci (-1)))]) .skip)))) (rF [oD 56 .add 43 1,oM 43 56]))))))) (.seq (rF [oK 57 3 3,oP 3 2 57]) .ret))))))⟩
def f17:F:=⟨17,false,[.s 4],(.seq (rF [oQ 2 4 0,oQ 3 3 1,o 4 (.mv (.c zn))]) (.seq (.seq (rF [oK 5 4 2,o 6 (.call false (cf 38) [(.s
 5)]),oT 7 6,oM 8 7,gK 8 false 9 4 2,gK 8 false 10 3 3,og 8 false 11 (.call false (cf 43) [(.s 9),(.s 10)]),gT 8 false 12 11,oV 13 8 12])
 (.cond (.s 13) (.seq (rF [o 4 (.mv (.c zn))]) .ret) .skip)) (.seq (rF [oK 14 4 2,oK 15 3 3,o 16 (.call false (cf 44) [(.s 14),(.s 15)]),oM 4 16]) .ret)))⟩
def f18:F:=⟨37,false,[.l 6 true 3,.s 7],(.seq (rF [oQ 3 4 0,oQ 4 3 1,oQ 5 3 2,o 6 (.allocL [zn,zn,zn]),oI 7 0]) (.seq (.seq (rF
 [oK 10 4 3,o 11 (.call false (cf 38) [(.s 10)]),oT 12 11,oM 13 12,gK 13 false 14 4 3,gK 13 false 15 3 4,og 13 false 16 (.call false (cf
 43) [(.s 14),(.s 15)]),gT 13 false 17 16,oV 18 13 17]) (.cond (.s 18) (.seq (rF [o 19 (.build [zn,zn,zn] []),oP 3 6 19,oI 7 1]) .ret)
 .skip)) (.seq (.seq (rF [oK 20 4 3,oK 21 3 4,o 22 (.call false (cf 44) [(.s 20),(.s 21)]),oN 23 22,oI 24 0]) (.block 0 (.loop (.seq (rF
 [oC 25 .lss 24 23]) (.seq (.cond (.s 25) .skip (.exit 0)) (.seq (.block 1 (.seq (rF [oA 26 3 22 24,oS 27 3 26,o 9 (.allocL [zi,zi,zi]),oP
 3 9 27]) (.seq (rF [oK 28 3 5,oK 29 3 9,o 30 (.eqa false [0,0,0] (.s 28) (.s 29))]) (.cond (.s 30) (.seq (rF [oK 31 4 3,oK 32 3 4,oK 33
 3 5,o 34 (.call false (cf 45) [(.s 31),(.s 32),(.s 33)]),oP 3 6 34,oI 7 0]) .ret) .skip)))) (rF [oD 35 .add 24 1,oM 24 35]))))))) (.seq
 (rF [o 36 (.build [zn,zn,zn] []),oP 3 6 36,oI 7 110]) .ret))))⟩
def f23:F:=⟨11,false,[.s 4],(.seq (rF [oQ 2 4 0,oB 4 false]) (.seq (rF [oK 5 4 2,oM 6 1,oD 7 .add 6 1,o 8 (.call false (cf 47) [(.s
 5),(.s 7)]),oM 9 1,oC 10 .leq 8 9,oM 4 10]) .ret))⟩
def f24:F:=⟨15,false,[.s 6],(.seq (rF [oQ 3 4 0,oB 6 false]) (.seq (rF [oK 7 4 3,o 8 (.call false (cf 48) [(.s 7)]),oM 9 8,gK 9 true
 10 4 3,gM 9 true 11 1,gM 9 true 12 2,og 9 true 13 (.call false (cf 49) [(.s 10),(.s 11),(.s 12)]),oW 14 9 13,oM 6 14]) .ret))⟩
def f27:F:=⟨13,false,[.s 6],(.seq (rF [o 3 (.boxH 4 (.s 0)),oI 6 0]) (.seq (.seq (rF [oS 7 4 3,o 8 (.call false (cf 51) [(.s 7)]),oT
 9 8]) (.cond (.s 9) (.seq (rF [oI 6 0]) .ret) .skip)) (.seq (rF [oM 10 1,oM 11 2,o 12 (.call false (cf 56) [(.s 3),(.s 10),(.s 11)]),oM 6 12]) .ret)))⟩
def f33:F:=⟨13,false,[.s 2],(.seq (rF [oI 2 0]) (.seq (rF [oI 3 1]) (.seq (.seq (rF [oI 4 0]) (.block 0 (.loop (.seq (.seq (rF [oM 5 4,
 oM 6 0,oC 7 .lss 5 6]) (.cond (.s 7) .skip (.exit 0))) (.seq (.block 1 (rF [oM 10 3,oD 11 .mul 10 2,oM 3 11])) (rF [oM 8 4,oD 9 .add 8 1,
 oM 4 9])))))) (.seq (rF [oM 12 3,oM 2 12]) .ret))))⟩
def f36:F:=⟨94,false,[.s 2],(.seq (rF [oQ 1 7 0,oB 2 false]) (.seq (.seq (rF [oI 3 0]) (.block 0 (.loop (.seq (.seq (rF [oM 7 3,oF 8
 4 1,oL 9 8,oN 10 9,oC 11 .lss 7 10]) (.cond (.s 11) .skip (.exit 0))) (.seq (.block 1 (.seq (.seq (rF [oF 14 4 1,oL 15 14,oM 16 3,oA 17
 11 15 16,oG 18 3 17,oS 19 4 18,o 20 (.call false (cf 23) [(.s 19),(ci 30)]),oT 21 20,oM 22 21,gF 22 false 23 4 1,gL 22 false 24 23,gM
 22 false 25 3,gI 22 false 26 11 24 25,gG 22 false 27 7 26,gR 22 false 28 27,gN 22 false 29 28,gD 22 false 30 .gtr 29 8,oV 31 22 30]) (.cond
 (.s 31) (.seq (rF [oB 2 false]) .ret) .skip)) (.seq (rF [oI 4 0]) (.block 2 (.loop (.seq (.seq (rF [oM 32 4,oF 33 4 1,oL 34 33,oM 35 3,oA
 36 11 34 35,oG 37 7 36,oR 38 37,oN 39 38,oC 40 .lss 32 39]) (.cond (.s 40) .skip (.exit 2))) (.seq (.block 3 (.seq (rF [oF 43 4 1,oL 44
 43,oM 45 3,oA 46 11 44 45,oG 47 7 46,oR 48 47,oM 49 4,oA 50 5 48 49,oG 51 1 50,oS 52 4 51,o 53 (.call false (cf 23) [(.s 52),(ci 30)]),
 oT 54 53]) (.cond (.s 54) (.seq (rF [oB 2 false]) .ret) .skip))) (rF [oM 41 4,oD 42 .add 41 1,oM 4 42])))))))) (rF [oM 12 3,oD 13 .add 12
 1,oM 3 13])))))) (.seq (.seq (rF [oI 5 0]) (.block 4 (.loop (.seq (.seq (rF [oM 55 5,oF 56 2 1,oL 57 56,oN 58 57,oC 59 .lss 55 58]) (.cond
 (.s 59) .skip (.exit 4))) (.seq (.block 5 (.seq (rF [oF 62 2 1,oL 63 62,oM 64 5,oA 65 4 63 64,oS 66 4 65,o 67 (.call false (cf 23) [(.s
 66),(ci 60)]),oT 68 67]) (.cond (.s 68) (.seq (rF [oB 2 false]) .ret) .skip))) (rF [oM 60 5,oD 61 .add 60 1,oM 5 61])))))) (.seq (.seq (rF
 [oI 6 0]) (.block 6 (.loop (.seq (.seq (rF [oM 69 6,oF 70 5 1,oL 71 70,oN 72 71,oC 73 .lss 69 72]) (.cond (.s 73) .skip (.exit 6))) (.seq
 (.block 7 (.seq (rF [oF 76 5 1,oL 77 76,oM 78 6,oA 79 6 77 78,oG 80 2 79,oS 81 4 80,o 82 (.call false (cf 23) [(.s 81),(ci 30)]),oT 83
 82,oM 84 83,gF 84 false 85 5 1,gL 84 false 86 85,gM 84 false 87 6,gI 84 false 88 6 86 87,gG 84 false 89 1 88,gR 84 false 90 89,gN 84
 false 91 90,gD 84 false 92 .gtr 91 48,oV 93 84 92]) (.cond (.s 93) (.seq (rF [oB 2 false]) .ret) .skip))) (rF [oM 74 6,oD 75 .add 74 1,oM
 6 75])))))) (.seq (rF [oB 2 true]) .ret)))))⟩
def f38:F:=⟨14,false,[.s 2],(.seq (rF [oQ 1 4 0,oB 2 false]) (.seq (rF [oK 7 4 1,o 8 (.call false (cf 64) [(.s 7)]),oM 6 8,oX 9 6
 0,oX 10 6 1,oX 11 6 2,oM 3 9,oM 4 10,oM 5 11]) (.seq (rF [oM 12 3,oD 13 .eql 12 0,oM 2 13]) .ret)))⟩
def f39:F:=⟨14,false,[.s 2],(.seq (rF [oQ 1 4 0,oB 2 false]) (.seq (rF [oK 7 4 1,o 8 (.call false (cf 65) [(.s 7)]),oM 6 8,oX 9 6
 0,oX 10 6 1,oX 11 6 2,oM 3 9,oM 4 10,oM 5 11]) (.seq (rF [oM 12 3,oD 13 .eql 12 0,oM 2 13]) .ret)))⟩
def f40:F:=⟨26,false,[.s 4],(.seq (rF [oB 4 false]) (.seq (.seq (rF [oM 6 0,oN 7 6,oM 8 1,oN 9 8,oC 10 .neq 7 9]) (.cond (.s 10) (.seq
 (rF [oB 4 false]) .ret) .skip)) (.seq (.seq (rF [oI 5 0]) (.block 0 (.loop (.seq (.seq (rF [oM 11 5,oM 12 0,oN 13 12,oC 14 .lss 11 13]) (.cond
 (.s 14) .skip (.exit 0))) (.seq (.block 1 (.seq (rT [oM 17 0,oM 18 5,oA 19 3 17 18,oS 20 3 19,oM 21 1,oM 22 5,oA 23 3 21 22,oS 24 3 23,
 o 25 (.eqa true [0,0,0] (.s 20) (.s 24))]) (.cond (.s 25) (.seq (rF [oB 4 false]) .ret) .skip))) (rF [oM 15 5,oD 16 .add 15 1,oM 5 16])))))) (.seq (rF [oB 4 true]) .ret))))⟩
def f43:F:=⟨97,false,[.s 4],(.seq (rF [oQ 2 4 0,oQ 3 3 1,oB 4 false]) (.seq (.seq (rF [oF 10 0 3,oL 11 10,oN 12 11,oF 13 0 2,oL
 14 13,oN 15 14,oC 16 .neq 12 15,oM 17 16,gF 17 false 18 1 3,gL 17 false 19 18,gN 17 false 20 19,gF 17 false 21 3 2,gL 17 false 22 21,
 gN 17 false 23 22,gC 17 false 24 .neq 20 23,oV 25 17 24,oM 26 25,gF 26 false 27 2 3,gL 26 false 28 27,gN 26 false 29 28,gF 26 false 30
 3 2,gL 26 false 31 30,gN 26 false 32 31,gC 26 false 33 .neq 29 32,oV 34 26 33]) (.cond (.s 34) (.seq (rF [oB 4 false]) .ret) .skip)) (.seq
 (.seq (rF [oF 35 0 3,oL 36 35,oN 37 36,oI 38 0]) (.block 0 (.loop (.seq (rF [oC 39 .lss 38 37]) (.seq (.cond (.s 39) .skip (.exit 0)) (.seq
 (.block 1 (.seq (rF [oM 40 38,oA 41 1 36 38,oR 42 41,oM 5 40,oM 6 42]) (.seq (rF [oM 43 6,oD 44 .lss 43 0,oM 45 44,gM 45 false 46 6,gF
 45 false 47 0 2,gL 45 false 48 47,gM 45 false 49 5,gI 45 false 50 6 48 49,gG 45 false 51 1 50,gR 45 false 52 51,og 45 false 53 (.bin .shl
 (ci 1) (.s 52)),gC 45 false 54 .geq 46 53,oV 55 45 54]) (.cond (.s 55) (.seq (rF [oB 4 false]) .ret) .skip)))) (rF [oD 56 .add 38 1,oM 38
 56]))))))) (.seq (.seq (rF [oF 57 1 3,oL 58 57,oN 59 58,oI 60 0]) (.block 2 (.loop (.seq (rF [oC 61 .lss 60 59]) (.seq (.cond (.s 61) .skip
 (.exit 2)) (.seq (.block 3 (.seq (rF [oM 62 60,oA 63 1 58 60,oR 64 63,oM 7 62,oM 8 64]) (.seq (rF [oF 65 3 2,oL 66 65,oM 67 7,oA 68 7
 66 67,oS 69 7 68,o 9 (.allocL [ze,zi,zn,zn,zn,zn,zb]),oP 7 9 69]) (.seq (rF [oM 70 8,oD 71 .lss 70 (-1),oM 72 71,gM 72 false 73 8,
 gF 72 false 74 1 9,gL 72 false 75 74,gC 72 false 76 .geq 73 75,oV 77 72 76,oM 78 77,gM 78 false 79 8,gD 78 false 80 .eql 79 (-1),gM 78
 false 81 80,gF 81 true 82 6 9,gL 81 true 83 82,gT 81 true 84 83,og 78 false 85 (.pick (.s 81) (.s 84) (cb false)),oV 86 78 85,oM 87 86,
 gF 87 false 88 2 3,gL 87 false 89 88,gM 87 false 90 7,gI 87 false 91 1 89 90,gR 87 false 92 91,gN 87 false 93 92,gD 87 false 94 .gtr 93
 0,oV 95 87 94]) (.cond (.s 95) (.seq (rF [oB 4 false]) .ret) .skip))))) (rF [oD 96 .add 60 1,oM 60 96]))))))) (.seq (rF [oB 4 true]) .ret)))))⟩
def f44:F:=⟨38,false,[.s 4],(.seq (rF [oQ 2 4 0,oQ 3 3 1,o 4 (.mv (.c zn))]) (.seq (rF [o 5 (.mv (.c zn))]) (.seq (.seq (rF [oF 8 3
 2,oL 9 8,oN 10 9,oI 11 0]) (.block 0 (.loop (.seq (rF [oC 12 .lss 11 10]) (.seq (.cond (.s 12) .skip (.exit 0)) (.seq (.block 1 (.seq (rF
 [oM 13 11,oM 6 13]) (.seq (rF [oF 14 3 2,oL 15 14,oM 16 6,oA 17 7 15 16,oG 18 4 17,oR 19 18,oN 20 19,oI 21 0]) (.block 2 (.loop (.seq
 (rF [oC 22 .lss 21 20]) (.seq (.cond (.s 22) .skip (.exit 2)) (.seq (.block 3 (.seq (rF [oM 23 21,oM 7 23]) (.seq (rF [oK 24 4 2,oK 25 3 3,
 oM 26 6,oM 27 7,o 28 (.call false (cf 67) [(.s 24),(.s 25),(.s 26),(.s 27)])]) (.cond (.s 28) (rF [oM 29 5,oM 30 6,oM 31 7,o 32 (.build
 [zi,zi,zi] [(0,1,(.s 30)),(1,1,(.s 31))]),o 33 (.bslice 3 1 [zi,zi,zi] [(0,(.s 32))]),o 34 (.append 3 24 (.s 29) (.s 33)),oM 5 34])
 .skip)))) (rF [oD 35 .add 21 1,oM 21 35]))))))))) (rF [oD 36 .add 11 1,oM 11 36]))))))) (.seq (rF [oM 37 5,oM 4 37]) .ret))))⟩
def f45:F:=⟨81,false,[.l 6 true 3],(.seq (rF [oQ 3 4 0,oQ 4 3 1,oQ 5 3 2,o 6 (.allocL [zn,zn,zn])]) (.seq (rT [oF 11 0 4,oL 12 11,
 oN 13 12,o 14 (.mkslice 1 8 [zi] (.s 13) (.s 13)),oF 15 1 4,oL 16 15,oN 17 16,o 18 (.mkslice 1 8 [zi] (.s 17) (.s 17)),oF 19 2 4,oL 20
 19,oN 21 20,o 22 (.mkslice 1 24 [zn] (.s 21) (.s 21)),o 23 (.build [zn,zn,zn] [(0,1,(.s 14)),(1,1,(.s 18)),(2,1,(.s 22))]),o 7
 (.allocL [zn,zn,zn]),oP 3 7 23]) (.seq (rF [oF 24 0 7,oL 25 24,oF 26 0 4,oL 27 26,o 28 (.copy 1 (.s 25) (.s 27))]) (.seq (rF [oF 29 1
 7,oL 30 29,oF 31 1 4,oL 32 31,o 33 (.copy 1 (.s 30) (.s 32))]) (.seq (rT [oF 34 3 3,oL 35 34,oF 36 0 5,oL 37 36,oA 38 7 35 37,oG 39
 4 38,oR 40 39,oF 41 1 5,oL 42 41,oA 43 11 40 42,oS 44 11 43,o 8 (.allocL [zi,zi,zi,zi,zi,zi,zn,zn,zb,zi,zi]),oP 11 8 44]) (.seq
 (.seq (rF [oF 45 7 8,oL 46 45,oN 47 46,oI 48 0]) (.block 0 (.loop (.seq (rF [oC 49 .lss 48 47]) (.seq (.cond (.s 49) .skip (.exit 0)) (.seq
 (.block 1 (.seq (rF [oA 50 5 46 48,oS 51 5 50,o 10 (.allocL [zi,zi,zi,zi,zn]),oP 5 10 51]) (rT [oF 52 0 7,oL 53 52,oF 54 0 10,oL 55
 54,oF 56 1 10,oK 57 4 56,oF 58 0 4,oL 59 58,oF 60 0 4,oL 61 60,o 62 (.call false (cf 27) [(.s 57),(.s 59),(.s 61)]),oA 63 1 53 55,
 oO 1 63 62]))) (rF [oD 64 .add 48 1,oM 48 64]))))))) (.seq (rF [oF 65 1 7,oL 66 65,oF 67 0 5,oL 68 67,oF 69 2 8,oL 70 69,oA 71 1 66 68,
 oO 1 71 70]) (.seq (.seq (rF [oF 72 0 8,oL 73 72,oD 74 .eql 73 6]) (.cond (.s 74) (rF [oF 75 1 7,oL 76 75,oF 77 9 8,oL 78 77,oA 79 1 76
 78,on (.store 1 (.s 79) (ci 0))]) .skip)) (.seq (rF [oK 80 3 7,oP 3 6 80]) .ret)))))))))⟩
def f47:F:=⟨33,false,[.s 4],(.seq (rF [oQ 2 4 0,oI 4 0]) (.seq (.seq (rF [oM 7 1,oD 8 .leq 7 0]) (.cond (.s 8) (.seq (rF [oI 4 0]) .ret)
 .skip)) (.seq (rF [oI 5 1]) (.seq (.seq (rF [oI 6 0]) (.block 0 (.loop (.seq (.seq (rF [oM 9 6,oF 10 3 2,oL 11 10,oN 12 11,oC 13 .lss 9 12,
 oM 14 13,gM 14 true 15 5,gM 14 true 16 1,gC 14 true 17 .lss 15 16,oW 18 14 17]) (.cond (.s 18) .skip (.exit 0))) (.seq (.block 1 (rF [oM
 21 5,oF 22 3 2,oL 23 22,oM 24 6,oA 25 4 23 24,oS 26 4 25,oM 27 1,oM 28 5,oC 29 .sub 27 28,o 30 (.call false (cf 47) [(.s 26),(.s 29)]),
 oC 31 .add 21 30,oM 5 31])) (rF [oM 19 6,oD 20 .add 19 1,oM 6 20])))))) (.seq (rF [oM 32 5,oM 4 32]) .ret)))))⟩
def f48:F:=⟨10,false,[.s 2],(.seq (rF [oQ 1 4 0,oB 2 false]) (.seq (rF [oK 3 4 1,o 4 (.call false (cf 47) [(.s 3),(ci 601)]),oD 5
 .leq 4 600,oM 6 5,gK 6 true 7 4 1,og 6 true 8 (.call false (cf 68) [(.s 7),(ci 40)]),oW 9 6 8,oM 2 9]) .ret))⟩
def f49:F:=⟨57,false,[.s 6],(.seq (rF [oQ 3 4 0,oB 6 false]) (.seq (.seq (rF [oF 8 0 3,oL 9 8,oD 10 .eql 9 3,oM 11 10,gM 11 true
 12 2,gT 11 true 13 12,oW 14 11 13]) (.cond (.s 14) (.seq (rF [oB 6 false]) .ret) .skip)) (.seq (.seq (rT [oF 15 0 3,oL 16 15,oD 17 .eql 16
 3,oM 18 17,gF 18 false 19 0 3,gL 18 false 20 19,gD 18 false 21 .eql 20 2,oV 22 18 21,oM 23 22,gF 23 true 24 2 3,gL 23 true 25 24,gM
 23 true 26 1,gN 23 true 27 26,gC 23 true 28 .geq 25 27,gM 23 true 29 28,gM 29 false 30 1,gF 29 false 31 2 3,gL 29 false 32 31,gI 29 false
 33 6 30 32,gG 29 false 34 1 33,gR 29 false 35 34,gF 29 false 36 1 3,gL 29 false 37 36,gC 29 false 38 .neq 35 37,og 23 true 39 (.pick (.s
 29) (cb true) (.s 38)),oW 40 23 39]) (.cond (.s 40) (.seq (rF [oB 6 false]) .ret) .skip)) (.seq (.seq (rF [oI 7 0]) (.block 0 (.loop (.seq (.seq
 (rF [oM 41 7,oF 42 3 3,oL 43 42,oN 44 43,oC 45 .lss 41 44]) (.cond (.s 45) .skip (.exit 0))) (.seq (.block 1 (.seq (rF [oF 48 3 3,oL 49
 48,oM 50 7,oA 51 4 49 50,oS 52 4 51,oM 53 1,oM 54 2,o 55 (.call false (cf 49) [(.s 52),(.s 53),(.s 54)]),oT 56 55]) (.cond (.s 56) (.seq
 (rF [oB 6 false]) .ret) .skip))) (rF [oM 46 7,oD 47 .add 46 1,oM 7 47])))))) (.seq (rF [oB 6 true]) .ret)))))⟩
def f51:F:=⟨8,false,[.s 2],(.seq (rF [o 1 (.boxH 4 (.s 0)),oB 2 false]) (.seq (rF [o 3 (.allocH [zi]),on (.store 1 (.s 3) (ci 0))])
 (.seq (rF [o 4 (.allocH [(.t .nilf)])]) (.seq (rF [o 5 (.mkfn 70 [] [(.s 3),(.s 4)]),oO 1 4 5]) (.seq (rF [oR 6 4,o 7 (.call true (.s 6) [(.s 1),(ci 1)]),oM 2 7]) .ret)))))⟩
def f56:F:=⟨82,false,[.s 6],(.seq (rF [oI 6 0]) (.seq (.seq (rF [oM 9 0,o 10 (.nilchk (.s 9)),oG 11 0 10,oR 12 11]) (.block 0 (.seq
 (rF [oD 14 .eql 12 1,oM 13 14]) (.cond (.s 13) (.seq (rF [oM 15 0,o 16 (.nilchk (.s 15)),oG 17 2 16,oR 18 17,oM 6 18]) .ret) (.seq (rF [oD
 20 .eql 12 2,oM 19 20]) (.cond (.s 19) (.seq (rT [oM 21 2,oM 22 0,o 23 (.nilchk (.s 22)),oG 24 2 23,oR 25 24,o 26 (.call false (cf 72)
 [(.s 21),(.s 25)]),oM 27 0,o 28 (.nilchk (.s 27)),oG 29 1 28,oR 30 29,o 31 (.iaddrA 9 1 (.g 0) (.s 30)),oR 32 31,oC 33 .and 26 32,oM
 6 33]) .ret) (.seq (rF [oD 35 .eql 12 3,oM 34 35]) (.cond (.s 34) (.seq (rT [oM 36 1,oM 37 0,o 38 (.nilchk (.s 37)),oG 39 2 38,oR 40 39,
 o 41 (.call false (cf 72) [(.s 36),(.s 40)]),oM 42 0,o 43 (.nilchk (.s 42)),oG 44 1 43,oR 45 44,o 46 (.iaddrA 9 1 (.g 0) (.s 45)),oR 47
 46,oC 48 .and 41 47,oM 6 48]) .ret) .skip)))))))) (.seq (rF [o 7 (.allocL [zi,zi,zi])]) (.seq (.seq (rF [oM 49 0,o 50 (.nilchk (.s 49)),
 oG 51 3 50,oR 52 51,oN 53 52,oI 54 0]) (.block 1 (.loop (.seq (rF [oC 55 .lss 54 53]) (.seq (.cond (.s 55) .skip (.exit 1)) (.seq (.block
 2 (.seq (rF [oM 56 54,oM 8 56]) (rF [oM 57 8,oM 58 0,o 59 (.nilchk (.s 58)),oG 60 3 59,oR 61 60,oM 62 8,oA 63 4 61 62,oM 64 1,oM 65
 2,o 66 (.call false (cf 56) [(.s 63),(.s 64),(.s 65)]),o 67 (.iaddrAL 3 1 (.s 7) (.s 57)),oP 1 67 66]))) (rF [oD 68 .add 54 1,oM 54 68])))))))
 (.seq (rT [oM 69 0,o 70 (.nilchk (.s 69)),oG 71 0 70,oR 72 71,oK 73 3 7,o 74 (.call false (cf 73) [(.s 72),(.s 73)]),oM 75 0,o 76 (.nilchk
 (.s 75)),oG 77 1 76,oR 78 77,o 79 (.iaddrA 9 1 (.g 0) (.s 78)),oR 80 79,oC 81 .and 74 80,oM 6 81]) .ret)))))⟩
def f60:F:=⟨15,true,[.s 2,.s 3],(.seq (rF [o 1 (.boxH 4 (.s 0)),o 2 (.mv (.c zn)),o 3 (.mv (.c zn))]) (.seq (.seq (rF [oS 6 4 1,o
 7 (.call false (cf 51) [(.s 6)]),oT 8 7]) (.cond (.s 8) (.seq (rF [o 2 (.mv (.c zn)),o 3 (.mv (.c zn))]) .ret) .skip)) (.seq (rF [o 4 (.allocH
 [zb,zb,zb,zb,zb,zb,zb,zb,zb,zb,zb,zb,zb,zb,zb,zb,zb,zb,zb,zb,zb,zb,zb,zb,zb,zb,zb,zb,zb,zb,zb,zb]),o 5 (.allocH
 [zb,zb,zb,zb,zb,zb,zb,zb,zb,zb,zb,zb,zb,zb,zb,zb,zb,zb,zb,zb,zb,zb,zb,zb,zb,zb,zb,zb,zb,zb,zb,zb])]) (.seq (rF
 [o 9 (.mkfn 77 [] [(.s 4),(.s 5)]),o 10 (.call true (cf 76) [(.s 1),(.s 9)])]) (.seq (rT [oS 11 32 4,o 12 (.fcall (cf 78) [(.s 11)]),oS
 13 32 5,o 14 (.fcall (cf 78) [(.s 13)]),oM 2 12,oM 3 14]) .ret)))))⟩
def f61:F:=⟨8,false,[.l 4 true 4],(.seq (rF [o 4 (.allocL [zi,zi,zi,zn])]) (.seq (rF [oM 5 1,oM 6 0,o 7 (.build [zi,zi,zi,zn]
 [(0,1,(ci 1)),(1,1,(.s 5)),(2,1,(.s 6))]),oP 4 4 7]) .ret))⟩
def f62:F:=⟨8,false,[.l 4 true 4],(.seq (rF [o 4 (.allocL [zi,zi,zi,zn])]) (.seq (rF [oM 5 1,oM 6 0,o 7 (.build [zi,zi,zi,zn]
 [(0,1,(ci 2)),(1,1,(.s 5)),(2,1,(.s 6))]),oP 4 4 7]) .ret))⟩
def f63:F:=⟨15,false,[.l 8 true 4],(.seq (rF [oQ 6 4 2,oQ 7 4 3,o 8 (.allocL [zi,zi,zi,zn])]) (.seq (rF [oM 9 0,oM 10 1,oK 11 4
 6,oK 12 4 7,o 13 (.bslice 4 2 [zi,zi,zi,zn] [(0,(.s 11)),(1,(.s 12))]),o 14 (.build [zi,zi,zi,zn] [(0,1,(.s 9)),(1,1,(.s 10)),
 (3,1,(.s 13))]),oP 4 8 14]) .ret))⟩
def f64:F:=⟨66,false,[.s 2,.s 3,.s 4],(.seq (rF [oQ 1 4 0,oI 2 0,oI 3 0,oI 4 0]) (.seq (rF [oK 16 4 1,o 17 (.build [zn,zn,zn,
 zn] [(0,4,(.s 16))]),o 5 (.allocL [zn,zn,zn,zn]),oP 4 5 17]) (.seq (.seq (rF [oK 19 4 5,o 20 (.call false (cf 79) [(.s 19)]),oM 18 20,
 oX 21 18 0,oX 22 18 1,oM 6 21,oM 7 22]) (.seq (rF [oM 23 6,oD 24 .neq 23 0]) (.cond (.s 24) (.seq (rF [oM 25 6,oM 26 7,oM 2 25,oM 3 26,
 oI 4 (-1)]) .ret) .skip))) (.seq (.seq (rF [oK 27 4 5,o 28 (.mkfn 80 [(.s 27)] []),oK 29 4 5,o 30 (.mkfn 81 [(.s 29)] []),oK 31 4 5,o 32
 (.mkfn 82 [(.s 31)] []),o 33 (.build [(.t .nilf),(.t .nilf),(.t .nilf)] [(0,1,(.s 28)),(1,1,(.s 30)),(2,1,(.s 32))]),oI 34 0]) (.block
 0 (.loop (.seq (rF [oD 35 .lss 34 3]) (.seq (.cond (.s 35) .skip (.exit 0)) (.seq (.block 1 (.seq (rF [o 36 (.idxA false 3 1 (.s 33) (.s 34)),
 oM 9 36]) (.seq (rF [oM 37 9,o 38 (.call false (.s 37) []),oM 10 38]) (.seq (rF [oM 39 10,oD 40 .neq 39 0]) (.cond (.s 40) (.seq (rF [oM 41
 10,oM 2 41,oI 3 (-1),oI 4 (-1)]) .ret) .skip))))) (rF [oD 42 .add 34 1,oM 34 42]))))))) (.seq (rF [o 43 (.mkmap),oM 11 43]) (.seq (.seq
 (rF [oF 44 3 1,oL 45 44,oN 46 45,oI 47 0]) (.block 2 (.loop (.seq (rF [oC 48 .lss 47 46]) (.seq (.cond (.s 48) .skip (.exit 2)) (.seq (.block
 3 (.seq (rF [oM 49 47,oA 50 7 45 47,oS 51 7 50,o 13 (.allocL [ze,zi,zn,zn,zn,zn,zb]),oM 12 49,oP 7 13 51]) (.seq (rF [oK 53 4 5,oM
 54 12,oK 55 7 13,oM 56 11,o 57 (.call true (cf 83) [(.s 53),(.s 54),(.s 55),(.s 56)]),oM 52 57,oX 58 52 0,oX 59 52 1,oM 14 58,oM 15
 59]) (.seq (rF [oM 60 14,oD 61 .neq 60 0]) (.cond (.s 61) (.seq (rF [oM 62 14,oM 63 12,oM 64 15,oM 2 62,oM 3 63,oM 4 64]) .ret) .skip)))))
 (rF [oD 65 .add 47 1,oM 47 65]))))))) (.seq (rF [oI 2 0,oI 3 (-1),oI 4 (-1)]) .ret)))))))⟩
def f65:F:=⟨58,false,[.s 2,.s 3,.s 4],(.seq (rF [oQ 1 4 0,oI 2 0,oI 3 0,oI 4 0]) (.seq (rF [oK 12 4 1,o 13 (.call false (cf 84)
 [(.s 12)]),oM 11 13,oX 14 11 0,oX 15 11 1,oM 5 14,oM 6 15]) (.seq (.seq (rF [oM 16 5,oD 17 .neq 16 0]) (.cond (.s 17) (.seq (rF [oM 18
 5,oM 19 6,oM 2 18,oM 3 19,oI 4 (-1)]) .ret) .skip)) (.seq (.seq (rF [oI 7 0]) (.block 0 (.loop (.seq (.seq (rF [oM 20 7,oD 21 .lss 20 3])
 (.cond (.s 21) .skip (.exit 0))) (.seq (.block 1 (.seq (.seq (rF [oM 24 7]) (.block 2 (.seq (rF [oD 26 .eql 24 0,oM 25 26]) (.cond (.s 25) (rF
 [oK 27 4 1,o 28 (.call false (cf 85) [(.s 27)]),oM 5 28]) (.seq (rF [oD 30 .eql 24 1,oM 29 30]) (.cond (.s 29) (rF [oK 31 4 1,o 32 (.call
 false (cf 86) [(.s 31)]),oM 5 32]) (.seq (rF [oD 34 .eql 24 2,oM 33 34]) (.cond (.s 33) (rF [oK 35 4 1,o 36 (.call false (cf 87) [(.s 35)]),
 oM 5 36]) .skip)))))))) (.seq (rF [oM 37 5,oD 38 .neq 37 0]) (.cond (.s 38) (.seq (rF [oM 39 5,oM 2 39,oI 3 (-1),oI 4 (-1)]) .ret) .skip))))
 (rF [oM 22 7,oD 23 .add 22 1,oM 7 23])))))) (.seq (.seq (rF [oI 8 0]) (.block 3 (.loop (.seq (.seq (rF [oM 40 8,oF 41 3 1,oL 42 41,oN 43
 42,oC 44 .lss 40 43]) (.cond (.s 44) .skip (.exit 3))) (.seq (.block 4 (.seq (rF [oK 48 4 1,oM 49 8,o 50 (.call false (cf 88) [(.s 48),(.s
 49)]),oM 47 50,oX 51 47 0,oX 52 47 1,oM 9 51,oM 10 52]) (.seq (rF [oM 53 9,oD 54 .neq 53 0]) (.cond (.s 54) (.seq (rF [oM 55 9,oM 56 8,
 oM 57 10,oM 2 55,oM 3 56,oM 4 57]) .ret) .skip)))) (rF [oM 45 8,oD 46 .add 45 1,oM 8 46])))))) (.seq (rF [oI 2 0,oI 3 (-1),oI 4 (-1)]) .ret))))))⟩
def f67:F:=⟨65,false,[.s 8],(.seq (rF [oQ 4 4 0,oQ 5 3 1,oB 8 false]) (.seq (rF [oF 10 3 4,oL 11 10,oM 12 2,oA 13 7 11 12,oG 14
 4 13,oR 15 14,oM 16 3,oA 17 11 15 16,oS 18 11 17,o 9 (.allocL [zi,zi,zi,zi,zi,zi,zn,zn,zb,zi,zi]),oP 11 9 18]) (.seq (.seq (rT
 [oF 19 1 5,oL 20 19,oM 21 2,oA 22 1 20 21,oR 23 22,oF 24 1 9,oL 25 24,oC 26 .neq 23 25,oM 27 26,gF 27 false 28 3 9,gK 27 false 29 4
 28,gF 27 false 30 0 5,gL 27 false 31 30,gF 27 false 32 0 5,gL 27 false 33 32,og 27 false 34 (.call false (cf 27) [(.s 29),(.s 31),(.s
 33)]),gD 27 false 35 .neq 34 1,oV 36 27 35]) (.cond (.s 36) (.seq (rF [oB 8 false]) .ret) .skip)) (.seq (.seq (rF [oF 37 0 9,oL 38 37]) (.block
 0 (.seq (rF [oD 40 .eql 38 6,oM 39 40]) (.cond (.s 39) (.seq (rF [oF 41 1 5,oL 42 41,oF 43 9 9,oL 44 43,oA 45 1 42 44,oR 46 45,oD 47 .eql
 46 (-1),oM 8 47]) .ret) (.seq (rF [oD 49 .eql 38 7,oM 48 49]) (.cond (.s 48) (.seq (rT [oF 50 1 5,oL 51 50,oF 52 9 9,oL 53 52,oA 54 1 51
 53,oR 55 54,oF 56 3 4,oL 57 56,oF 58 9 9,oL 59 58,oA 60 7 57 59,oG 61 1 60,oR 62 61,oD 63 .sub 62 1,oC 64 .eql 55 63,oM 8 64]) .ret)
 .skip)))))) (.seq (rF [oB 8 true]) .ret)))))⟩
def f68:F:=⟨29,false,[.s 4],(.seq (rF [oQ 2 4 0,oB 4 false]) (.seq (.seq (rF [oM 6 1,oD 7 .lss 6 1,oM 8 7,gK 8 false 9 4 2,og 8 false
 10 (.call false (cf 89) [(.s 9)]),gT 8 false 11 10,oV 12 8 11]) (.cond (.s 12) (.seq (rF [oB 4 false]) .ret) .skip)) (.seq (.seq (rF [oI 5
 0]) (.block 0 (.loop (.seq (.seq (rF [oM 13 5,oF 14 3 2,oL 15 14,oN 16 15,oC 17 .lss 13 16]) (.cond (.s 17) .skip (.exit 0))) (.seq (.block
 1 (.seq (rF [oF 20 3 2,oL 21 20,oM 22 5,oA 23 4 21 22,oS 24 4 23,oM 25 1,oD 26 .sub 25 1,o 27 (.call false (cf 68) [(.s 24),(.s 26)]),
 oT 28 27]) (.cond (.s 28) (.seq (rF [oB 4 false]) .ret) .skip))) (rF [oM 18 5,oD 19 .add 18 1,oM 5 19])))))) (.seq (rF [oB 4 true]) .ret))))⟩
def f70:F:=⟨41,true,[.s 6],(.seq (rF [oB 6 false]) (.seq (rF [oR 8 2,oD 9 .add 8 1,oO 1 2 9]) (.seq (.seq (rF [oR 10 2,oD 11 .gtr 10
 600,oM 12 11,gM 12 false 13 1,gD 12 false 14 .gtr 13 40,oV 15 12 14,oM 16 15,gM 16 false 17 0,og 16 false 18 (.call false (cf 71) [(.s
 17)]),gT 16 false 19 18,oV 20 16 19]) (.cond (.s 20) (.seq (rF [oB 6 false]) .ret) .skip)) (.seq (.seq (rF [oM 21 0,o 22 (.nilchk (.s 21)),
 oG 23 3 22,oR 24 23,oN 25 24,oI 26 0]) (.block 0 (.loop (.seq (rF [oC 27 .lss 26 25]) (.seq (.cond (.s 27) .skip (.exit 0)) (.seq (.block
 1 (.seq (rF [oM 28 26,oM 7 28]) (.seq (rT [oR 29 3,oM 30 0,o 31 (.nilchk (.s 30)),oG 32 3 31,oR 33 32,oM 34 7,oA 35 4 33 34,oM 36 1,
 oD 37 .add 36 1,o 38 (.call true (.s 29) [(.s 35),(.s 37)]),oT 39 38]) (.cond (.s 39) (.seq (rF [oB 6 false]) .ret) .skip)))) (rF [oD 40 .add
 26 1,oM 26 40]))))))) (.seq (rF [oB 6 true]) .ret)))))⟩
def f71:F:=⟨162,false,[.s 2],(.seq (rF [oB 2 false]) (.seq (.seq (rF [oM 3 0,o 4 (.nilchk (.s 3)),oG 5 1 4,oR 6 5,oD 7 .lss 6 1,oM
 8 7,gM 8 false 9 0,og 8 false 10 (.nilchk (.s 9)),gG 8 false 11 1 10,gR 8 false 12 11,gD 8 false 13 .gtr 12 8,oV 14 8 13]) (.cond (.s 14)
 (.seq (rF [oB 2 false]) .ret) .skip)) (.seq (.seq (rF [oM 15 0,o 16 (.nilchk (.s 15)),oG 17 0 16,oR 18 17]) (.block 0 (.seq (rF [oD 20 .eql
 18 1,oM 19 20]) (.cond (.s 19) (.seq (rT [oM 21 0,o 22 (.nilchk (.s 21)),oG 23 3 22,oR 24 23,oN 25 24,oD 26 .eql 25 0,oM 27 26,gM 27
 true 28 0,og 27 true 29 (.nilchk (.s 28)),gG 27 true 30 2 29,gR 27 true 31 30,gD 27 true 32 .geq 31 0,oW 33 27 32,oM 34 33,gM 34 true
 35 0,og 34 true 36 (.nilchk (.s 35)),gG 34 true 37 2 36,gR 34 true 38 37,gM 34 true 39 0,og 34 true 40 (.nilchk (.s 39)),gG 34 true 41
 1 40,gR 34 true 42 41,og 34 true 43 (.iaddrA 9 1 (.g 0) (.s 42)),gR 34 true 44 43,gC 34 true 45 .leq 38 44,oW 46 34 45,oM 2 46]) .ret)
 (.seq (.seq (rF [oD 48 .eql 18 2,oM 47 48]) (.cond (.s 47) .skip (rF [oD 49 .eql 18 3,oM 47 49]))) (.cond (.s 47) (.seq (rF [oM 50 0,o 51
 (.nilchk (.s 50)),oG 52 3 51,oR 53 52,oN 54 53,oD 55 .eql 54 0,oM 56 55,gM 56 true 57 0,og 56 true 58 (.nilchk (.s 57)),gG 56 true 59
 2 58,gR 56 true 60 59,gD 56 true 61 .geq 60 0,oW 62 56 61,oM 63 62,gM 63 true 64 0,og 63 true 65 (.nilchk (.s 64)),gG 63 true 66 2 65,
 gR 63 true 67 66,gD 63 true 68 .lss 67 32,oW 69 63 68,oM 2 69]) .ret) .skip)))))) (.seq (.seq (rF [oM 70 0,o 71 (.nilchk (.s 70)),oG 72
 2 71,oR 73 72,oD 74 .neq 73 0]) (.cond (.s 74) (.seq (rF [oB 2 false]) .ret) .skip)) (.seq (.seq (rF [oM 75 0,o 76 (.nilchk (.s 75)),oG 77
 0 76,oR 78 77]) (.block 1 (.seq (rF [oD 80 .eql 78 4,oM 79 80]) (.cond (.s 79) (.seq (rT [oM 81 0,o 82 (.nilchk (.s 81)),oG 83 3 82,oR 84
 83,oM 85 0,o 86 (.nilchk (.s 85)),oG 87 1 86,oR 88 87,o 89 (.bslice 1 1 [zi] [(0,(.s 88))]),o 90 (.call false (cf 91) [(.s 84),(.s 89)]),
 oM 2 90]) .ret) (.seq (.seq (rF [oD 92 .eql 78 5,oM 91 92]) (.cond (.s 91) .skip (.seq (rF [oD 93 .eql 78 6,oM 91 93]) (.cond (.s 91) .skip
 (.seq (rF [oD 94 .eql 78 7,oM 91 94]) (.cond (.s 91) .skip (.seq (rF [oD 95 .eql 78 8,oM 91 95]) (.cond (.s 91) .skip (.seq (rF [oD 96 .eql
 78 9,oM 91 96]) (.cond (.s 91) .skip (rF [oD 97 .eql 78 10,oM 91 97]))))))))))) (.cond (.s 91) (.seq (rT [oM 98 0,o 99 (.nilchk (.s 98)),
 oG 100 3 99,oR 101 100,oM 102 0,o 103 (.nilchk (.s 102)),oG 104 1 103,oR 105 104,oM 106 0,o 107 (.nilchk (.s 106)),oG 108 1 107,oR 109
 108,o 110 (.bslice 1 2 [zi] [(0,(.s 105)),(1,(.s 109))]),o 111 (.call false (cf 91) [(.s 101),(.s 110)]),oM 2 111]) .ret) (.seq (.seq
 (rF [oD 113 .eql 78 11,oM 112 113]) (.cond (.s 112) .skip (.seq (rF [oD 114 .eql 78 12,oM 112 114]) (.cond (.s 112) .skip (rF [oD 115 .eql
 78 13,oM 112 115]))))) (.cond (.s 112) (.seq (rT [oM 116 0,o 117 (.nilchk (.s 116)),oG 118 1 117,oR 119 118,oD 120 .eql 119 1,oM 121 120,
 gM 121 true 122 0,og 121 true 123 (.nilchk (.s 122)),gG 121 true 124 3 123,gR 121 true 125 124,gN 121 true 126 125,gD 121 true 127 .eql
 126 2,oW 128 121 127,oM 129 128,gM 129 true 130 0,og 129 true 131 (.nilchk (.s 130)),gG 129 true 132 3 131,gR 129 true 133 132,og 129
 true 134 (.iaddrS 4 (.s 133) (ci 0)),gG 129 true 135 1 134,gR 129 true 136 135,gM 129 true 137 0,og 129 true 138 (.nilchk (.s 137)),gG 129
 true 139 3 138,gR 129 true 140 139,og 129 true 141 (.iaddrS 4 (.s 140) (ci 1)),gG 129 true 142 1 141,gR 129 true 143 142,gC 129 true 144
 .eql 136 143,oW 145 129 144,oM 2 145]) .ret) (.seq (rF [oD 147 .eql 78 14,oM 146 147]) (.cond (.s 146) (.seq (rT [oM 148 0,o 149 (.nilchk
 (.s 148)),oG 150 3 149,oR 151 150,oM 152 0,o 153 (.nilchk (.s 152)),oG 154 1 153,oR 155 154,oM 156 0,o 157 (.nilchk (.s 156)),oG 158
 1 157,oR 159 158,o 160 (.bslice 1 3 [zi] [(0,(ci 1)),(1,(.s 155)),(2,(.s 159))]),o 161 (.call false (cf 91) [(.s 151),(.s 160)]),oM
 2 161]) .ret) .skip)))))))))) (.seq (rF [oB 2 false]) .ret))))))⟩
def f72:F:=⟨13,false,[.s 4],(.seq (rF [oI 4 0]) (.seq (.seq (rF [oM 5 1,oM 6 0,oN 7 6,oC 8 .lss 5 7]) (.cond (.s 8) (.seq (rF [oM 9
 0,oM 10 1,oA 11 1 9 10,oR 12 11,oM 4 12]) .ret) .skip)) (.seq (rF [oI 4 0]) .ret)))⟩
def f73:F:=⟨69,false,[.s 4],(.seq (rF [oQ 3 3 1,oI 4 0]) (.seq (rT [o 7 (.iaddrAL 3 1 (.s 3) (ci 0)),oL 8 7,o 9 (.iaddrAL 3 1 (.s 3)
 (ci 1)),oL 10 9,oM 5 8,oM 6 10]) (.seq (.seq (rF [oM 11 0]) (.block 0 (.seq (.block 11 (.seq (.block 10 (.seq (.block 9 (.seq (.block 8 (.seq
 (.block 7 (.seq (.block 6 (.seq (.block 5 (.seq (.block 4 (.seq (.block 3 (.seq (.block 2 (.seq (.block 1 (.seq (.seq (.seq (rF [oD 13 .eql 11
 4,oM 12 13]) (.cond (.s 12) (.exit 1) .skip)) (.seq (.seq (rF [oD 15 .eql 11 5,oM 14 15]) (.cond (.s 14) (.exit 2) .skip)) (.seq (.seq (rF
 [oD 17 .eql 11 6,oM 16 17]) (.cond (.s 16) (.exit 3) .skip)) (.seq (.seq (rF [oD 19 .eql 11 7,oM 18 19]) (.cond (.s 18) (.exit 4) .skip)) (.seq
 (.seq (rF [oD 21 .eql 11 9,oM 20 21]) (.cond (.s 20) (.exit 5) .skip)) (.seq (.seq (rF [oD 23 .eql 11 8,oM 22 23]) (.cond (.s 22) (.exit 6)
 .skip)) (.seq (.seq (rF [oD 25 .eql 11 10,oM 24 25]) (.cond (.s 24) (.exit 7) .skip)) (.seq (.seq (rF [oD 27 .eql 11 11,oM 26 27]) (.cond (.s
 26) (.exit 8) .skip)) (.seq (.seq (rF [oD 29 .eql 11 13,oM 28 29]) (.cond (.s 28) (.exit 9) .skip)) (.seq (.seq (rF [oD 31 .eql 11 12,oM 30
 31]) (.cond (.s 30) (.exit 10) .skip)) (.seq (rF [oD 33 .eql 11 14,oM 32 33]) (.cond (.s 32) (.exit 11) .skip)))))))))))) (.exit 0))) (.seq
 (.seq (rF [oM 34 5,o 35 (.un .xor (.s 34)),oM 4 35]) .ret) (.exit 0)))) (.seq (.seq (rF [oM 36 5,oM 37 6,oC 38 .and 36 37,oM 4 38]) .ret)
 (.exit 0)))) (.seq (.seq (rF [oM 39 5,oM 40 6,oC 41 .or 39 40,oM 4 41]) .ret) (.exit 0)))) (.seq (.seq (rF [oM 42 5,oM 43 6,oC 44 .xor 42
 43,oM 4 44]) .ret) (.exit 0)))) (rF [oM 45 6,o 46 (.un .neg (.s 45)),oM 6 46]))) (.seq (.seq (rF [oM 47 5,oM 48 6,oC 49 .add 47 48,oM 4
 49]) .ret) (.exit 0)))) (.seq (.seq (rF [oM 50 5,oM 51 6,oC 52 .mul 50 51,oM 4 52]) .ret) (.exit 0)))) (.seq (.seq (rF [oM 53 5,oM 54 6,
 oC 55 .eql 53 54,o 56 (.call false (cf 92) [(.s 55)]),oM 4 56]) .ret) (.exit 0)))) (.seq (rF [oM 57 5,oM 58 6,oC 59 .eql 57 58]) (.cond (.s
 59) (.seq (rF [oI 4 1]) .ret) .skip)))) (.seq (.seq (rF [oM 60 5,oM 61 6,oC 62 .lss 60 61,o 63 (.call false (cf 92) [(.s 62)]),oM 4 63])
 .ret) (.exit 0)))) (.seq (.seq (.seq (rF [oM 64 5,oD 65 .eql 64 1]) (.cond (.s 65) (.seq (rF [oM 66 6,oM 4 66]) .ret) .skip)) (.seq (rF [o
 67 (.iaddrAL 3 1 (.s 3) (ci 2)),oL 68 67,oM 4 68]) .ret)) (.exit 0))))) (.seq (rF [oI 4 0]) .ret))))⟩
def f74:F:=⟨1,true,[],.ext .sortI⟩
def f75:F:=⟨1,true,[],.ext .compactI⟩
def f76:F:=⟨31,true,[],(.seq (.seq (rF [oM 5 0,o 6 (.nilchk (.s 5)),oG 7 3 6,oR 8 7,oN 9 8,oD 10 .eql 9 0]) (.cond (.s 10) (rF [oM
 11 1,oM 12 0,o 13 (.call true (.s 11) [(.s 12)])]) .skip)) (.seq (rF [oM 14 0,o 15 (.nilchk (.s 14)),oG 16 3 15,oR 17 16,oN 18 17,oI 19
 0]) (.block 0 (.loop (.seq (rF [oC 20 .lss 19 18]) (.seq (.cond (.s 20) .skip (.exit 0)) (.seq (.block 1 (.seq (rF [oM 21 19,oM 4 21]) (rF [oM
 22 0,o 23 (.nilchk (.s 22)),oG 24 3 23,oR 25 24,oM 26 4,oA 27 4 25 26,oM 28 1,o 29 (.call true (cf 76) [(.s 27),(.s 28)])]))) (rF [oD 30 .add 19 1,oM 19 30]))))))))⟩
def f77:F:=⟨22,true,[],(.seq (rF [oM 4 0,o 5 (.nilchk (.s 4)),oG 6 0 5,oR 7 6]) (.block 0 (.seq (rF [oD 9 .eql 7 3,oM 8 9]) (.cond
 (.s 8) (rF [oM 10 0,o 11 (.nilchk (.s 10)),oG 12 2 11,oR 13 12,o 14 (.iaddrA 32 1 (.s 1) (.s 13)),on (.store 1 (.s 14) (cb true))]) (.seq
 (rF [oD 16 .eql 7 2,oM 15 16]) (.cond (.s 15) (rF [oM 17 0,o 18 (.nilchk (.s 17)),oG 19 2 18,oR 20 19,o 21 (.iaddrA 32 1 (.s 2) (.s 20)),
 on (.store 1 (.s 21) (cb true))]) .skip))))))⟩
def f78:F:=⟨18,true,[.s 2],(.seq (rF [oQ 1 32 0,o 2 (.mv (.c zn))]) (.seq (rF [o 3 (.mv (.c zn))]) (.seq (.seq (rF [oK 6 32 1,oI 7 0])
 (.block 0 (.loop (.seq (rF [oD 8 .lss 7 32]) (.seq (.cond (.s 8) .skip (.exit 0)) (.seq (.block 1 (.seq (rF [oM 9 7,o 10 (.idxA false 32 1 (.s
 6) (.s 7)),oM 4 9,oM 5 10]) (.seq (rF [oM 11 5]) (.cond (.s 11) (rF [oM 12 3,oM 13 4,o 14 (.bslice 1 1 [zi] [(0,(.s 13))]),o 15 (.append
 1 8 (.s 12) (.s 14)),oM 3 15]) .skip)))) (rF [oD 16 .add 7 1,oM 7 16]))))))) (.seq (rF [oM 17 3,oM 2 17]) .ret))))⟩
def f79:F:=⟨56,false,[.s 2,.s 3],(.seq (rF [oQ 1 4 0,oI 2 0,oI 3 0]) (.seq (rF [oF 7 0 1,oK 8 4 7,o 4 (.allocL [zn,zn,zn,zn]),
 oP 4 4 8]) (.seq (.seq (rF [oF 9 0 4,oL 10 9,oN 11 10,oD 12 .gtr 11 32,oM 13 12,gF 13 false 14 1 4,gL 13 false 15 14,gN 13 false 16 15,
 gD 13 false 17 .gtr 16 6,oV 18 13 17,oM 19 18,gF 19 false 20 2 4,gL 19 false 21 20,gN 19 false 22 21,gD 19 false 23 .gtr 22 4,oV 24 19
 23,oM 25 24,gF 25 false 26 3 4,gL 25 false 27 26,gN 25 false 28 27,gD 25 false 29 .gtr 28 4,oV 30 25 29]) (.cond (.s 30) (.seq (rF [oI
 2 2,oI 3 (-1)]) .ret) .skip)) (.seq (.seq (rF [oF 31 3 4,oL 32 31,oN 33 32,oI 34 0]) (.block 0 (.loop (.seq (rF [oC 35 .lss 34 33]) (.seq
 (.cond (.s 35) .skip (.exit 0)) (.seq (.block 1 (.seq (rF [oM 36 34,oA 37 7 32 34,oS 38 7 37,o 6 (.allocL [ze,zi,zn,zn,zn,zn,zb]),oM
 5 36,oP 7 6 38]) (.seq (rF [oF 39 1 6,oL 40 39,oD 41 .gtr 40 48,oM 42 41,gF 42 false 43 4 6,gL 42 false 44 43,gN 42 false 45 44,gD 42
 false 46 .gtr 45 64,oV 47 42 46,oM 48 47,gF 48 false 49 5 6,gL 48 false 50 49,gN 48 false 51 50,gD 48 false 52 .gtr 51 8,oV 53 48 52])
 (.cond (.s 53) (.seq (rF [oM 54 5,oI 2 2,oM 3 54]) .ret) .skip)))) (rF [oD 55 .add 34 1,oM 34 55]))))))) (.seq (rF [oI 2 0,oI 3 (-1)]) .ret)))))⟩
def f80:F:=⟨62,false,[.s 2],(.seq (rF [oQ 1 4 0,oI 2 0]) (.seq (rF [o 6 (.mkmap),oM 3 6]) (.seq (.seq (rF [oF 7 0 1,oF 8 0 7,oL 9
 8,oN 10 9,oI 11 0]) (.block 0 (.loop (.seq (rF [oC 12 .lss 11 10]) (.seq (.cond (.s 12) .skip (.exit 0)) (.seq (.block 1 (.seq (rF [oA 13 6
 9 11,oS 14 6 13,o 5 (.allocL [ze,zi,zi,zi,zb,zi]),oP 6 5 14]) (.block 2 (.seq (.seq (rF [oF 16 0 5,oL 17 16,o 18 (.call false (cf 95)
 [(.s 17)]),oT 19 18,oM 15 19]) (.cond (.s 15) .skip (.seq (rF [oF 20 1 5,oL 21 20,oD 22 .lss 21 1,oM 15 22]) (.cond (.s 15) .skip (.seq
 (rF [oF 23 1 5,oL 24 23,oD 25 .gtr 24 8,oM 15 25]) (.cond (.s 15) .skip (rF [oF 26 2 5,oL 27 26,oF 28 1 5,oL 29 28,o 30 (.conv .u64 (.s
 29)),o 31 (.bin .shl (ci 1) (.s 30)),o 32 (.call false (cf 96) [(.s 27),(.s 31)]),oT 33 32,oM 15 33]))))))) (.cond (.s 15) (.seq (rF [oI
 2 1]) .ret) (.seq (.seq (rF [oF 35 3 5,oL 36 35,oD 37 .neq 36 (-1),oM 38 37,gF 38 true 39 3 5,gL 38 true 40 39,gF 38 true 41 0 1,gF 38
 true 42 3 41,gL 38 true 43 42,gN 38 true 44 43,og 38 true 45 (.call false (cf 96) [(.s 40),(.s 44)]),gT 38 true 46 45,oW 47 38 46,oM 34
 47]) (.cond (.s 34) .skip (rF [oF 48 5 5,oL 49 48,oF 50 0 1,oF 51 1 50,oL 52 51,oN 53 52,o 54 (.call false (cf 96) [(.s 49),(.s 53)]),
 oT 55 54,oM 34 55]))) (.cond (.s 34) (.seq (rF [oI 2 1]) .ret) (.seq (rF [oM 57 3,oF 58 0 5,oL 59 58,o 60 (.call true (cf 97) [(.s 57),(.s
 59)]),oM 56 60]) (.cond (.s 56) (.seq (rF [oI 2 41]) .ret) .skip))))))))) (rF [oD 61 .add 11 1,oM 11 61]))))))) (.seq (rF [oI 2 0]) .ret))))⟩
def f81:F:=⟨62,false,[.s 2],(.seq (rF [oQ 1 4 0,oI 2 0]) (.seq (rF [o 6 (.mkmap),oM 3 6]) (.seq (.seq (rF [oF 7 0 1,oF 8 1 7,oL 9
 8,oN 10 9,oI 11 0]) (.block 0 (.loop (.seq (rF [oC 12 .lss 11 10]) (.seq (.cond (.s 12) .skip (.exit 0)) (.seq (.block 1 (.seq (rF [oA 13 11
 9 11,oS 14 11 13,o 5 (.allocL [ze,ze,zi,zi,zi,zn,zi,zi,zi,zn,zn]),oP 11 5 14]) (.block 2 (.seq (.seq (rF [oF 16 0 5,oL 17 16,o
 18 (.call false (cf 95) [(.s 17)]),oT 19 18,oM 15 19]) (.cond (.s 15) .skip (rF [oF 20 1 5,oL 21 20,o 22 (.call false (cf 95) [(.s 21)]),
 oT 23 22,oM 15 23]))) (.cond (.s 15) (.seq (rF [oI 2 1]) .ret) (.seq (rF [oM 25 3,oF 26 0 5,oL 27 26,o 28 (.call true (cf 97) [(.s 25),(.s
 27)]),oM 24 28]) (.cond (.s 24) (.seq (rF [oI 2 41]) .ret) (.seq (.seq (rF [oF 30 2 5,oK 31 4 30,o 32 (.call false (cf 98) [(.s 31)]),oT
 33 32,oM 34 33,gK 34 true 35 4 1,gF 34 true 36 2 5,gK 34 true 37 4 36,gK 34 true 38 4 1,og 34 true 39 (.mkfn 100 [(.s 38)] []),og 34 true
 40 (.call false (cf 99) [(.s 35),(.s 37),(cb true),(.s 39)]),gT 34 true 41 40,oW 42 34 41,oM 29 42]) (.cond (.s 29) .skip (rF [oK 43 4
 1,oF 44 6 5,oK 45 4 44,oK 46 4 1,o 47 (.mkfn 100 [(.s 46)] []),o 48 (.call false (cf 99) [(.s 43),(.s 45),(cb true),(.s 47)]),oT 49
 48,oM 29 49]))) (.cond (.s 29) (.seq (rF [oI 2 60]) .ret) (.seq (.seq (rF [oF 51 10 5,oL 52 51,o 53 (.call false (cf 101) [(.s 52)]),oT 54
 53,oM 50 54]) (.cond (.s 50) .skip (rF [oF 55 10 5,oL 56 55,oK 57 4 1,o 58 (.mkfn 100 [(.s 57)] []),o 59 (.call false (cf 102) [(.s 56),
 (.s 58)]),oT 60 59,oM 50 60]))) (.cond (.s 50) (.seq (rF [oI 2 1]) .ret) .skip))))))))))) (rF [oD 61 .add 11 1,oM 11 61]))))))) (.seq (rF [oI 2 0]) .ret))))⟩
def f82:F:=⟨73,false,[.s 2],(.seq (rF [oQ 1 4 0,oI 2 0]) (.seq (rF [o 8 (.mkmap),oM 3 8]) (.seq (.seq (rF [oF 9 0 1,oF 10 2 9,oL 11
 10,oN 12 11,oI 13 0]) (.block 0 (.loop (.seq (rF [oC 14 .lss 13 12]) (.seq (.cond (.s 14) .skip (.exit 0)) (.seq (.block 1 (.seq (rF [oA 15
 6 11 13,oS 16 6 15,o 5 (.allocL [zi,zi,zi,zi,zn,zi]),oP 6 5 16]) (.seq (.seq (rF [oK 17 4 1,oF 18 0 5,oL 19 18,o 20 (.call false (cf
 100) [(.s 17),(.s 19)]),oT 21 20,oM 22 21,gF 22 false 23 0 1,gF 22 false 24 0 23,gL 22 false 25 24,gF 22 false 26 0 5,gL 22 false 27
 26,gI 22 false 28 6 25 27,gG 22 false 29 1 28,gR 22 false 30 29,gD 22 false 31 .neq 30 1,oV 32 22 31,oM 33 32,gF 33 false 34 0 1,gF 33
 false 35 0 34,gL 33 false 36 35,gF 33 false 37 0 5,gL 33 false 38 37,gI 33 false 39 6 36 38,gG 33 false 40 4 39,gR 33 false 41 40,oV 42
 33 41]) (.cond (.s 42) (.seq (rF [oI 2 1]) .ret) .skip)) (.seq (.seq (rF [oM 44 3,oF 45 0 5,oL 46 45,o 47 (.lookup 0 (.agg []) true (.s 44)
 (.s 46)),oM 43 47,oX 48 43 0,oX 49 43 1,o 6 (.allocL []),oP 0 6 48,oM 7 49]) (.seq (rF [oM 50 7,oM 51 50,gF 51 false 52 5 5,gL 51 false
 53 52,gF 51 false 54 0 1,gF 51 false 55 1 54,gL 51 false 56 55,gN 51 false 57 56,og 51 false 58 (.call false (cf 96) [(.s 53),(.s 57)]),
 gT 51 false 59 58,oV 60 51 59]) (.cond (.s 60) (.seq (rF [oI 2 1]) .ret) .skip))) (.seq (rF [oM 61 3,oF 62 0 5,oL 63 62,o 64 (.build [] []),
 on (.mapupd 0 (.s 61) (.s 63) (.s 64))]) (.seq (rF [oK 65 4 1,oF 66 1 5,oK 67 4 66,oK 68 4 1,o 69 (.mkfn 100 [(.s 68)] []),o 70 (.call false
 (cf 99) [(.s 65),(.s 67),(cb false),(.s 69)]),oT 71 70]) (.cond (.s 71) (.seq (rF [oI 2 60]) .ret) .skip))))))) (rF [oD 72 .add 13 1,oM
 13 72]))))))) (.seq (rF [oI 2 0]) .ret))))⟩
def f83:F:=⟨123,true,[.s 8,.s 9],(.seq (rF [o 4 (.boxH 4 (.s 0)),o 6 (.boxH 7 (.s 2)),oI 8 0,oI 9 0]) (.seq (.block 0 (.seq (rF [oG
 20 0 6,oR 21 20,o 22 (.call false (cf 95) [(.s 21)]),oT 23 22,oM 19 23]) (.cond (.s 19) (.seq (rF [oI 8 1,oI 9 (-1)]) .ret) (.seq (rF [oM
 25 3,oG 26 0 6,oR 27 26,o 28 (.call true (cf 97) [(.s 25),(.s 27)]),oM 24 28]) (.cond (.s 24) (.seq (rF [oI 8 41,oI 9 (-1)]) .ret) (.seq
 (.seq (rF [oG 30 1 6,oR 31 30,oD 32 .lss 31 1,oM 29 32]) (.cond (.s 29) .skip (.seq (rF [oG 33 2 6,oR 34 33,oN 35 34,oG 36 1 6,oR 37 36,
 oC 38 .neq 35 37,oM 29 38]) (.cond (.s 29) .skip (rF [oG 39 3 6,oR 40 39,oN 41 40,oG 42 1 6,oR 43 42,oC 44 .neq 41 43,oM 29 44]))))) (.cond
 (.s 29) (.seq (rF [oI 8 1,oI 9 (-1)]) .ret) (.seq (rF [oG 46 3 6,oR 47 46,o 48 (.mkfn 103 [] [(.s 4)]),o 49 (.call false (cf 102) [(.s 47),
 (.s 48)]),oT 50 49,oM 45 50]) (.cond (.s 45) (.seq (rF [oI 8 1,oI 9 (-1)]) .ret) .skip))))))))) (.seq (rF [oS 51 4 4,oM 52 1,o 53 (.call
 false (cf 104) [(.s 51),(.s 52)]),oM 10 53]) (.seq (.seq (rF [oG 54 2 6,oR 55 54,oN 56 55,oI 57 0]) (.block 1 (.loop (.seq (rF [oC 58 .lss
 57 56]) (.seq (.cond (.s 58) .skip (.exit 1)) (.seq (.block 2 (.seq (rF [oA 59 4 55 57,oS 60 4 59,o 12 (.allocL [zi,zi,zi,zn]),oP 4 12
 60]) (.seq (rF [oS 61 4 4,oK 62 4 12,oM 63 10,o 64 (.call false (cf 99) [(.s 61),(.s 62),(cb false),(.s 63)]),oT 65 64]) (.cond (.s 65)
 (.seq (rF [oI 8 60,oI 9 (-1)]) .ret) .skip)))) (rF [oD 66 .add 57 1,oM 57 66]))))))) (.seq (.seq (rF [oG 67 4 6,oR 68 67,oN 69 68,oI 70
 0]) (.block 3 (.loop (.seq (rF [oC 71 .lss 70 69]) (.seq (.cond (.s 71) .skip (.exit 3)) (.seq (.block 4 (.seq (rF [oM 72 70,oA 73 11 68 70,
 oS 74 11 73,o 14 (.allocL [zi,zi,zi,zi,zi,zi,zn,zn,zb,zi,zi]),oM 13 72,oP 11 14 74]) (.seq (rF [oS 75 4 4,oM 76 1,oS 77 7 6,oK
 78 11 14,o 79 (.call false (cf 105) [(.s 75),(.s 76),(.s 77),(.s 78)]),oM 15 79]) (.seq (rF [oM 80 15,oD 81 .neq 80 0]) (.cond (.s 81)
 (.seq (rF [oM 82 15,oM 83 13,oM 8 82,oM 9 83]) .ret) .skip))))) (rF [oD 84 .add 70 1,oM 70 84]))))))) (.seq (.seq (rF [oG 85 5 6,oR 86 85,
 oN 87 86,oI 88 0]) (.block 5 (.loop (.seq (rF [oC 89 .lss 88 87]) (.seq (.cond (.s 89) .skip (.exit 5)) (.seq (.block 6 (.seq (rF [oA 90 6 86
 88,oS 91 6 90,o 17 (.allocH [zi,zn,zi,zi,zi,zn]),oO 6 17 91]) (.seq (rF [o 92 (.mkfn 106 [] [(.s 6),(.s 17)]),oM 18 92]) (.block 7
 (.seq (.seq (rF [oG 94 0 17,oR 95 94,oG 96 1 6,oR 97 96,o 98 (.call false (cf 96) [(.s 95),(.s 97)]),oT 99 98,oM 93 99]) (.cond (.s 93)
 .skip (.seq (rF [oG 100 1 17,oR 101 100,o 102 (.call false (cf 101) [(.s 101)]),oT 103 102,oM 93 103]) (.cond (.s 93) .skip (rF [oG 104 1
 17,oR 105 104,oM 106 18,o 107 (.call false (cf 102) [(.s 105),(.s 106)]),oT 108 107,oM 93 108]))))) (.cond (.s 93) (.seq (rF [oI 8 1,oI
 9 (-1)]) .ret) (.seq (.seq (rF [oG 110 2 17,oS 111 4 110,oG 112 0 4,oG 113 0 112,oR 114 113,o 115 (.call false (cf 107) [(.s 111),(.s 114),
 (cb false)]),oT 116 115,oM 109 116]) (.cond (.s 109) .skip (rF [oG 117 2 17,oS 118 4 117,oM 119 10,o 120 (.call false (cf 108) [(.s 118),
 (.s 119)]),oT 121 120,oM 109 121]))) (.cond (.s 109) (.seq (rF [oI 8 60,oI 9 (-1)]) .ret) .skip)))))))) (rF [oD 122 .add 88 1,oM 88 122])))))))
 (.seq (rF [oI 8 0,oI 9 (-1)]) .ret)))))))⟩
def f84:F:=⟨56,false,[.s 2,.s 3],(.seq (rF [oQ 1 4 0,oI 2 0,oI 3 0]) (.seq (.seq (rF [oF 6 0 1,oL 7 6,oN 8 7,oD 9 .gtr 8 32,oM
 10 9,gF 10 false 11 1 1,gL 10 false 12 11,gN 10 false 13 12,gD 10 false 14 .gtr 13 6,oV 15 10 14,oM 16 15,gF 16 false 17 2 1,gL 16 false
 18 17,gN 16 false 19 18,gD 16 false 20 .gtr 19 4,oV 21 16 20,oM 22 21,gF 22 false 23 3 1,gL 22 false 24 23,gN 22 false 25 24,gD 22 false
 26 .gtr 25 4,oV 27 22 26]) (.cond (.s 27) (.seq (rF [oI 2 2,oI 3 (-1)]) .ret) .skip)) (.seq (.seq (rF [oI 4 0]) (.block 0 (.loop (.seq (.seq
 (rF [oM 28 4,oF 29 3 1,oL 30 29,oN 31 30,oC 32 .lss 28 31]) (.cond (.s 32) .skip (.exit 0))) (.seq (.block 1 (.seq (rF [oF 35 3 1,oL 36
 35,oM 37 4,oA 38 7 36 37,oS 39 7 38,o 5 (.allocL [ze,zi,zn,zn,zn,zn,zb]),oP 7 5 39]) (.seq (rF [oF 40 1 5,oL 41 40,oD 42 .gtr 41
 48,oM 43 42,gF 43 false 44 4 5,gL 43 false 45 44,gN 43 false 46 45,gD 43 false 47 .gtr 46 64,oV 48 43 47,oM 49 48,gF 49 false 50 5 5,
 gL 49 false 51 50,gN 49 false 52 51,gD 49 false 53 .gtr 52 8,oV 54 49 53]) (.cond (.s 54) (.seq (rF [oM 55 4,oI 2 2,oM 3 55]) .ret) .skip))))
 (rF [oM 33 4,oD 34 .add 33 1,oM 4 34])))))) (.seq (rF [oI 2 0,oI 3 (-1)]) .ret))))⟩
def f85:F:=⟨81,false,[.s 2],(.seq (rF [oQ 1 4 0,oI 2 0]) (.seq (.seq (rF [oI 3 0]) (.block 0 (.loop (.seq (.seq (rF [oM 6 3,oF 7 0 1,
 oL 8 7,oN 9 8,oC 10 .lss 6 9]) (.cond (.s 10) .skip (.exit 0))) (.seq (.block 1 (.seq (rF [oF 13 0 1,oL 14 13,oM 15 3,oA 16 6 14 15,oS
 17 6 16,o 4 (.allocL [ze,zi,zi,zi,zb,zi]),oP 6 4 17]) (.seq (.seq (rT [oF 18 0 4,oL 19 18,o 20 (.call false (cf 109) [(.s 19)]),oT
 21 20,oM 22 21,gF 22 false 23 1 4,gL 22 false 24 23,gD 22 false 25 .lss 24 1,oV 26 22 25,oM 27 26,gF 27 false 28 1 4,gL 27 false 29 28,
 gD 27 false 30 .gtr 29 8,oV 31 27 30,oM 32 31,gF 32 false 33 2 4,gL 32 false 34 33,gD 32 false 35 .lss 34 0,oV 36 32 35,oM 37 36,gF 37
 false 38 2 4,gL 37 false 39 38,gF 37 false 40 1 4,gL 37 false 41 40,og 37 false 42 (.call false (cf 33) [(.s 41)]),gC 37 false 43 .geq 39
 42,oV 44 37 43,oM 45 44,gF 45 false 46 3 4,gL 45 false 47 46,gD 45 false 48 .lss 47 (-1),oV 49 45 48,oM 50 49,gF 50 false 51 3 4,gL
 50 false 52 51,gF 50 false 53 3 1,gL 50 false 54 53,gN 50 false 55 54,gC 50 false 56 .geq 52 55,oV 57 50 56,oM 58 57,gF 58 false 59 5
 4,gL 58 false 60 59,gF 58 false 61 1 1,gL 58 false 62 61,gN 58 false 63 62,og 58 false 64 (.call false (cf 110) [(.s 60),(.s 63)]),gT
 58 false 65 64,oV 66 58 65]) (.cond (.s 66) (.seq (rF [oI 2 1]) .ret) .skip)) (.seq (rF [oI 5 0]) (.block 2 (.loop (.seq (.seq (rF [oM 67 5,
 oM 68 3,oC 69 .lss 67 68]) (.cond (.s 69) .skip (.exit 2))) (.seq (.block 3 (.seq (rT [oF 72 0 1,oL 73 72,oM 74 5,oA 75 6 73 74,oG 76 0
 75,oR 77 76,oF 78 0 4,oL 79 78,oC 80 .eql 77 79]) (.cond (.s 80) (.seq (rF [oI 2 41]) .ret) .skip))) (rF [oM 70 5,oD 71 .add 70 1,oM 5
 71]))))))))) (rF [oM 11 3,oD 12 .add 11 1,oM 3 12])))))) (.seq (rF [oI 2 0]) .ret)))⟩
def f86:F:=⟨95,false,[.s 2],(.seq (rF [oQ 1 4 0,oI 2 0]) (.seq (.seq (rF [oI 3 0]) (.block 0 (.loop (.seq (.seq (rF [oM 7 3,oF 8 1 1,
 oL 9 8,oN 10 9,oC 11 .lss 7 10]) (.cond (.s 11) .skip (.exit 0))) (.seq (.block 1 (.seq (rF [oF 14 1 1,oL 15 14,oM 16 3,oA 17 11 15 16,
 oS 18 11 17,o 4 (.allocL [ze,ze,zi,zi,zi,zn,zi,zi,zi,zn,zn]),oP 11 4 18]) (.seq (.seq (rF [oF 19 0 4,oL 20 19,o 21 (.call false
 (cf 109) [(.s 20)]),oT 22 21,oM 23 22,gF 23 false 24 1 4,gL 23 false 25 24,og 23 false 26 (.call false (cf 109) [(.s 25)]),gT 23 false
 27 26,oV 28 23 27]) (.cond (.s 28) (.seq (rF [oI 2 1]) .ret) .skip)) (.seq (.seq (rF [oI 5 0]) (.block 2 (.loop (.seq (.seq (rF [oM 29 5,oM
 30 3,oC 31 .lss 29 30]) (.cond (.s 31) .skip (.exit 2))) (.seq (.block 3 (.seq (rT [oF 34 1 1,oL 35 34,oM 36 5,oA 37 11 35 36,oG 38 0 37,
 oR 39 38,oF 40 0 4,oL 41 40,oC 42 .eql 39 41]) (.cond (.s 42) (.seq (rF [oI 2 41]) .ret) .skip))) (rF [oM 32 5,oD 33 .add 32 1,oM 5 33]))))))
 (.seq (.seq (rF [oF 43 2 4,oK 44 4 43,o 45 (.call false (cf 111) [(.s 44)]),oT 46 45,oM 47 46,gK 47 true 48 4 1,gF 47 true 49 2 4,gK 47
 true 50 4 49,og 47 true 51 (.call false (cf 112) [(.s 48),(.s 50),(cb true),(ci (-1))]),gT 47 true 52 51,oW 53 47 52,oM 54 53,gK 54 false
 55 4 1,gF 54 false 56 6 4,gK 54 false 57 4 56,og 54 false 58 (.call false (cf 112) [(.s 55),(.s 57),(cb true),(ci (-1))]),gT 54 false
 59 58,oV 60 54 59]) (.cond (.s 60) (.seq (rF [oI 2 60]) .ret) .skip)) (.seq (.seq (rF [oI 6 0]) (.block 4 (.loop (.seq (.seq (rF [oM 61 6,oF
 62 10 4,oL 63 62,oN 64 63,oC 65 .lss 61 64]) (.cond (.s 65) .skip (.exit 4))) (.seq (.block 5 (.seq (rT [oF 68 10 4,oL 69 68,oM 70 6,oA
 71 1 69 70,oR 72 71,oF 73 0 1,oL 74 73,oN 75 74,o 76 (.call false (cf 110) [(.s 72),(.s 75)]),oT 77 76,oM 78 77,gF 78 false 79 0 1,
 gL 78 false 80 79,gF 78 false 81 10 4,gL 78 false 82 81,gM 78 false 83 6,gI 78 false 84 1 82 83,gR 78 false 85 84,gI 78 false 86 6 80 85,
 gG 78 false 87 3 86,gR 78 false 88 87,gD 78 false 89 .neq 88 (-1),oV 90 78 89]) (.cond (.s 90) (.seq (rF [oI 2 1]) .ret) .skip))) (rF [oM
 66 6,oD 67 .add 66 1,oM 6 67])))))) (.seq (rF [oF 91 10 4,oL 92 91,o 93 (.call false (cf 113) [(.s 92)]),oT 94 93]) (.cond (.s 94) (.seq
 (rF [oI 2 1]) .ret) .skip)))))))) (rF [oM 12 3,oD 13 .add 12 1,oM 3 13])))))) (.seq (rF [oI 2 0]) .ret)))⟩
def f87:F:=⟨82,false,[.s 2],(.seq (rF [oQ 1 4 0,oI 2 0]) (.seq (.seq (rF [oI 3 0]) (.block 0 (.loop (.seq (.seq (rF [oM 6 3,oF 7 2 1,
 oL 8 7,oN 9 8,oC 10 .lss 6 9]) (.cond (.s 10) .skip (.exit 0))) (.seq (.block 1 (.seq (rF [oF 13 2 1,oL 14 13,oM 15 3,oA 16 6 14 15,oS
 17 6 16,o 4 (.allocL [zi,zi,zi,zi,zn,zi]),oP 6 4 17]) (.seq (.seq (rF [oF 18 0 4,oL 19 18,oF 20 0 1,oL 21 20,oN 22 21,o 23 (.call
 false (cf 110) [(.s 19),(.s 22)]),oT 24 23,oM 25 24,gF 25 false 26 0 1,gL 25 false 27 26,gF 25 false 28 0 4,gL 25 false 29 28,gI 25 false
 30 6 27 29,gG 25 false 31 3 30,gR 25 false 32 31,gD 25 false 33 .neq 32 (-1),oV 34 25 33,oM 35 34,gF 35 false 36 0 1,gL 35 false 37 36,
 gF 35 false 38 0 4,gL 35 false 39 38,gI 35 false 40 6 37 39,gG 35 false 41 1 40,gR 35 false 42 41,gD 35 false 43 .neq 42 1,oV 44 35 43,
 oM 45 44,gF 45 false 46 0 1,gL 45 false 47 46,gF 45 false 48 0 4,gL 45 false 49 48,gI 45 false 50 6 47 49,gG 45 false 51 4 50,gR 45 false
 52 51,oV 53 45 52,oM 54 53,gF 54 false 55 5 4,gL 54 false 56 55,gF 54 false 57 1 1,gL 54 false 58 57,gN 54 false 59 58,og 54 false 60
 (.call false (cf 110) [(.s 56),(.s 59)]),gT 54 false 61 60,oV 62 54 61]) (.cond (.s 62) (.seq (rF [oI 2 1]) .ret) .skip)) (.seq (.seq (rF
 [oI 5 0]) (.block 2 (.loop (.seq (.seq (rF [oM 63 5,oM 64 3,oC 65 .lss 63 64]) (.cond (.s 65) .skip (.exit 2))) (.seq (.block 3 (.seq (rT [oF
 68 2 1,oL 69 68,oM 70 5,oA 71 6 69 70,oG 72 0 71,oR 73 72,oF 74 0 4,oL 75 74,oC 76 .eql 73 75]) (.cond (.s 76) (.seq (rF [oI 2 1]) .ret)
 .skip))) (rF [oM 66 5,oD 67 .add 66 1,oM 5 67])))))) (.seq (rF [oK 77 4 1,oF 78 1 4,oK 79 4 78,o 80 (.call false (cf 112) [(.s 77),(.s
 79),(cb false),(ci (-1))]),oT 81 80]) (.cond (.s 81) (.seq (rF [oI 2 60]) .ret) .skip)))))) (rF [oM 11 3,oD 12 .add 11 1,oM 3 12])))))) (.seq (rF [oI 2 0]) .ret)))⟩
def f88:F:=⟨173,false,[.s 4,.s 5],(.seq (rF [oQ 2 4 0,oI 4 0,oI 5 0]) (.seq (rF [oF 15 3 2,oL 16 15,oM 17 1,oA 18 7 16 17,oS 19
 7 18,o 6 (.allocL [ze,zi,zn,zn,zn,zn,zb]),oP 7 6 19]) (.seq (.seq (rF [oF 20 0 6,oL 21 20,o 22 (.call false (cf 109) [(.s 21)]),oT
 23 22]) (.cond (.s 23) (.seq (rF [oI 4 1,oI 5 (-1)]) .ret) .skip)) (.seq (.seq (rF [oI 7 0]) (.block 0 (.loop (.seq (.seq (rF [oM 24 7,oM 25
 1,oC 26 .lss 24 25]) (.cond (.s 26) .skip (.exit 0))) (.seq (.block 1 (.seq (rT [oF 29 3 2,oL 30 29,oM 31 7,oA 32 7 30 31,oG 33 0 32,oR
 34 33,oF 35 0 6,oL 36 35,oC 37 .eql 34 36]) (.cond (.s 37) (.seq (rF [oI 4 41,oI 5 (-1)]) .ret) .skip))) (rF [oM 27 7,oD 28 .add 27 1,oM
 7 28])))))) (.seq (.seq (rF [oF 38 1 6,oL 39 38,oD 40 .lss 39 1,oM 41 40,gF 41 false 42 2 6,gL 41 false 43 42,gN 41 false 44 43,gF 41
 false 45 1 6,gL 41 false 46 45,gC 41 false 47 .neq 44 46,oV 48 41 47,oM 49 48,gF 49 false 50 3 6,gL 49 false 51 50,gN 49 false 52 51,
 gF 49 false 53 1 6,gL 49 false 54 53,gC 49 false 55 .neq 52 54,oV 56 49 55]) (.cond (.s 56) (.seq (rF [oI 4 1,oI 5 (-1)]) .ret) .skip)) (.seq
 (.seq (rF [oI 8 0]) (.block 2 (.loop (.seq (.seq (rF [oM 57 8,oF 58 3 6,oL 59 58,oN 60 59,oC 61 .lss 57 60]) (.cond (.s 61) .skip (.exit
 2))) (.seq (.block 3 (.seq (rT [oF 64 3 6,oL 65 64,oM 66 8,oA 67 1 65 66,oR 68 67,oF 69 1 2,oL 70 69,oN 71 70,o 72 (.call false (cf 110)
 [(.s 68),(.s 71)]),oT 73 72]) (.cond (.s 73) (.seq (rF [oI 4 1,oI 5 (-1)]) .ret) .skip))) (rF [oM 62 8,oD 63 .add 62 1,oM 8 63])))))) (.seq
 (.seq (rF [oI 9 0]) (.block 4 (.loop (.seq (.seq (rF [oM 74 9,oF 75 2 6,oL 76 75,oN 77 76,oC 78 .lss 74 77]) (.cond (.s 78) .skip (.exit
 4))) (.seq (.block 5 (.seq (rT [oK 81 4 2,oF 82 2 6,oL 83 82,oM 84 9,oA 85 4 83 84,oS 86 4 85,oM 87 1,o 88 (.call false (cf 112) [(.s
 81),(.s 86),(cb false),(.s 87)]),oT 89 88]) (.cond (.s 89) (.seq (rF [oI 4 60,oI 5 (-1)]) .ret) .skip))) (rF [oM 79 9,oD 80 .add 79 1,
 oM 9 80])))))) (.seq (.seq (rF [oI 10 0]) (.block 6 (.loop (.seq (.seq (rF [oM 90 10,oF 91 4 6,oL 92 91,oN 93 92,oC 94 .lss 90 93]) (.cond
 (.s 94) .skip (.exit 6))) (.seq (.block 7 (.seq (rT [oK 97 4 2,oM 98 1,oF 99 4 6,oL 100 99,oM 101 10,oA 102 11 100 101,oS 103 11 102,o
 104 (.call false (cf 114) [(.s 97),(.s 98),(.s 103)]),oM 11 104]) (.seq (rF [oM 105 11,oD 106 .neq 105 0]) (.cond (.s 106) (.seq (rF [oM
 107 11,oM 108 10,oM 4 107,oM 5 108]) .ret) .skip)))) (rF [oM 95 10,oD 96 .add 95 1,oM 10 96])))))) (.seq (.seq (rF [oI 12 0]) (.block 8
 (.loop (.seq (.seq (rF [oM 109 12,oF 110 5 6,oL 111 110,oN 112 111,oC 113 .lss 109 112]) (.cond (.s 113) .skip (.exit 8))) (.seq (.block
 9 (.seq (rF [oF 116 5 6,oL 117 116,oM 118 12,oA 119 6 117 118,oS 120 6 119,o 13 (.allocL [zi,zn,zi,zi,zi,zn]),oP 6 13 120]) (.seq
 (.seq (rF [oF 121 0 13,oL 122 121,oF 123 1 6,oL 124 123,o 125 (.call false (cf 110) [(.s 122),(.s 124)]),oT 126 125,oM 127 126,gF 127
 false 128 1 13,gL 127 false 129 128,og 127 false 130 (.call false (cf 113) [(.s 129)]),gT 127 false 131 130,oV 132 127 131]) (.cond (.s 132)
 (.seq (rF [oI 4 1,oI 5 (-1)]) .ret) .skip)) (.seq (.seq (rF [oI 14 0]) (.block 10 (.loop (.seq (.seq (rF [oM 133 14,oF 134 1 13,oL 135 134,
 oN 136 135,oC 137 .lss 133 136]) (.cond (.s 137) .skip (.exit 10))) (.seq (.block 11 (.seq (rT [oF 140 1 13,oL 141 140,oM 142 14,oA 143 1
 141 142,oR 144 143,oF 145 1 6,oL 146 145,o 147 (.call false (cf 110) [(.s 144),(.s 146)]),oT 148 147,oM 149 148,gF 149 false 150 1 13,
 gL 149 false 151 150,gM 149 false 152 14,gI 149 false 153 1 151 152,gR 149 false 154 153,gF 149 false 155 0 13,gL 149 false 156 155,gC
 149 false 157 .eql 154 156,oV 158 149 157]) (.cond (.s 158) (.seq (rF [oI 4 1,oI 5 (-1)]) .ret) .skip))) (rF [oM 138 14,oD 139 .add 138 1,
 oM 14 139])))))) (.seq (rF [oF 159 2 13,oK 160 4 159,oF 161 0 2,oL 162 161,o 163 (.call false (cf 24) [(.s 160),(.s 162),(cb false)]),
 oT 164 163,oM 165 164,gK 165 false 166 4 2,gF 165 false 167 2 13,gK 165 false 168 4 167,gM 165 false 169 1,og 165 false 170 (.call false
 (cf 115) [(.s 166),(.s 168),(cb true),(.s 169)]),gT 165 false 171 170,oV 172 165 171]) (.cond (.s 172) (.seq (rF [oI 4 60,oI 5 (-1)]) .ret)
 .skip)))))) (rF [oM 114 12,oD 115 .add 114 1,oM 12 115])))))) (.seq (rF [oI 4 0,oI 5 (-1)]) .ret))))))))))⟩
def f89:F:=⟨142,false,[.s 2],(.seq (rF [oQ 1 4 0,oB 2 false]) (.seq (.seq (rT [oF 3 0 1,oL 4 3,o 5 (.call false (cf 116) [(.s 4)]),
 oF 6 3 1,oL 7 6,oN 8 7,oC 9 .neq 5 8,oM 10 9,gF 10 false 11 1 1,gL 10 false 12 11,gD 10 false 13 .lss 12 1,oV 14 10 13,oM 15 14,gF
 15 false 16 1 1,gL 15 false 17 16,gD 15 false 18 .gtr 17 8,oV 19 15 18]) (.cond (.s 19) (.seq (rF [oB 2 false]) .ret) .skip)) (.seq (.seq
 (rF [oF 20 0 1,oL 21 20]) (.block 0 (.seq (rF [oD 23 .eql 21 1,oM 22 23]) (.cond (.s 22) (.seq (rT [oF 24 2 1,oL 25 24,oD 26 .geq 25 0,oM
 27 26,gF 27 true 28 2 1,gL 27 true 29 28,gF 27 true 30 1 1,gL 27 true 31 30,og 27 true 32 (.call false (cf 33) [(.s 31)]),gC 27 true 33
 .lss 29 32,oW 34 27 33,oM 2 34]) .ret) (.seq (.seq (rF [oD 36 .eql 21 2,oM 35 36]) (.cond (.s 35) .skip (rF [oD 37 .eql 21 3,oM 35 37])))
 (.cond (.s 35) (.seq (rF [oF 38 2 1,oL 39 38,oD 40 .geq 39 0,oM 41 40,gF 41 true 42 2 1,gL 41 true 43 42,gD 41 true 44 .lss 43 32,oW 45
 41 44,oM 2 45]) .ret) (.seq (rF [oD 47 .eql 21 4,oM 46 47]) (.cond (.s 46) (.seq (rT [oF 48 2 1,oL 49 48,oD 50 .eql 49 0,oM 51 50,gF 51
 true 52 3 1,gL 51 true 53 52,og 51 true 54 (.iaddrS 4 (.s 53) (ci 0)),gG 51 true 55 1 54,gR 51 true 56 55,gF 51 true 57 1 1,gL 51 true
 58 57,gC 51 true 59 .eql 56 58,oW 60 51 59,oM 2 60]) .ret) (.seq (.seq (rF [oD 62 .eql 21 11,oM 61 62]) (.cond (.s 61) .skip (.seq (rF [oD
 63 .eql 21 12,oM 61 63]) (.cond (.s 61) .skip (rF [oD 64 .eql 21 13,oM 61 64]))))) (.cond (.s 61) (.seq (rT [oF 65 2 1,oL 66 65,oD 67 .eql
 66 0,oM 68 67,gF 68 true 69 1 1,gL 68 true 70 69,gD 68 true 71 .eql 70 1,oW 72 68 71,oM 73 72,gF 73 true 74 3 1,gL 73 true 75 74,og
 73 true 76 (.iaddrS 4 (.s 75) (ci 0)),gG 73 true 77 1 76,gR 73 true 78 77,gF 73 true 79 3 1,gL 73 true 80 79,og 73 true 81 (.iaddrS 4 (.s
 80) (ci 1)),gG 73 true 82 1 81,gR 73 true 83 82,gC 73 true 84 .eql 78 83,oW 85 73 84,oM 2 85]) .ret) (.seq (rF [oD 87 .eql 21 14,oM 86
 87]) (.cond (.s 86) (.seq (rT [oF 88 2 1,oL 89 88,oD 90 .eql 89 0,oM 91 90,gF 91 true 92 3 1,gL 91 true 93 92,og 91 true 94 (.iaddrS 4
 (.s 93) (ci 0)),gG 91 true 95 1 94,gR 91 true 96 95,gD 91 true 97 .eql 96 1,oW 98 91 97,oM 99 98,gF 99 true 100 3 1,gL 99 true 101 100,
 og 99 true 102 (.iaddrS 4 (.s 101) (ci 1)),gG 99 true 103 1 102,gR 99 true 104 103,gF 99 true 105 1 1,gL 99 true 106 105,gC 99 true 107
 .eql 104 106,oW 108 99 107,oM 109 108,gF 109 true 110 3 1,gL 109 true 111 110,og 109 true 112 (.iaddrS 4 (.s 111) (ci 2)),gG 109 true 113
 1 112,gR 109 true 114 113,gF 109 true 115 1 1,gL 109 true 116 115,gC 109 true 117 .eql 114 116,oW 118 109 117,oM 2 118]) .ret) .skip))))))))))))
 (.seq (rT [oF 119 2 1,oL 120 119,oD 121 .eql 120 0,oM 122 121,gF 122 true 123 3 1,gL 122 true 124 123,og 122 true 125 (.iaddrS 4 (.s 124)
 (ci 0)),gG 122 true 126 1 125,gR 122 true 127 126,gF 122 true 128 1 1,gL 122 true 129 128,gC 122 true 130 .eql 127 129,oW 131 122 130,
 oM 132 131,gF 132 true 133 3 1,gL 132 true 134 133,og 132 true 135 (.iaddrS 4 (.s 134) (ci 1)),gG 132 true 136 1 135,gR 132 true 137 136,
 gF 132 true 138 1 1,gL 132 true 139 138,gC 132 true 140 .eql 137 139,oW 141 132 140,oM 2 141]) .ret))))⟩
def f90:F:=⟨50,false,[.s 6],(.seq (rF [oQ 3 4 0,oI 6 0]) (.seq (.seq (rF [oF 9 0 3,oL 10 9,oD 11 .eql 10 2]) (.cond (.s 11) (.seq (rT
 [oM 12 2,oF 13 2 3,oL 14 13,o 15 (.call false (cf 118) [(.s 12),(.s 14)]),oF 16 1 3,oL 17 16,o 18 (.call false (cf 117) [(.s 15),(.s
 17)]),oM 6 18]) .ret) .skip)) (.seq (.seq (rF [oF 19 0 3,oL 20 19,oD 21 .eql 20 3]) (.cond (.s 21) (.seq (rT [oM 22 1,oF 23 2 3,oL 24 23,
 o 25 (.call false (cf 118) [(.s 22),(.s 24)]),oF 26 1 3,oL 27 26,o 28 (.call false (cf 117) [(.s 25),(.s 27)]),oM 6 28]) .ret) .skip))
 (.seq (rF [o 7 (.mv (.c zn))]) (.seq (.seq (rF [oI 8 0]) (.block 0 (.loop (.seq (.seq (rF [oM 29 8,oF 30 3 3,oL 31 30,oN 32 31,oC 33 .lss
 29 32]) (.cond (.s 33) .skip (.exit 0))) (.seq (.block 1 (rF [oM 36 7,oF 37 3 3,oL 38 37,oM 39 8,oA 40 4 38 39,oS 41 4 40,oM 42 1,oM 43
 2,o 44 (.call false (cf 90) [(.s 41),(.s 42),(.s 43)]),o 45 (.bslice 1 1 [zi] [(0,(.s 44))]),o 46 (.append 1 8 (.s 36) (.s 45)),oM 7 46]))
 (rF [oM 34 8,oD 35 .add 34 1,oM 8 35])))))) (.seq (rF [oK 47 4 3,oM 48 7,o 49 (.call false (cf 119) [(.s 47),(.s 48)]),oM 6 49]) .ret))))))⟩
def f91:F:=⟨27,false,[.s 4],(.seq (rF [oB 4 false]) (.seq (.seq (rF [oM 7 0,oN 8 7,oM 9 1,oN 10 9,oC 11 .neq 8 10]) (.cond (.s 11)
 (.seq (rF [oB 4 false]) .ret) .skip)) (.seq (.seq (rF [oM 12 1,oN 13 12,oI 14 0]) (.block 0 (.loop (.seq (rF [oC 15 .lss 14 13]) (.seq (.cond
 (.s 15) .skip (.exit 0)) (.seq (.block 1 (.seq (rF [oM 16 14,oA 17 1 12 14,oR 18 17,oM 5 16,oM 6 18]) (.seq (rF [oM 19 0,oM 20 5,oA 21
 4 19 20,oG 22 1 21,oR 23 22,oM 24 6,oC 25 .neq 23 24]) (.cond (.s 25) (.seq (rF [oB 4 false]) .ret) .skip)))) (rF [oD 26 .add 14 1,oM 14
 26]))))))) (.seq (rF [oB 4 true]) .ret))))⟩
def f92:F:=⟨4,false,[.s 2],(.seq (rF [oI 2 0]) (.seq (.seq (rF [oM 3 0]) (.cond (.s 3) (.seq (rF [oI 2 1]) .ret) .skip)) (.seq (rF [oI 2 0]) .ret)))⟩
def f95:F:=⟨28,false,[.s 2],(.seq (rF [oB 2 false]) (.seq (.seq (rF [oM 4 0,o 5 (.slen (.s 4)),oD 6 .lss 5 1,oM 7 6,gM 7 false 8 0,
 og 7 false 9 (.slen (.s 8)),gD 7 false 10 .gtr 9 64,oV 11 7 10]) (.cond (.s 11) (.seq (rF [oB 2 false]) .ret) .skip)) (.seq (.seq (rF [oM 12
 0,o 13 (.slen (.s 12)),oI 14 0]) (.block 0 (.loop (.seq (rF [oC 15 .lss 14 13]) (.seq (.cond (.s 15) .skip (.exit 0)) (.seq (.block 1 (.seq
 (rF [oM 16 14,oM 3 16]) (.seq (rF [oM 17 0,oM 18 3,o 19 (.idxS (.s 17) (.s 18)),o 20 (.bin .lss (.s 19) (.c (.t (.int .u8 33)))),oM 21 20,
 gM 21 false 22 0,gM 21 false 23 3,og 21 false 24 (.idxS (.s 22) (.s 23)),og 21 false 25 (.bin .gtr (.s 24) (.c (.t (.int .u8 126)))),oV 26
 21 25]) (.cond (.s 26) (.seq (rF [oB 2 false]) .ret) .skip)))) (rF [oD 27 .add 14 1,oM 14 27]))))))) (.seq (rF [oB 2 true]) .ret))))⟩
def f96:F:=⟨12,false,[.s 4],(.seq (rF [oB 4 false]) (.seq (rF [oM 5 0,oD 6 .geq 5 0,oM 7 6,gM 7 true 8 0,gM 7 true 9 1,gC 7 true
 10 .lss 8 9,oW 11 7 10,oM 4 11]) .ret))⟩
def f97:F:=⟨17,true,[.s 4],(.seq (rF [oB 4 false]) (.seq (rF [oM 8 0,oM 9 1,o 10 (.lookup 2 (.agg []) true (.s 8) (.s 9)),oM 7 10,
 oX 11 7 0,oX 12 7 1,o 5 (.allocL []),oP 0 5 11,oM 6 12]) (.seq (rF [oM 13 0,oM 14 1,o 15 (.build [] []),on (.mapupd 2 (.s 13) (.s 14)
 (.s 15))]) (.seq (rF [oM 16 6,oM 4 16]) .ret))))⟩
def f98:F:=⟨22,false,[.s 2],(.seq (rF [oQ 1 4 0,oB 2 false]) (.seq (rF [oF 3 0 1,oL 4 3,oD 5 .eql 4 0,oM 6 5,gF 6 true 7 1 1,gL
 6 true 8 7,gD 6 true 9 .eql 8 0,oW 10 6 9,oM 11 10,gF 11 true 12 2 1,gL 11 true 13 12,gD 11 true 14 .eql 13 0,oW 15 11 14,oM 16 15,gF
 16 true 17 3 1,gL 16 true 18 17,gN 16 true 19 18,gD 16 true 20 .eql 19 0,oW 21 16 20,oM 2 21]) .ret))⟩
def f99:F:=⟨25,false,[.s 8],(.seq (rF [oQ 4 4 0,oQ 5 4 1,oB 8 false]) (.seq (rF [oF 9 1 5,oL 10 9,oD 11 .eql 10 1,oM 12 11,gK 12
 true 13 4 5,gF 12 true 14 0 4,gF 12 true 15 0 14,gL 12 true 16 15,gM 12 true 17 2,og 12 true 18 (.call false (cf 107) [(.s 13),(.s 16),
 (.s 17)]),oW 19 12 18,oM 20 19,gK 20 true 21 4 5,gM 20 true 22 3,og 20 true 23 (.call false (cf 108) [(.s 21),(.s 22)]),oW 24 20 23,oM 8 24]) .ret))⟩
def f100:F:=⟨21,false,[.s 4],(.seq (rF [oQ 2 4 0,oB 4 false]) (.seq (rF [oM 5 1,oF 6 0 2,oF 7 0 6,oL 8 7,oN 9 8,o 10 (.call false
 (cf 96) [(.s 5),(.s 9)]),oM 11 10,gF 11 true 12 0 2,gF 11 true 13 0 12,gL 11 true 14 13,gM 11 true 15 1,gI 11 true 16 6 14 15,gG 11 true
 17 3 16,gR 11 true 18 17,gD 11 true 19 .eql 18 (-1),oW 20 11 19,oM 4 20]) .ret))⟩
def f101:F:=⟨20,false,[.s 2],(.seq (rF [oB 2 false]) (.seq (.seq (rF [oI 3 1]) (.block 0 (.loop (.seq (.seq (rF [oM 4 3,oM 5 0,oN 6
 5,oC 7 .lss 4 6]) (.cond (.s 7) .skip (.exit 0))) (.seq (.block 1 (.seq (rT [oM 10 0,oM 11 3,oA 12 1 10 11,oR 13 12,oM 14 0,oM 15 3,oD
 16 .sub 15 1,oA 17 1 14 16,oR 18 17,oC 19 .leq 13 18]) (.cond (.s 19) (.seq (rF [oB 2 false]) .ret) .skip))) (rF [oM 8 3,oD 9 .add 8 1,oM
 3 9])))))) (.seq (rF [oB 2 true]) .ret)))⟩
def f102:F:=⟨9,false,[.s 4],(.seq (rF [o 3 (.boxH 1 (.s 1)),oB 4 false]) (.seq (rF [oM 5 0,o 6 (.mkfn 132 [] [(.s 3)]),o 7 (.call false
 (cf 131) [(.s 5),(.s 6)]),oT 8 7,oM 4 8]) .ret))⟩
def f103:F:=⟨10,false,[.s 3],(.seq (rF [oB 3 false]) (.seq (rF [oM 4 0,oG 5 0 1,oG 6 1 5,oR 7 6,oN 8 7,o 9 (.call false (cf 96) [(.s 4),(.s 8)]),oM 3 9]) .ret))⟩
def f104:F:=⟨10,false,[.s 4],(.seq (rF [o 2 (.boxH 4 (.s 0)),o 4 (.mv (.c (.t .nilf)))]) (.seq (rF [oS 6 4 2,oM 7 1,o 8 (.call false
 (cf 133) [(.s 6),(.s 7)]),o 5 (.allocH [(.t .nilf)]),oO 1 5 8]) (.seq (rF [o 9 (.mkfn 134 [] [(.s 2),(.s 5)]),oM 4 9]) .ret)))⟩
def f105:F:=⟨141,false,[.s 8],(.seq (rF [oQ 4 4 0,oQ 6 7 2,oQ 7 11 3,oI 8 0]) (.seq (rF [oF 15 0 7,oL 16 15,oD 17 .eql 16 6,oM 18
 17,gF 18 false 19 0 7,gL 18 false 20 19,gD 18 false 21 .eql 20 7,oV 22 18 21,oM 9 22]) (.seq (.block 0 (.seq (.seq (rF [oF 24 0 7,oL 25
 24,oD 26 .lss 25 1,oM 23 26]) (.cond (.s 23) .skip (rF [oF 27 0 7,oL 28 27,oD 29 .gtr 28 7,oM 23 29]))) (.cond (.s 23) (.seq (rF [oI 8 70])
 .ret) (.seq (.seq (rF [oF 31 1 7,oL 32 31,oF 33 1 6,oL 34 33,oD 35 .sub 34 1,o 36 (.call false (cf 96) [(.s 32),(.s 35)]),oT 37 36,oM
 30 37]) (.cond (.s 30) .skip (.seq (rF [oF 38 2 7,oL 39 38,oF 40 1 6,oL 41 40,o 42 (.call false (cf 96) [(.s 39),(.s 41)]),oT 43 42,oM
 30 43]) (.cond (.s 30) .skip (rF [oF 44 10 7,oL 45 44,oF 46 0 4,oF 47 1 46,oL 48 47,oN 49 48,o 50 (.call false (cf 96) [(.s 45),(.s 49)]),
 oT 51 50,oM 30 51]))))) (.cond (.s 30) (.seq (rF [oI 8 70]) .ret) (.seq (.seq (rF [oF 53 8 7,oL 54 53,oM 55 54,gF 55 true 56 0 7,gL 55 true
 57 56,gD 55 true 58 .neq 57 3,oW 59 55 58,oM 52 59]) (.cond (.s 52) .skip (rF [oF 60 9 7,oL 61 60,oD 62 .neq 61 0,oM 63 62,gM 63 true
 64 9,gT 63 true 65 64,oW 66 63 65,oM 52 66]))) (.cond (.s 52) (.seq (rF [oI 8 70]) .ret) (.seq (.seq (rF [oF 68 3 7,oF 69 1 68,oL 70 69,
 oD 71 .neq 70 1,oM 67 71]) (.cond (.s 67) .skip (rF [oF 72 3 7,oK 73 4 72,oF 74 0 4,oF 75 0 74,oL 76 75,o 77 (.call false (cf 107) [(.s
 73),(.s 76),(cb false)]),oT 78 77,oM 67 78]))) (.cond (.s 67) (.seq (rF [oI 8 60]) .ret) .skip))))))))) (.seq (rF [o 79 (.mkmap),oM 10 79])
 (.seq (.seq (rF [oF 80 7 7,oL 81 80,oN 82 81,oI 83 0]) (.block 1 (.loop (.seq (rF [oC 84 .lss 83 82]) (.seq (.cond (.s 84) .skip (.exit 1))
 (.seq (.block 2 (.seq (rF [oA 85 5 81 83,oS 86 5 85,o 12 (.allocL [zi,zi,zi,zi,zn]),oP 5 12 86]) (.seq (.seq (rF [oM 88 10,oF 89 0 12,
 oL 90 89,o 91 (.lookup 0 (.agg []) true (.s 88) (.s 90)),oM 87 91,oX 92 87 0,oX 93 87 1,o 13 (.allocL []),oP 0 13 92,oM 14 93]) (.seq
 (rF [oM 94 14,oM 95 94,gF 95 false 96 0 12,gL 95 false 97 96,gF 95 false 98 0 4,gF 95 false 99 0 98,gL 95 false 100 99,gN 95 false 101
 100,og 95 false 102 (.call false (cf 96) [(.s 97),(.s 101)]),gT 95 false 103 102,oV 104 95 103]) (.cond (.s 104) (.seq (rF [oI 8 70]) .ret)
 .skip))) (.seq (rF [oM 105 10,oF 106 0 12,oL 107 106,o 108 (.build [] []),on (.mapupd 0 (.s 105) (.s 107) (.s 108))]) (.seq (rT [oF 109 1
 12,oF 110 1 109,oL 111 110,oF 112 0 4,oF 113 0 112,oL 114 113,oF 115 0 12,oL 116 115,oA 117 6 114 116,oG 118 1 117,oR 119 118,oC 120
 .neq 111 119,oM 121 120,gF 121 false 122 1 12,gK 121 false 123 4 122,gF 121 false 124 0 4,gF 121 false 125 0 124,gL 121 false 126 125,
 og 121 false 127 (.call false (cf 107) [(.s 123),(.s 126),(cb false)]),gT 121 false 128 127,oV 129 121 128]) (.cond (.s 129) (.seq (rF [oI
 8 60]) .ret) .skip)))))) (rF [oD 130 .add 83 1,oM 83 130]))))))) (.seq (.seq (rT [o 131 (.call false (cf 135) []),oF 132 0 7,oL 133 132,o
 134 (.idxA true 8 1 (.s 131) (.s 133)),o 135 (.field false 0 1 (.s 134)),oK 136 4 4,oM 137 1,oK 138 11 7,o 139 (.call false (.s 135) [(.s
 136),(.s 137),(.s 138)]),oT 140 139]) (.cond (.s 140) (.seq (rF [oI 8 70]) .ret) .skip)) (.seq (rF [oI 8 0]) .ret)))))))⟩
def f106:F:=⟨15,false,[.s 4],(.seq (rF [oB 4 false]) (.seq (rF [oM 5 0,oG 6 1 1,oR 7 6,o 8 (.call false (cf 96) [(.s 5),(.s 7)]),
 oM 9 8,gM 9 true 10 0,gG 9 true 11 0 2,gR 9 true 12 11,gC 9 true 13 .neq 10 12,oW 14 9 13,oM 4 14]) .ret))⟩
def f107:F:=⟨14,false,[.s 6],(.seq (rF [o 3 (.boxH 4 (.s 0)),o 4 (.boxH 1 (.s 1)),o 5 (.boxH 1 (.s 2)),oB 6 false]) (.seq (.seq (rF
 [oS 8 4 3,o 9 (.call false (cf 51) [(.s 8)]),oT 10 9]) (.cond (.s 10) (.seq (rF [oB 6 false]) .ret) .skip)) (.seq (rF [o 7 (.allocH [zb]),
 on (.store 1 (.s 7) (cb true))]) (.seq (rF [o 11 (.mkfn 136 [] [(.s 4),(.s 5),(.s 7)]),o 12 (.call true (cf 76) [(.s 3),(.s 11)])]) (.seq (rF [oR 13 7,oM 6 13]) .ret)))))⟩
def f108:F:=⟨20,false,[.s 4],(.seq (rF [oQ 2 4 0,oB 4 false]) (.seq (rF [oK 8 4 2,o 9 (.call true (cf 60) [(.s 8)]),oM 7 9,oX 10 7
 0,oX 11 7 1,oM 5 10,oM 6 11]) (.seq (rF [oM 12 5,oM 13 1,o 14 (.call false (cf 102) [(.s 12),(.s 13)]),oM 15 14,gM 15 true 16 6,gM 15
 true 17 1,og 15 true 18 (.call false (cf 102) [(.s 16),(.s 17)]),oW 19 15 18,oM 4 19]) .ret)))⟩
def f109:F:=⟨28,false,[.s 2],(.seq (rF [oB 2 false]) (.seq (.seq (rF [oI 3 0]) (.block 0 (.loop (.seq (.seq (rF [oM 4 3,oM 5 0,o 6 (.slen
 (.s 5)),oC 7 .lss 4 6]) (.cond (.s 7) .skip (.exit 0))) (.seq (.block 1 (.seq (rF [oM 10 0,oM 11 3,o 12 (.idxS (.s 10) (.s 11)),o 13 (.bin
 .lss (.s 12) (.c (.t (.int .u8 33)))),oM 14 13,gM 14 false 15 0,gM 14 false 16 3,og 14 false 17 (.idxS (.s 15) (.s 16)),og 14 false 18 (.bin
 .gtr (.s 17) (.c (.t (.int .u8 126)))),oV 19 14 18]) (.cond (.s 19) (.seq (rF [oB 2 false]) .ret) .skip))) (rF [oM 8 3,oD 9 .add 8 1,oM 3
 9])))))) (.seq (rF [oM 20 0,o 21 (.slen (.s 20)),oD 22 .geq 21 1,oM 23 22,gM 23 true 24 0,og 23 true 25 (.slen (.s 24)),gD 23 true 26 .leq
 25 64,oW 27 23 26,oM 2 27]) .ret)))⟩
def f110:F:=⟨12,false,[.s 4],(.seq (rF [oB 4 false]) (.seq (rF [oM 5 0,oD 6 .geq 5 0,oM 7 6,gM 7 true 8 0,gM 7 true 9 1,gC 7 true
 10 .lss 8 9,oW 11 7 10,oM 4 11]) .ret))⟩
def f111:F:=⟨22,false,[.s 2],(.seq (rF [oQ 1 4 0,oB 2 false]) (.seq (rF [oF 3 0 1,oL 4 3,oD 5 .eql 4 0,oM 6 5,gF 6 true 7 1 1,gL
 6 true 8 7,gD 6 true 9 .eql 8 0,oW 10 6 9,oM 11 10,gF 11 true 12 2 1,gL 11 true 13 12,gD 11 true 14 .eql 13 0,oW 15 11 14,oM 16 15,gF
 16 true 17 3 1,gL 16 true 18 17,gN 16 true 19 18,gD 16 true 20 .eql 19 0,oW 21 16 20,oM 2 21]) .ret))⟩
def f112:F:=⟨25,false,[.s 8],(.seq (rF [oQ 4 4 0,oQ 5 4 1,oB 8 false]) (.seq (rF [oK 9 4 5,oF 10 0 4,oL 11 10,oM 12 2,o 13 (.call
 false (cf 24) [(.s 9),(.s 11),(.s 12)]),oM 14 13,gF 14 true 15 1 5,gL 14 true 16 15,gD 14 true 17 .eql 16 1,oW 18 14 17,oM 19 18,gK
 19 true 20 4 4,gK 19 true 21 4 5,gM 19 true 22 3,og 19 true 23 (.call false (cf 115) [(.s 20),(.s 21),(cb true),(.s 22)]),oW 24 19 23,oM 8 24]) .ret))⟩
def f113:F:=⟨20,false,[.s 2],(.seq (rF [oB 2 false]) (.seq (.seq (rF [oI 3 1]) (.block 0 (.loop (.seq (.seq (rF [oM 4 3,oM 5 0,oN 6
 5,oC 7 .lss 4 6]) (.cond (.s 7) .skip (.exit 0))) (.seq (.block 1 (.seq (rT [oM 10 0,oM 11 3,oD 12 .sub 11 1,oA 13 1 10 12,oR 14 13,oM
 15 0,oM 16 3,oA 17 1 15 16,oR 18 17,oC 19 .geq 14 18]) (.cond (.s 19) (.seq (rF [oB 2 false]) .ret) .skip))) (rF [oM 8 3,oD 9 .add 8 1,
 oM 3 9])))))) (.seq (rF [oB 2 true]) .ret)))⟩
def f114:F:=⟨151,false,[.s 6],(.seq (rF [oQ 3 4 0,oQ 5 11 2,oI 6 0]) (.seq (rF [oF 12 3 3,oL 13 12,oM 14 1,oA 15 7 13 14,oG 16 1
 15,oR 17 16,oM 7 17]) (.seq (rF [oF 18 0 5,oL 19 18,oD 20 .eql 19 6,oM 21 20,gF 21 false 22 0 5,gL 21 false 23 22,gD 21 false 24 .eql
 23 7,oV 25 21 24,oM 8 25]) (.seq (.seq (rF [oF 26 0 5,oL 27 26,oD 28 .lss 27 1,oM 29 28,gF 29 false 30 0 5,gL 29 false 31 30,gD 29 false
 32 .gtr 31 7,oV 33 29 32,oM 34 33,gF 34 false 35 1 5,gL 34 false 36 35,gM 34 false 37 7,gD 34 false 38 .sub 37 1,og 34 false 39 (.call
 false (cf 110) [(.s 36),(.s 38)]),gT 34 false 40 39,oV 41 34 40,oM 42 41,gF 42 false 43 2 5,gL 42 false 44 43,gM 42 false 45 7,og 42
 false 46 (.call false (cf 110) [(.s 44),(.s 45)]),gT 42 false 47 46,oV 48 42 47,oM 49 48,gF 49 false 50 10 5,gL 49 false 51 50,gF 49 false
 52 1 3,gL 49 false 53 52,gN 49 false 54 53,og 49 false 55 (.call false (cf 110) [(.s 51),(.s 54)]),gT 49 false 56 55,oV 57 49 56,oM 58
 57,gF 58 false 59 8 5,gL 58 false 60 59,gM 58 false 61 60,gF 61 true 62 0 5,gL 61 true 63 62,gD 61 true 64 .neq 63 3,og 58 false 65 (.pick
 (.s 61) (.s 64) (cb false)),oV 66 58 65,oM 67 66,gF 67 false 68 9 5,gL 67 false 69 68,gD 67 false 70 .neq 69 0,gM 67 false 71 70,gM 71
 true 72 8,gT 71 true 73 72,og 67 false 74 (.pick (.s 71) (.s 73) (cb false)),oV 75 67 74]) (.cond (.s 75) (.seq (rF [oI 6 70]) .ret) .skip))
 (.seq (.seq (rF [oF 76 3 5,oK 77 4 76,oF 78 0 3,oL 79 78,o 80 (.call false (cf 24) [(.s 77),(.s 79),(cb false)]),oT 81 80,oM 82 81,gF
 82 false 83 3 5,gF 82 false 84 1 83,gL 82 false 85 84,gD 82 false 86 .neq 85 1,oV 87 82 86]) (.cond (.s 87) (.seq (rF [oI 6 60]) .ret) .skip))
 (.seq (.seq (rF [oI 9 0]) (.block 0 (.loop (.seq (.seq (rF [oM 88 9,oF 89 7 5,oL 90 89,oN 91 90,oC 92 .lss 88 91]) (.cond (.s 92) .skip (.exit
 0))) (.seq (.block 1 (.seq (rF [oF 95 7 5,oL 96 95,oM 97 9,oA 98 5 96 97,oG 99 0 98,oR 100 99,oM 10 100]) (.seq (.seq (rF [oM 101 10,oF
 102 0 3,oL 103 102,oN 104 103,o 105 (.call false (cf 110) [(.s 101),(.s 104)]),oT 106 105]) (.cond (.s 106) (.seq (rF [oI 6 70]) .ret) .skip))
 (.seq (.seq (rF [oI 11 0]) (.block 2 (.loop (.seq (.seq (rF [oM 107 11,oM 108 9,oC 109 .lss 107 108]) (.cond (.s 109) .skip (.exit 2))) (.seq
 (.block 3 (.seq (rF [oF 112 7 5,oL 113 112,oM 114 11,oA 115 5 113 114,oG 116 0 115,oR 117 116,oM 118 10,oC 119 .eql 117 118]) (.cond (.s
 119) (.seq (rF [oI 6 70]) .ret) .skip))) (rF [oM 110 11,oD 111 .add 110 1,oM 11 111])))))) (.seq (rT [oF 120 7 5,oL 121 120,oM 122 9,oA
 123 5 121 122,oG 124 1 123,oS 125 4 124,oF 126 0 3,oL 127 126,o 128 (.call false (cf 24) [(.s 125),(.s 127),(cb false)]),oT 129 128,
 oM 130 129,gF 130 false 131 7 5,gL 130 false 132 131,gM 130 false 133 9,gI 130 false 134 5 132 133,gG 130 false 135 1 134,gG 130 false
 136 1 135,gR 130 false 137 136,gF 130 false 138 0 3,gL 130 false 139 138,gM 130 false 140 10,gI 130 false 141 6 139 140,gG 130 false 142
 1 141,gR 130 false 143 142,gC 130 false 144 .neq 137 143,oV 145 130 144]) (.cond (.s 145) (.seq (rF [oI 6 60]) .ret) .skip)))))) (rF [oM 93
 9,oD 94 .add 93 1,oM 9 94])))))) (.seq (.seq (rF [oK 146 4 3,oM 147 1,oK 148 11 5,o 149 (.call false (cf 137) [(.s 146),(.s 147),(.s 148)]),
 oT 150 149]) (.cond (.s 150) (.seq (rF [oI 6 70]) .ret) .skip)) (.seq (rF [oI 6 0]) .ret))))))))⟩
def f115:F:=⟨54,false,[.s 8],(.seq (rF [oQ 4 4 0,oQ 5 4 1,oB 8 false]) (.seq (rF [oK 15 4 5,o 16 (.call false (cf 138) [(.s 15)]),
 oM 14 16,oX 17 14 0,oX 18 14 1,oM 9 17,oM 10 18]) (.seq (rF [o 19 (.bslice 1 0 [zi] []),oM 20 9,o 21 (.append 1 8 (.s 19) (.s 20)),oM
 22 10,o 23 (.append 1 8 (.s 21) (.s 22)),oM 11 23]) (.seq (.seq (rF [oI 12 0]) (.block 0 (.loop (.seq (.seq (rF [oM 24 12,oM 25 11,oN 26
 25,oC 27 .lss 24 26]) (.cond (.s 27) .skip (.exit 0))) (.seq (.block 1 (.seq (rT [oF 30 0 4,oL 31 30,oM 32 11,oM 33 12,oA 34 1 32 33,oR
 35 34,oA 36 6 31 35,oG 37 3 36,oR 38 37,oM 13 38]) (.seq (rF [oM 39 13,oD 40 .eql 39 (-1),oM 41 40,gM 41 true 42 2,gT 41 true 43 42,
 oW 44 41 43,oM 45 44,gM 45 false 46 13,gD 45 false 47 .geq 46 0,gM 45 false 48 47,gM 48 true 49 13,gM 48 true 50 3,gC 48 true 51 .neq
 49 50,og 45 false 52 (.pick (.s 48) (.s 51) (cb false)),oV 53 45 52]) (.cond (.s 53) (.seq (rF [oB 8 false]) .ret) .skip)))) (rF [oM 28 12,
 oD 29 .add 28 1,oM 12 29])))))) (.seq (rF [oB 8 true]) .ret)))))⟩
def f116:F:=⟨19,false,[.s 2],(.seq (rF [oI 2 0]) (.seq (.seq (rF [oM 3 0,oD 4 .geq 3 1,oM 5 4,gM 5 true 6 0,gD 5 true 7 .leq 6 3,
 oW 8 5 7]) (.cond (.s 8) (.seq (rF [oI 2 0]) .ret) .skip)) (.seq (.seq (rF [oM 9 0,oD 10 .eql 9 4]) (.cond (.s 10) (.seq (rF [oI 2 1]) .ret)
 .skip)) (.seq (.seq (rF [oM 11 0,oD 12 .geq 11 5,oM 13 12,gM 13 true 14 0,gD 13 true 15 .leq 14 13,oW 16 13 15]) (.cond (.s 16) (.seq (rF
 [oI 2 2]) .ret) .skip)) (.seq (.seq (rF [oM 17 0,oD 18 .eql 17 14]) (.cond (.s 18) (.seq (rF [oI 2 3]) .ret) .skip)) (.seq (rF [oI 2 (-1)]) .ret))))))⟩
def f117:F:=⟨10,false,[.s 4],(.seq (rF [oI 4 0]) (.seq (rF [oM 5 0,oM 6 1,o 7 (.call false (cf 33) [(.s 6)]),oD 8 .sub 7 1,oC 9 .and 5 8,oM 4 9]) .ret))⟩
def f118:F:=⟨13,false,[.s 4],(.seq (rF [oI 4 0]) (.seq (.seq (rF [oM 5 1,oM 6 0,oN 7 6,oC 8 .lss 5 7]) (.cond (.s 8) (.seq (rF [oM
 9 0,oM 10 1,oA 11 1 9 10,oR 12 11,oM 4 12]) .ret) .skip)) (.seq (rF [oI 4 0]) .ret)))⟩
def f119:F:=⟨137,false,[.s 4],(.seq (rF [oQ 2 4 0,oI 4 0]) (.seq (.seq (rF [oF 5 0 2,oL 6 5]) (.block 0 (.seq (rF [oD 8 .eql 6 1,oM
 7 8]) (.cond (.s 7) (.seq (rF [oF 9 2 2,oL 10 9,oM 4 10]) .ret) (.seq (rF [oD 12 .eql 6 4,oM 11 12]) (.cond (.s 11) (.seq (rT [oF 13 1 2,
 oL 14 13,o 15 (.call false (cf 33) [(.s 14)]),oD 16 .sub 15 1,oM 17 1,o 18 (.iaddrS 1 (.s 17) (ci 0)),oR 19 18,oC 20 .sub 16 19,oM 4 20])
 .ret) (.seq (rF [oD 22 .eql 6 5,oM 21 22]) (.cond (.s 21) (.seq (rT [oM 23 1,o 24 (.iaddrS 1 (.s 23) (ci 0)),oR 25 24,oM 26 1,o 27 (.iaddrS
 1 (.s 26) (ci 1)),oR 28 27,oC 29 .and 25 28,oM 4 29]) .ret) (.seq (rF [oD 31 .eql 6 6,oM 30 31]) (.cond (.s 30) (.seq (rT [oM 32 1,o 33
 (.iaddrS 1 (.s 32) (ci 0)),oR 34 33,oM 35 1,o 36 (.iaddrS 1 (.s 35) (ci 1)),oR 37 36,oC 38 .or 34 37,oM 4 38]) .ret) (.seq (rF [oD 40 .eql
 6 7,oM 39 40]) (.cond (.s 39) (.seq (rT [oM 41 1,o 42 (.iaddrS 1 (.s 41) (ci 0)),oR 43 42,oM 44 1,o 45 (.iaddrS 1 (.s 44) (ci 1)),oR 46
 45,oC 47 .xor 43 46,oM 4 47]) .ret) (.seq (rF [oD 49 .eql 6 8,oM 48 49]) (.cond (.s 48) (.seq (rT [oM 50 1,o 51 (.iaddrS 1 (.s 50) (ci 0)),
 oR 52 51,oM 53 1,o 54 (.iaddrS 1 (.s 53) (ci 1)),oR 55 54,oC 56 .add 52 55,oF 57 1 2,oL 58 57,o 59 (.call false (cf 117) [(.s 56),(.s
 58)]),oM 4 59]) .ret) (.seq (rF [oD 61 .eql 6 9,oM 60 61]) (.cond (.s 60) (.seq (rT [oM 62 1,o 63 (.iaddrS 1 (.s 62) (ci 0)),oR 64 63,oM
 65 1,o 66 (.iaddrS 1 (.s 65) (ci 1)),oR 67 66,oC 68 .sub 64 67,oF 69 1 2,oL 70 69,o 71 (.call false (cf 33) [(.s 70)]),oC 72 .add 68 71,
 oF 73 1 2,oL 74 73,o 75 (.call false (cf 117) [(.s 72),(.s 74)]),oM 4 75]) .ret) (.seq (rF [oD 77 .eql 6 10,oM 76 77]) (.cond (.s 76) (.seq
 (rT [oM 78 1,o 79 (.iaddrS 1 (.s 78) (ci 0)),oR 80 79,oM 81 1,o 82 (.iaddrS 1 (.s 81) (ci 1)),oR 83 82,oC 84 .mul 80 83,oF 85 1 2,oL
 86 85,o 87 (.call false (cf 117) [(.s 84),(.s 86)]),oM 4 87]) .ret) (.seq (rF [oD 89 .eql 6 14,oM 88 89]) (.cond (.s 88) (.seq (rF [oM 90
 1,oM 91 1,o 92 (.iaddrS 1 (.s 91) (ci 0)),oR 93 92,o 94 (.bin .sub (ci 2) (.s 93)),oA 95 1 90 94,oR 96 95,oM 4 96]) .ret) .skip))))))))))))))))))))
 (.seq (.seq (rT [oF 97 0 2,oL 98 97,oD 99 .eql 98 11,oM 100 99,gM 100 true 101 1,og 100 true 102 (.iaddrS 1 (.s 101) (ci 0)),gR 100 true
 103 102,gM 100 true 104 1,og 100 true 105 (.iaddrS 1 (.s 104) (ci 1)),gR 100 true 106 105,gC 100 true 107 .eql 103 106,oW 108 100 107,oM
 109 108,gF 109 false 110 0 2,gL 109 false 111 110,gD 109 false 112 .eql 111 12,gM 109 false 113 112,gM 113 true 114 1,og 113 true 115 (.iaddrS
 1 (.s 114) (ci 0)),gR 113 true 116 115,gM 113 true 117 1,og 113 true 118 (.iaddrS 1 (.s 117) (ci 1)),gR 113 true 119 118,gC 113 true 120
 .lss 116 119,og 109 false 121 (.pick (.s 113) (.s 120) (cb false)),oV 122 109 121,oM 123 122,gF 123 false 124 0 2,gL 123 false 125 124,
 gD 123 false 126 .eql 125 13,gM 123 false 127 126,gM 127 true 128 1,og 127 true 129 (.iaddrS 1 (.s 128) (ci 0)),gR 127 true 130 129,gM 127
 true 131 1,og 127 true 132 (.iaddrS 1 (.s 131) (ci 1)),gR 127 true 133 132,gC 127 true 134 .leq 130 133,og 123 false 135 (.pick (.s 127)
 (.s 134) (cb false)),oV 136 123 135]) (.cond (.s 136) (.seq (rF [oI 4 1]) .ret) .skip)) (.seq (rF [oI 4 0]) .ret))))⟩
def f131:F:=⟨9,false,[.s 4],(.seq (rF [oB 4 false]) (.seq (rF [oM 5 0,oM 6 1,o 7 (.call false (cf 145) [(.s 5),(.s 6)]),oD 8 .geq 7 0,oM 4 8]) .ret))⟩
def f132:F:=⟨8,false,[.s 3],(.seq (rF [oB 3 false]) (.seq (rF [oR 4 1,oM 5 0,o 6 (.call false (.s 4) [(.s 5)]),oT 7 6,oM 3 7]) .ret))⟩
def f133:F:=⟨6,false,[.s 4],(.seq (rF [o 2 (.boxH 4 (.s 0)),o 3 (.boxH 1 (.s 1)),o 4 (.mv (.c (.t .nilf)))]) (.seq (rF [o 5 (.mkfn 146
 [] [(.s 2),(.s 3)]),oM 4 5]) .ret))⟩
def f134:F:=⟨13,false,[.s 4],(.seq (rF [oB 4 false]) (.seq (rF [oS 5 4 1,oM 6 0,o 7 (.call false (cf 100) [(.s 5),(.s 6)]),oM 8 7,
 gR 8 false 9 2,gM 8 false 10 0,og 8 false 11 (.call false (.s 9) [(.s 10)]),oV 12 8 11,oM 4 12]) .ret))⟩
def f135:F:=⟨9,false,[.l 0 true 8],(.seq (rF [o 0 (.allocL [(.t .nilf),(.t .nilf),(.t .nilf),(.t .nilf),(.t .nilf),(.t .nilf),(.t
 .nilf),(.t .nilf)])]) (.seq (rF [o 1 (.build [(.t .nilf)] [(0,1,(cf 147))]),o 2 (.build [(.t .nilf)] [(0,1,(cf 148))]),o 3 (.build [(.t
 .nilf)] [(0,1,(cf 149))]),o 4 (.build [(.t .nilf)] [(0,1,(cf 150))]),o 5 (.build [(.t .nilf)] [(0,1,(cf 151))]),o 6 (.build [(.t .nilf)]
 [(0,1,(cf 152))]),o 7 (.build [(.t .nilf)] [(0,1,(cf 153))]),o 8 (.build [(.t .nilf),(.t .nilf),(.t .nilf),(.t .nilf),(.t .nilf),(.t
 .nilf),(.t .nilf),(.t .nilf)] [(1,1,(.s 1)),(2,1,(.s 2)),(3,1,(.s 3)),(4,1,(.s 4)),(5,1,(.s 5)),(6,1,(.s 6)),(7,1,(.s 7))]),oP 8 0 8]) .ret))⟩
def f136:F:=⟨45,true,[],(.seq (rT [oM 5 0,o 6 (.nilchk (.s 5)),oG 7 0 6,oR 8 7,oD 9 .neq 8 1,oM 10 9,gM 10 true 11 0,og 10 true
 12 (.nilchk (.s 11)),gG 10 true 13 2 12,gR 10 true 14 13,gR 10 true 15 1,gN 10 true 16 15,gC 10 true 17 .geq 14 16,gM 10 true 18 17,gR
 18 false 19 1,gM 18 false 20 0,og 18 false 21 (.nilchk (.s 20)),gG 18 false 22 2 21,gR 18 false 23 22,gI 18 false 24 6 19 23,gG 18 false
 25 1 24,gR 18 false 26 25,gM 18 false 27 0,og 18 false 28 (.nilchk (.s 27)),gG 18 false 29 1 28,gR 18 false 30 29,gC 18 false 31 .neq 26
 30,og 10 true 32 (.pick (.s 18) (cb true) (.s 31)),gM 10 true 33 32,gM 33 false 34 0,og 33 false 35 (.nilchk (.s 34)),gG 33 false 36 0 35,
 gR 33 false 37 36,gD 33 false 38 .eql 37 3,gM 33 false 39 38,gR 39 true 40 2,gT 39 true 41 40,og 33 false 42 (.pick (.s 39) (.s 41) (cb
 false)),og 10 true 43 (.pick (.s 33) (cb true) (.s 42)),oW 44 10 43]) (.cond (.s 44) (rF [on (.store 1 (.s 3) (cb false))]) .skip))⟩
def f137:F:=⟨252,false,[.s 6],(.seq (rF [oQ 3 4 0,oQ 5 11 2,oB 6 false]) (.seq (rF [oF 15 7 5,oL 16 15,oN 17 16,oM 7 17]) (.seq (rF
 [oF 18 0 5,oL 19 18,oD 20 .eql 19 4,oM 8 20]) (.seq (.seq (rF [oK 21 4 3,oF 22 3 5,oK 23 4 22,oM 24 8,oM 25 1,o 26 (.call false (cf 115)
 [(.s 21),(.s 23),(.s 24),(.s 25)]),oT 27 26]) (.cond (.s 27) (.seq (rF [oB 6 false]) .ret) .skip)) (.seq (.seq (rF [oI 9 0]) (.block 0 (.loop
 (.seq (.seq (rF [oM 28 9,oM 29 7,oC 30 .lss 28 29]) (.cond (.s 30) .skip (.exit 0))) (.seq (.block 1 (.seq (.seq (rT [oM 33 9,oD 34 .gtr 33
 0,oM 35 34,gF 35 false 36 0 5,gL 35 false 37 36,gD 35 false 38 .neq 37 2,oV 39 35 38,oM 40 39,gK 40 true 41 4 3,gF 40 true 42 7 5,gL
 40 true 43 42,gM 40 true 44 9,gI 40 true 45 5 43 44,gG 40 true 46 1 45,og 40 true 47 (.load true 4 (.s 46)),gM 40 true 48 8,gM 40 true
 49 1,og 40 true 50 (.call false (cf 115) [(.s 41),(.s 47),(.s 48),(.s 49)]),gT 40 true 51 50,oW 52 40 51]) (.cond (.s 52) (.seq (rF [oB
 6 false]) .ret) .skip)) (.seq (rF [oF 53 7 5,oL 54 53,oM 55 9,oA 56 5 54 55,oG 57 0 56,oR 58 57,oM 10 58]) (.seq (rF [oK 59 4 3,oM 60
 10,oM 61 1,o 62 (.call false (cf 154) [(.s 59),(.s 60),(.s 61)]),oT 63 62,oM 64 63,gK 64 true 65 4 3,gM 64 true 66 10,og 64 true 67
 (.call false (cf 155) [(.s 65),(.s 66)]),gT 64 true 68 67,oW 69 64 68]) (.cond (.s 69) (.seq (rF [oB 6 false]) .ret) .skip))))) (rF [oM 31
 9,oD 32 .add 31 1,oM 9 32])))))) (.seq (.seq (rF [oF 70 0 5,oL 71 70]) (.block 2 (.seq (rF [oD 73 .eql 71 1,oM 72 73]) (.cond (.s 72) (.seq
 (.seq (rF [oI 11 0]) (.block 3 (.loop (.seq (.seq (rF [oM 74 11,oM 75 7,oC 76 .lss 74 75]) (.cond (.s 76) .skip (.exit 3))) (.seq (.block 4
 (.seq (rT [oK 79 4 3,oF 80 7 5,oL 81 80,oM 82 11,oA 83 5 81 82,oG 84 0 83,oR 85 84,oM 86 1,o 87 (.call false (cf 154) [(.s 79),(.s 85),
 (.s 86)]),oT 88 87]) (.cond (.s 88) (.seq (rF [oB 6 false]) .ret) .skip))) (rF [oM 77 11,oD 78 .add 77 1,oM 11 78])))))) (.seq (rF [oB 6 true])
 .ret)) (.seq (rF [oD 90 .eql 71 2,oM 89 90]) (.cond (.s 89) (.seq (.seq (rT [oM 91 7,oD 92 .eql 91 0,oM 93 92,gK 93 false 94 4 3,gF 93 false
 95 7 5,gL 93 false 96 95,og 93 false 97 (.iaddrS 5 (.s 96) (ci 0)),gG 93 false 98 0 97,gR 93 false 99 98,gM 93 false 100 1,og 93 false
 101 (.call false (cf 154) [(.s 94),(.s 99),(.s 100)]),gT 93 false 102 101,oV 103 93 102,oM 104 103,gF 104 false 105 0 3,gL 104 false 106
 105,gF 104 false 107 7 5,gL 104 false 108 107,og 104 false 109 (.iaddrS 5 (.s 108) (ci 0)),gG 104 false 110 0 109,gR 104 false 111 110,
 gI 104 false 112 6 106 111,gG 104 false 113 4 112,gR 104 false 114 113,oV 115 104 114]) (.cond (.s 115) (.seq (rF [oB 6 false]) .ret) .skip))
 (.seq (rF [oF 116 7 5,oL 117 116,o 118 (.iaddrS 5 (.s 117) (ci 0)),oG 119 1 118,oS 120 4 119,o 12 (.allocL [zi,zi,zi,zn]),oP 4 12 120])
 (.seq (.seq (rF [oF 121 0 12,oL 122 121,oD 123 .neq 122 2,oM 124 123,gK 124 false 125 4 3,gF 124 false 126 2 12,gL 124 false 127 126,og
 124 false 128 (.call false (cf 155) [(.s 125),(.s 127)]),gT 124 false 129 128,oV 130 124 129,oM 131 130,gF 131 false 132 0 3,gL 131 false
 133 132,gF 131 false 134 2 12,gL 131 false 135 134,gI 131 false 136 6 133 135,gG 131 false 137 4 136,gR 131 false 138 137,oV 139 131 138])
 (.cond (.s 139) (.seq (rF [oB 6 false]) .ret) .skip)) (.seq (.seq (rF [oI 13 1]) (.block 5 (.loop (.seq (.seq (rF [oM 140 13,oM 141 7,oC 142
 .lss 140 141]) (.cond (.s 142) .skip (.exit 5))) (.seq (.block 6 (.seq (rT [oK 145 4 3,oF 146 7 5,oL 147 146,oM 148 13,oA 149 5 147 148,
 oG 150 0 149,oR 151 150,oM 152 1,o 153 (.call false (cf 154) [(.s 145),(.s 151),(.s 152)]),oT 154 153,oM 155 154,gF 155 false 156 0 3,
 gL 155 false 157 156,gF 155 false 158 7 5,gL 155 false 159 158,gM 155 false 160 13,gI 155 false 161 5 159 160,gG 155 false 162 0 161,gR
 155 false 163 162,gI 155 false 164 6 157 163,gG 155 false 165 4 164,gR 155 false 166 165,gT 155 false 167 166,oV 168 155 167]) (.cond (.s
 168) (.seq (rF [oB 6 false]) .ret) .skip))) (rF [oM 143 13,oD 144 .add 143 1,oM 13 144])))))) (.seq (rF [oB 6 true]) .ret))))) (.seq (rF [oD
 170 .eql 71 3,oM 169 170]) (.cond (.s 169) (.seq (.seq (rT [oM 171 7,oD 172 .eql 171 0,oM 173 172,gK 173 false 174 4 3,gF 173 false 175
 7 5,gL 173 false 176 175,og 173 false 177 (.iaddrS 5 (.s 176) (ci 0)),gG 173 false 178 0 177,gR 173 false 179 178,og 173 false 180 (.call
 false (cf 155) [(.s 174),(.s 179)]),gT 173 false 181 180,oV 182 173 181,oM 183 182,gF 183 false 184 0 3,gL 183 false 185 184,gF 183 false
 186 7 5,gL 183 false 187 186,og 183 false 188 (.iaddrS 5 (.s 187) (ci 0)),gG 183 false 189 0 188,gR 183 false 190 189,gI 183 false 191 6
 185 190,gG 183 false 192 4 191,gR 183 false 193 192,oV 194 183 193]) (.cond (.s 194) (.seq (rF [oB 6 false]) .ret) .skip)) (.seq (.seq (rF
 [oI 14 1]) (.block 7 (.loop (.seq (.seq (rF [oM 195 14,oM 196 7,oC 197 .lss 195 196]) (.cond (.s 197) .skip (.exit 7))) (.seq (.block 8 (.seq
 (rT [oF 200 0 3,oL 201 200,oF 202 7 5,oL 203 202,oM 204 14,oA 205 5 203 204,oG 206 0 205,oR 207 206,oA 208 6 201 207,oG 209 4 208,oR
 210 209,oT 211 210]) (.cond (.s 211) (.seq (rF [oB 6 false]) .ret) .skip))) (rF [oM 198 14,oD 199 .add 198 1,oM 14 199])))))) (.seq (rF [oB
 6 true]) .ret))) (.seq (rF [oD 213 .eql 71 4,oM 212 213]) (.cond (.s 212) (.seq (rF [oB 6 true]) .ret) .skip)))))))))) (.seq (.seq (rT [oM 214
 7,oD 215 .gtr 214 0,oM 216 215,gF 216 false 217 3 5,gK 216 false 218 4 217,og 216 false 219 (.call false (cf 157) []),og 216 false 220
 (.call false (cf 156) [(.s 218),(.s 219)]),gT 216 false 221 220,oV 222 216 221]) (.cond (.s 222) (.seq (rF [oB 6 false]) .ret) .skip)) (.seq
 (.seq (rF [oF 223 0 5,oL 224 223,oD 225 .eql 224 5]) (.cond (.s 225) (.seq (rF [oB 6 true]) .ret) .skip)) (.seq (rF [oF 226 9 5,oL 227 226,
 oF 228 3 3,oL 229 228,oN 230 229,o 231 (.call false (cf 110) [(.s 227),(.s 230)]),oM 232 231,gF 232 true 233 9 5,gL 232 true 234 233,
 gM 232 true 235 1,gC 232 true 236 .neq 234 235,oW 237 232 236,oM 238 237,gF 238 true 239 0 5,gL 238 true 240 239,gD 238 true 241 .eql 240
 7,gM 238 true 242 241,gF 242 false 243 3 3,gL 242 false 244 243,gF 242 false 245 9 5,gL 242 false 246 245,gI 242 false 247 7 244 246,gG
 242 false 248 6 247,gR 242 false 249 248,og 238 true 250 (.pick (.s 242) (cb true) (.s 249)),oW 251 238 250,oM 6 251]) .ret)))))))))⟩
def f138:F:=⟨19,false,[.s 2,.s 3],(.seq (rF [oQ 1 4 0,o 2 (.mv (.c zn)),o 3 (.mv (.c zn))]) (.seq (.seq (rF [oK 6 4 1,o 7 (.call false
 (cf 48) [(.s 6)]),oT 8 7]) (.cond (.s 8) (.seq (rF [o 2 (.mv (.c zn)),o 3 (.mv (.c zn))]) .ret) .skip)) (.seq (rF [o 9 (.mkslice 1 1 [zb] (ci
 32) (ci 32)),oM 4 9]) (.seq (rF [o 10 (.mkslice 1 1 [zb] (ci 32) (ci 32)),oM 5 10]) (.seq (rF [oK 11 4 1,oM 12 4,oM 13 5,o 14 (.call true
 (cf 158) [(.s 11),(.s 12),(.s 13)])]) (.seq (rF [oM 15 4,o 16 (.call false (cf 159) [(.s 15)]),oM 17 5,o 18 (.call false (cf 159) [(.s 17)]),oM 2 16,oM 3 18]) .ret))))))⟩
def f145:F:=⟨19,false,[.s 4],(.seq (rF [oI 4 0]) (.seq (.seq (rF [oM 6 0,oN 7 6,oI 8 0]) (.block 0 (.loop (.seq (rF [oC 9 .lss 8 7])
 (.seq (.cond (.s 9) .skip (.exit 0)) (.seq (.block 1 (.seq (rF [oM 10 8,oM 5 10]) (.seq (rF [oM 11 1,oM 12 0,oM 13 5,oA 14 1 12 13,oR 15
 14,o 16 (.call false (.s 11) [(.s 15)])]) (.cond (.s 16) (.seq (rF [oM 17 5,oM 4 17]) .ret) .skip)))) (rF [oD 18 .add 8 1,oM 8 18]))))))) (.seq (rF [oI 4 (-1)]) .ret)))⟩
def f146:F:=⟨22,false,[.s 4],(.seq (rF [oB 4 false]) (.seq (rT [oM 5 0,oG 6 0 1,oG 7 0 6,oR 8 7,oN 9 8,o 10 (.call false (cf 96)
 [(.s 5),(.s 9)]),oM 11 10,gG 11 true 12 0 1,gG 11 true 13 0 12,gR 11 true 14 13,gM 11 true 15 0,gI 11 true 16 6 14 15,gG 11 true 17 3
 16,gR 11 true 18 17,gR 11 true 19 2,gC 11 true 20 .eql 18 19,oW 21 11 20,oM 4 21]) .ret))⟩
def f147:F:=⟨20,false,[.s 6],(.seq (rF [oQ 3 4 0,oQ 5 11 2,oB 6 false]) (.seq (rF [oK 8 4 3,oM 9 1,o 10 (.call false (cf 133) [(.s
 8),(.s 9)]),oM 7 10]) (.seq (rF [oK 11 11 5,oM 12 7,o 13 (.call false (cf 161) [(.s 11),(.s 12)]),oM 14 13,gF 14 true 15 7 5,gL 14 true
 16 15,gM 14 true 17 7,og 14 true 18 (.call false (cf 162) [(.s 16),(.s 17)]),oW 19 14 18,oM 6 19]) .ret)))⟩
def f148:F:=⟨91,false,[.s 6],(.seq (rF [oQ 3 4 0,oQ 5 11 2,oB 6 false]) (.seq (rF [oK 12 4 3,oM 13 1,o 14 (.call false (cf 133) [(.s
 12),(.s 13)]),oM 7 14]) (.seq (.seq (rF [oF 15 7 5,oL 16 15,oN 17 16,oD 18 .eql 17 0,oM 19 18,gF 19 false 20 3 5,gK 19 false 21 4 20,
 gM 19 false 22 7,og 19 false 23 (.call false (cf 108) [(.s 21),(.s 22)]),gT 19 false 24 23,oV 25 19 24]) (.cond (.s 25) (.seq (rF [oB 6 false])
 .ret) .skip)) (.seq (rT [oF 26 7 5,oL 27 26,o 28 (.iaddrS 5 (.s 27) (ci 0)),oG 29 0 28,oR 30 29,oF 31 7 5,oL 32 31,o 33 (.iaddrS 5 (.s
 32) (ci 0)),oG 34 1 33,oS 35 4 34,o 9 (.allocL [zi,zi,zi,zn]),oM 8 30,oP 4 9 35]) (.seq (.seq (rF [oM 36 7,oM 37 8,o 38 (.call false
 (.s 36) [(.s 37)]),oT 39 38,oM 40 39,gK 40 false 41 4 3,gM 40 false 42 8,og 40 false 43 (.call false (cf 163) [(.s 41),(.s 42)]),oV 44
 40 43,oM 45 44,gF 45 false 46 0 9,gL 45 false 47 46,gD 45 false 48 .neq 47 2,oV 49 45 48,oM 50 49,gK 50 false 51 4 3,gF 50 false 52 2
 9,gL 50 false 53 52,og 50 false 54 (.call false (cf 100) [(.s 51),(.s 53)]),gT 50 false 55 54,oV 56 50 55,oM 57 56,gK 57 false 58 4 3,
 gF 57 false 59 2 9,gL 57 false 60 59,og 57 false 61 (.call false (cf 163) [(.s 58),(.s 60)]),oV 62 57 61]) (.cond (.s 62) (.seq (rF [oB 6
 false]) .ret) .skip)) (.seq (.seq (rF [oF 63 7 5,oL 64 63,o 65 (.slice 5 (.s 64) (some (ci 1)) none none),oN 66 65,oI 67 0]) (.block 0 (.loop
 (.seq (rF [oC 68 .lss 67 66]) (.seq (.cond (.s 68) .skip (.exit 0)) (.seq (.block 1 (.seq (rF [oA 69 5 65 67,oS 70 5 69,o 11 (.allocL [zi,
 zi,zi,zi,zn]),oP 5 11 70]) (.seq (rF [oM 71 7,oF 72 0 11,oL 73 72,o 74 (.call false (.s 71) [(.s 73)]),oT 75 74,oM 76 75,gK 76 false
 77 4 3,gF 76 false 78 0 11,gL 76 false 79 78,og 76 false 80 (.call false (cf 163) [(.s 77),(.s 79)]),gT 76 false 81 80,oV 82 76 81,oM
 83 82,gF 83 false 84 1 11,gK 83 false 85 4 84,gM 83 false 86 7,og 83 false 87 (.call false (cf 108) [(.s 85),(.s 86)]),gT 83 false 88 87,
 oV 89 83 88]) (.cond (.s 89) (.seq (rF [oB 6 false]) .ret) .skip)))) (rF [oD 90 .add 67 1,oM 67 90]))))))) (.seq (rF [oB 6 true]) .ret)))))))⟩
def f149:F:=⟨43,false,[.s 6],(.seq (rF [o 3 (.boxH 4 (.s 0)),oQ 5 11 2,oB 6 false]) (.seq (.seq (rT [oF 9 7 5,oL 10 9,oN 11 10,oD
 12 .eql 11 0,oM 13 12,gK 13 false 14 11 5,og 13 false 15 (.load true 4 (.s 3)),gM 13 false 16 1,og 13 false 17 (.call false (cf 133) [(.s
 15),(.s 16)]),og 13 false 18 (.call false (cf 161) [(.s 14),(.s 17)]),gT 13 false 19 18,oV 20 13 19]) (.cond (.s 20) (.seq (rF [oB 6 false])
 .ret) .skip)) (.seq (.seq (rF [oF 21 7 5,oL 22 21,o 23 (.iaddrS 5 (.s 22) (ci 0)),oG 24 0 23,oR 25 24,oM 7 25]) (.seq (rF [oS 26 4 3,oM
 27 7,o 28 (.call false (cf 100) [(.s 26),(.s 27)]),oT 29 28,oM 30 29,og 30 false 31 (.load true 4 (.s 3)),gM 30 false 32 7,og 30 false
 33 (.call false (cf 163) [(.s 31),(.s 32)]),oV 34 30 33]) (.cond (.s 34) (.seq (rF [oB 6 false]) .ret) .skip))) (.seq (rF [oS 35 4 3,oM 36
 1,o 37 (.call false (cf 104) [(.s 35),(.s 36)]),o 8 (.allocH [(.t .nilf)]),oO 1 8 37]) (.seq (rF [oF 38 7 5,oL 39 38,o 40 (.slice 5 (.s
 39) (some (ci 1)) none none),o 41 (.mkfn 164 [] [(.s 3),(.s 8)]),o 42 (.call false (cf 162) [(.s 40),(.s 41)]),oM 6 42]) .ret)))))⟩
def f150:F:=⟨20,false,[.s 6],(.seq (rF [oQ 3 4 0,oQ 5 11 2,oB 6 false]) (.seq (rF [oK 8 4 3,oM 9 1,o 10 (.call false (cf 104) [(.s
 8),(.s 9)]),oM 7 10]) (.seq (rF [oK 11 11 5,oM 12 7,o 13 (.call false (cf 161) [(.s 11),(.s 12)]),oM 14 13,gF 14 true 15 7 5,gL 14 true
 16 15,gM 14 true 17 7,og 14 true 18 (.call false (cf 162) [(.s 16),(.s 17)]),oW 19 14 18,oM 6 19]) .ret)))⟩
def f151:F:=⟨9,false,[.s 6],(.seq (rF [oQ 3 4 0,oQ 5 11 2,oB 6 false]) (.seq (rF [oK 7 11 5,o 8 (.call false (cf 165) [(.s 7)]),oM 6 8]) .ret))⟩
def f152:F:=⟨21,false,[.s 6],(.seq (rF [oQ 3 4 0,oQ 5 11 2,oB 6 false]) (.seq (rF [oK 7 4 3,oM 8 1,oK 9 11 5,o 10 (.call false (cf
 153) [(.s 7),(.s 8),(.s 9)]),oM 11 10,gF 11 true 12 0 3,gF 11 true 13 3 12,gL 11 true 14 13,gF 11 true 15 9 5,gL 11 true 16 15,gI 11
 true 17 7 14 16,gG 11 true 18 6 17,gR 11 true 19 18,oW 20 11 19,oM 6 20]) .ret))⟩
def f153:F:=⟨24,false,[.s 6],(.seq (rF [oQ 3 4 0,oQ 5 11 2,oB 6 false]) (.seq (rF [oK 7 11 5,o 8 (.call false (cf 165) [(.s 7)]),oM
 9 8,gF 9 true 10 9 5,gL 9 true 11 10,gM 9 true 12 1,gC 9 true 13 .neq 11 12,oW 14 9 13,oM 15 14,gF 15 true 16 9 5,gL 15 true 17 16,gF
 15 true 18 0 3,gF 15 true 19 3 18,gL 15 true 20 19,gN 15 true 21 20,og 15 true 22 (.call false (cf 96) [(.s 17),(.s 21)]),oW 23 15 22,oM 6 23]) .ret))⟩
def f154:F:=⟨15,false,[.s 6],(.seq (rF [oQ 3 4 0,oB 6 false]) (.seq (rF [oF 7 0 3,oL 8 7,oM 9 1,oA 10 6 8 9,oG 11 3 10,oR 12 11,
 oM 13 2,oC 14 .eql 12 13,oM 6 14]) .ret))⟩
def f155:F:=⟨12,false,[.s 4],(.seq (rF [oQ 2 4 0,oB 4 false]) (.seq (rF [oF 5 0 2,oL 6 5,oM 7 1,oA 8 6 6 7,oG 9 3 8,oR 10 9,oD 11 .eql 10 (-1),oM 4 11]) .ret))⟩
def f156:F:=⟨53,false,[.s 4],(.seq (rF [oQ 2 4 0,oQ 3 4 1,oB 4 false]) (.seq (.seq (rF [oF 6 0 2,oL 7 6,oF 8 0 3,oL 9 8,oC 10 .neq
 7 9,oM 11 10,gF 11 false 12 1 2,gL 11 false 13 12,gF 11 false 14 1 3,gL 11 false 15 14,gC 11 false 16 .neq 13 15,oV 17 11 16,oM 18 17,
 gF 18 false 19 2 2,gL 18 false 20 19,gF 18 false 21 2 3,gL 18 false 22 21,gC 18 false 23 .neq 20 22,oV 24 18 23,oM 25 24,gF 25 false 26
 3 2,gL 25 false 27 26,gN 25 false 28 27,gF 25 false 29 3 3,gL 25 false 30 29,gN 25 false 31 30,gC 25 false 32 .neq 28 31,oV 33 25 32])
 (.cond (.s 33) (.seq (rF [oB 4 false]) .ret) .skip)) (.seq (.seq (rF [oI 5 0]) (.block 0 (.loop (.seq (.seq (rF [oM 34 5,oF 35 3 2,oL 36 35,
 oN 37 36,oC 38 .lss 34 37]) (.cond (.s 38) .skip (.exit 0))) (.seq (.block 1 (.seq (rT [oF 41 3 2,oL 42 41,oM 43 5,oA 44 4 42 43,oS 45 4
 44,oF 46 3 3,oL 47 46,oM 48 5,oA 49 4 47 48,oS 50 4 49,o 51 (.call false (cf 156) [(.s 45),(.s 50)]),oT 52 51]) (.cond (.s 52) (.seq
 (rF [oB 4 false]) .ret) .skip))) (rF [oM 39 5,oD 40 .add 39 1,oM 5 40])))))) (.seq (rF [oB 4 true]) .ret))))⟩
def f157:F:=⟨2,false,[.l 0 true 4],(.seq (rF [o 0 (.allocL [zi,zi,zi,zn])]) (.seq (rF [o 1 (.call false (cf 61) [(ci 1),(ci 1)]),oP 4 0 1]) .ret))⟩
def f158:F:=⟨36,true,[],(.seq (rF [oQ 3 4 0]) (.seq (.seq (rF [oF 7 0 3,oL 8 7,oD 9 .eql 8 3]) (.cond (.s 9) (rF [oM 10 1,oF 11 2 3,
 oL 12 11,oA 13 1 10 12,on (.store 1 (.s 13) (cb true))]) .skip)) (.seq (.seq (rF [oF 14 0 3,oL 15 14,oD 16 .eql 15 2]) (.cond (.s 16) (rF
 [oM 17 2,oF 18 2 3,oL 19 18,oA 20 1 17 19,on (.store 1 (.s 20) (cb true))]) .skip)) (.seq (rF [oI 6 0]) (.block 0 (.loop (.seq (.seq (rF
 [oM 21 6,oF 22 3 3,oL 23 22,oN 24 23,oC 25 .lss 21 24]) (.cond (.s 25) .skip (.exit 0))) (.seq (.block 1 (rF [oF 28 3 3,oL 29 28,oM 30
 6,oA 31 4 29 30,oS 32 4 31,oM 33 1,oM 34 2,o 35 (.call true (cf 158) [(.s 32),(.s 33),(.s 34)])])) (rF [oM 26 6,oD 27 .add 26 1,oM 6 27])))))))))⟩
def f159:F:=⟨20,false,[.s 2],(.seq (rF [o 2 (.mv (.c zn))]) (.seq (rF [o 3 (.mv (.c zn))]) (.seq (.seq (rF [oI 4 0]) (.block 0 (.loop
 (.seq (.seq (rF [oM 5 4,oM 6 0,oN 7 6,oC 8 .lss 5 7]) (.cond (.s 8) .skip (.exit 0))) (.seq (.block 1 (.seq (rF [oM 11 0,oM 12 4,oA 13 1
 11 12,oR 14 13]) (.cond (.s 14) (rF [oM 15 3,oM 16 4,o 17 (.bslice 1 1 [zi] [(0,(.s 16))]),o 18 (.append 1 8 (.s 15) (.s 17)),oM 3 18])
 .skip))) (rF [oM 9 4,oD 10 .add 9 1,oM 4 10])))))) (.seq (rF [oM 19 3,oM 2 19]) .ret))))⟩
def f161:F:=⟨25,false,[.s 4],(.seq (rF [oQ 2 11 0,oB 4 false]) (.seq (.seq (rF [oF 7 3 2,oK 8 4 7,oM 9 1,o 10 (.call false (cf 108)
 [(.s 8),(.s 9)]),oT 11 10]) (.cond (.s 11) (.seq (rF [oB 4 false]) .ret) .skip)) (.seq (.seq (rF [oF 12 7 2,oL 13 12,oN 14 13,oI 15 0])
 (.block 0 (.loop (.seq (rF [oC 16 .lss 15 14]) (.seq (.cond (.s 16) .skip (.exit 0)) (.seq (.block 1 (.seq (rF [oA 17 5 13 15,oS 18 5 17,o
 6 (.allocL [zi,zi,zi,zi,zn]),oP 5 6 18]) (.seq (rF [oF 19 1 6,oK 20 4 19,oM 21 1,o 22 (.call false (cf 108) [(.s 20),(.s 21)]),oT 23
 22]) (.cond (.s 23) (.seq (rF [oB 4 false]) .ret) .skip)))) (rF [oD 24 .add 15 1,oM 15 24]))))))) (.seq (rF [oB 4 true]) .ret))))⟩
def f162:F:=⟨19,false,[.s 4],(.seq (rF [oB 4 false]) (.seq (.seq (rF [oM 7 0,oN 8 7,oI 9 0]) (.block 0 (.loop (.seq (rF [oC 10 .lss
 9 8]) (.seq (.cond (.s 10) .skip (.exit 0)) (.seq (.block 1 (.seq (rF [oA 11 5 7 9,oS 12 5 11,o 6 (.allocL [zi,zi,zi,zi,zn]),oP 5 6 12])
 (.seq (rF [oM 13 1,oF 14 0 6,oL 15 14,o 16 (.call false (.s 13) [(.s 15)]),oT 17 16]) (.cond (.s 17) (.seq (rF [oB 4 false]) .ret) .skip))))
 (rF [oD 18 .add 9 1,oM 9 18]))))))) (.seq (rF [oB 4 true]) .ret)))⟩
def f163:F:=⟨12,false,[.s 4],(.seq (rF [oQ 2 4 0,oB 4 false]) (.seq (rF [oF 5 0 2,oF 6 0 5,oL 7 6,oM 8 1,oA 9 6 7 8,oG 10 4 9,oR 11 10,oM 4 11]) .ret))⟩
def f164:F:=⟨13,false,[.s 4],(.seq (rF [oB 4 false]) (.seq (rF [oS 5 4 1,oM 6 0,o 7 (.call false (cf 163) [(.s 5),(.s 6)]),oM 8 7,
 gR 8 true 9 2,gM 8 true 10 0,og 8 true 11 (.call false (.s 9) [(.s 10)]),oW 12 8 11,oM 4 12]) .ret))⟩
def f165:F:=⟨12,false,[.s 2],(.seq (rF [oQ 1 11 0,oB 2 false]) (.seq (rF [oF 3 3 1,oK 4 4 3,o 5 (.call false (cf 166) [(.s 4)]),oM
 6 5,gF 6 true 7 7 1,gL 6 true 8 7,gN 6 true 9 8,gD 6 true 10 .eql 9 0,oW 11 6 10,oM 2 11]) .ret))⟩
def f166:F:=⟨22,false,[.s 2],(.seq (rF [oQ 1 4 0,oB 2 false]) (.seq (rF [oF 3 0 1,oL 4 3,oD 5 .eql 4 1,oM 6 5,gF 6 true 7 1 1,gL
 6 true 8 7,gD 6 true 9 .eql 8 1,oW 10 6 9,oM 11 10,gF 11 true 12 2 1,gL 11 true 13 12,gD 11 true 14 .eql 13 1,oW 15 11 14,oM 16 15,gF
 16 true 17 3 1,gL 16 true 18 17,gN 16 true 19 18,gD 16 true 20 .eql 19 0,oW 21 16 20,oM 2 21]) .ret))⟩
def b179_0:C:=(.round (rF [o 14 (.allocH [zn,zn]),oO 2 14 65]) (.block 5 (rT [oR 66 9,oR 67 10,oG 68 0 14,oR 69 68,o 70 (.iaddrS 1
 (.s 69) (ci 0)),oR 71 70,o 72 (.build [zi,zi,zi] [(0,1,(.s 67)),(1,1,(ci (-1))),(2,1,(.s 71))]),o 73 (.bslice 3 1 [zi,zi,zi] [(0,
 (.s 72))]),o 74 (.append 3 24 (.s 66) (.s 73)),oO 1 9 74])))
def f179:F:=⟨77,false,[.s 6],(.seq (rF [oQ 3 4 0,oQ 5 3 2,o 6 (.mv (.c zn))]) (.seq (.seq (rF [oM 15 1,oD 16 .eql 15 0]) (.cond (.s
 16) (.seq (rF [oK 17 4 3,oK 18 3 5,o 19 (.call false (cf 17) [(.s 17),(.s 18)]),oM 6 19]) .ret) .skip)) (.seq (rF [oK 21 4 3,oM 22 1,oK
 23 3 5,o 24 (.call false (cf 187) [(.s 21),(.s 22),(.s 23)]),oM 20 24,oX 25 20 0,oX 26 20 1,o 7 (.allocL [zn,zn,zn,zn,zn,zn,zn,
 zi]),oP 8 7 25,oM 8 26]) (.seq (.seq (rF [oM 27 8,oT 28 27]) (.cond (.s 28) (.seq (rF [o 6 (.mv (.c zn))]) .ret) .skip)) (.seq (rF [o 9 (.allocH
 [zn])]) (.seq (.seq (rF [oF 29 0 7,oF 30 1 29,oL 31 30,oN 32 31,oI 33 0]) (.block 0 (.loop (.seq (rF [oC 34 .lss 33 32]) (.seq (.cond (.s
 34) .skip (.exit 0)) (.seq (.block 1 (.seq (rF [oM 35 33,o 10 (.allocH [zi]),oO 1 10 35]) (.seq (rF [oK 36 3 5,oR 37 10,o 38 (.call false
 (cf 188) [(.s 36),(.s 37)]),oM 11 38]) (.seq (.seq (rF [oF 39 3 3,oL 40 39,oR 41 10,oA 42 7 40 41,oG 43 4 42,oR 44 43,oN 45 44,oI 46
 0]) (.block 2 (.loop (.seq (rF [oC 47 .lss 46 45]) (.seq (.cond (.s 47) .skip (.exit 2)) (.seq (.block 3 (.seq (rF [oM 48 46,oM 12 48]) (.seq
 (rF [oK 49 8 7,oR 50 10,oM 51 12,oM 52 11,o 53 (.call false (cf 189) [(.s 49),(.s 50),(.s 51),(.s 52)])]) (.cond (.s 53) (rF [oR 54 9,
 oR 55 10,oM 56 12,o 57 (.build [zi,zi,zi] [(0,1,(.s 55)),(1,1,(.s 56))]),o 58 (.bslice 3 1 [zi,zi,zi] [(0,(.s 57))]),o 59 (.append
 3 24 (.s 54) (.s 58)),oO 1 9 59]) .skip)))) (rF [oD 60 .add 46 1,oM 46 60]))))))) (.seq (rF [oK 61 8 7,oR 62 10,o 63 (.call false (cf 190)
 [(.s 61),(.s 62)])]) (.block 4 (.rangeF (.s 63) [64,65] b179_0))))))) (rF [oD 75 .add 33 1,oM 33 75]))))))) (.seq (rF [oR 76 9,oM 6 76]) .ret)))))))⟩
def b180_0:C:=(.round (.seq (rF [oM 12 57]) (rF [o 13 (.allocH [zn,zn]),oO 2 13 58])) (.block 1 (.seq (rT [oG 59 0 13,oR 60 59,o 61 (.iaddrS
 1 (.s 60) (ci 0)),oR 62 61,oG 63 2 7,oR 64 63,oC 65 .eql 62 64]) (.cond (.s 65) (.seq (rF [oS 66 8 10,oG 67 0 7,oR 68 67,oM 69 12,o 70
 (.call false (cf 191) [(.s 66),(.s 68),(.s 69)]),oO 3 8 70,on (.store 1 (.s 9) (ci 0))]) .ret) .skip))))
def f180:F:=⟨107,false,[.h 8 true 3,.h 9 false 1],(.seq (rF [oQ 4 4 0,oQ 6 3 2,o 7 (.boxH 3 (.s 3)),o 8 (.allocH [zn,zn,zn]),o
 9 (.allocH [zi])]) (.seq (.seq (rF [oM 15 1,oD 16 .eql 15 0]) (.cond (.s 16) (.seq (rF [oK 17 4 4,oK 18 3 6,oS 19 3 7,o 20 (.call false (cf
 18) [(.s 17),(.s 18),(.s 19)]),oX 21 20 0,oX 22 20 1,oO 3 8 21,oO 1 9 22]) .ret) .skip)) (.seq (rF [oK 24 4 4,oM 25 1,oK 26 3 6,o 27
 (.call false (cf 187) [(.s 24),(.s 25),(.s 26)]),oM 23 27,oX 28 23 0,oX 29 23 1,o 10 (.allocH [zn,zn,zn,zn,zn,zn,zn,zi]),oO 8 10
 28,oM 11 29]) (.seq (.seq (rF [oM 30 11,oT 31 30]) (.cond (.s 31) (.seq (rF [o 32 (.build [zn,zn,zn] []),oO 3 8 32,on (.store 1 (.s 9)
 (ci 1))]) .ret) .skip)) (.seq (.seq (rF [oG 33 0 7,oR 34 33,oD 35 .lss 34 0,oM 36 35,gG 36 false 37 0 7,gR 36 false 38 37,gF 36 false 39
 3 4,gL 36 false 40 39,gN 36 false 41 40,gC 36 false 42 .geq 38 41,oV 43 36 42,oM 44 43,gG 44 false 45 1 7,gR 44 false 46 45,gD 44 false
 47 .lss 46 (-1),oV 48 44 47]) (.cond (.s 48) (.seq (rF [o 49 (.build [zn,zn,zn] []),oO 3 8 49,on (.store 1 (.s 9) (ci 110))]) .ret) .skip))
 (.seq (.seq (rF [oG 50 1 7,oR 51 50,oD 52 .eql 51 (-1)]) (.cond (.s 52) (.seq (.seq (rF [oS 53 8 10,oG 54 0 7,oR 55 54,o 56 (.call false
 (cf 190) [(.s 53),(.s 55)])]) (.block 0 (.rangeF (.s 56) [57,58] b180_0))) (.seq (rF [o 71 (.build [zn,zn,zn] []),oO 3 8 71,on (.store
 1 (.s 9) (ci 110))]) .ret)) .skip)) (.seq (rF [oK 72 3 6,oG 73 0 7,oR 74 73,o 75 (.call false (cf 188) [(.s 72),(.s 74)]),oM 14 75]) (.seq
 (.seq (rT [oG 76 2 7,oR 77 76,oD 78 .neq 77 0,oM 79 78,gG 79 false 80 1 7,gR 79 false 81 80,gF 79 false 82 3 4,gL 79 false 83 82,gG 79
 false 84 0 7,gR 79 false 85 84,gI 79 false 86 7 83 85,gG 79 false 87 4 86,gR 79 false 88 87,gN 79 false 89 88,gC 79 false 90 .geq 81 89,
 oV 91 79 90,oM 92 91,og 92 false 93 (.load true 8 (.s 10)),gG 92 false 94 0 7,gR 92 false 95 94,gG 92 false 96 1 7,gR 92 false 97 96,gM
 92 false 98 14,og 92 false 99 (.call false (cf 189) [(.s 93),(.s 95),(.s 97),(.s 98)]),gT 92 false 100 99,oV 101 92 100]) (.cond (.s 101)
 (.seq (rF [o 102 (.build [zn,zn,zn] []),oO 3 8 102,on (.store 1 (.s 9) (ci 110))]) .ret) .skip)) (.seq (rF [oS 103 8 10,oS 104 3 7,oM 105
 14,o 106 (.call false (cf 192) [(.s 103),(.s 104),(.s 105)]),oO 3 8 106,on (.store 1 (.s 9) (ci 0))]) .ret)))))))))⟩
def f187:F:=⟨30,false,[.l 6 true 8,.s 7],(.seq (rF [oQ 3 4 0,oQ 5 3 2,o 6 (.allocL [zn,zn,zn,zn,zn,zn,zn,zi]),oB 7 false])
 (.seq (.seq (rF [oM 8 1,oD 9 .neq 8 1,oM 10 9,gM 10 true 11 1,gD 10 true 12 .neq 11 2,oW 13 10 12,oM 14 13,gK 14 false 15 4 3,og 14 false
 16 (.call false (cf 195) [(.s 15)]),gT 14 false 17 16,oV 18 14 17,oM 19 18,gK 19 false 20 4 3,gK 19 false 21 3 5,og 19 false 22 (.call
 false (cf 196) [(.s 20),(.s 21)]),gT 19 false 23 22,oV 24 19 23]) (.cond (.s 24) (.seq (rF [o 25 (.build [zn,zn,zn,zn,zn,zn,zn,zi]
 []),oP 8 6 25,oB 7 false]) .ret) .skip)) (.seq (rF [oK 26 3 5,oK 27 4 3,oM 28 1,o 29 (.build [zn,zn,zn,zn,zn,zn,zn,zi] [(0,3,(.s
 26)),(3,4,(.s 27)),(7,1,(.s 28))]),oP 8 6 29,oB 7 true]) .ret)))⟩
def f188:F:=⟨26,false,[.s 4],(.seq (rF [oQ 2 3 0,o 4 (.mv (.c zn))]) (.seq (rF [oF 8 0 2,oL 9 8,o 10 (.fcall (cf 198) [(.s 9)]),oM
 5 10]) (.seq (.seq (rF [oF 11 2 2,oL 12 11,oM 13 1,oA 14 1 12 13,oR 15 14,oN 16 15,oI 17 0]) (.block 0 (.loop (.seq (rF [oC 18 .lss 17
 16]) (.seq (.cond (.s 18) .skip (.exit 0)) (.seq (.block 1 (.seq (rF [oA 19 2 15 17,oS 20 2 19,o 7 (.allocL [zn,zn]),oP 2 7 20]) (rF [oM
 21 5,oK 22 2 7,o 23 (.call true (cf 199) [(.s 21),(.s 22)])]))) (rF [oD 24 .add 17 1,oM 17 24]))))))) (.seq (rF [oM 25 5,oM 4 25]) .ret))))⟩
def f189:F:=⟨109,false,[.s 8],(.seq (rF [oQ 4 8 0,oB 8 false]) (.seq (rF [oF 12 3 4,oF 13 3 12,oL 14 13,oM 15 1,oA 16 7 14 15,oG
 17 4 16,oR 18 17,oM 19 2,oA 20 11 18 19,oS 21 11 20,o 9 (.allocL [zi,zi,zi,zi,zi,zi,zn,zn,zb,zi,zi]),oP 11 9 21]) (.seq (.seq
 (rT [oF 22 0 4,oF 23 1 22,oL 24 23,oM 25 1,oA 26 1 24 25,oR 27 26,oF 28 1 9,oL 29 28,oC 30 .neq 27 29,oM 31 30,gF 31 false 32 3 9,
 gK 31 false 33 4 32,gM 31 false 34 3,gM 31 false 35 3,og 31 false 36 (.call false (cf 27) [(.s 33),(.s 34),(.s 35)]),gD 31 false 37 .neq
 36 1,oV 38 31 37]) (.cond (.s 38) (.seq (rF [oB 8 false]) .ret) .skip)) (.seq (rF [oF 39 0 4,oF 40 2 39,oL 41 40,oM 42 1,oA 43 1 41 42,
 oR 44 43,oN 45 44,oM 10 45]) (.seq (.seq (rF [oF 46 0 9,oL 47 46]) (.block 0 (.seq (.block 4 (.seq (.block 3 (.seq (.block 2 (.seq (.block
 1 (.seq (.seq (.seq (rF [oD 49 .eql 47 3,oM 48 49]) (.cond (.s 48) (.exit 1) .skip)) (.seq (.seq (.seq (rF [oD 51 .eql 47 4,oM 50 51]) (.cond
 (.s 50) .skip (rF [oD 52 .eql 47 5,oM 50 52]))) (.cond (.s 50) (.exit 2) .skip)) (.seq (.seq (rF [oD 54 .eql 47 6,oM 53 54]) (.cond (.s 53)
 (.exit 3) .skip)) (.seq (rF [oD 56 .eql 47 7,oM 55 56]) (.cond (.s 55) (.exit 4) .skip))))) (.exit 0))) (.seq (rF [oF 57 8 9,oL 58 57,oT 59
 58]) (.cond (.s 59) (.seq (rF [oM 60 10,oD 61 .lss 60 3,oM 8 61]) .ret) .skip)))) (.seq (.seq (rF [oM 62 10,oD 63 .eql 62 0,oM 8 63]) .ret)
 (.exit 0)))) (.seq (.seq (rF [oM 64 10,oD 65 .eql 64 0,oM 66 65,gF 66 true 67 0 4,gF 66 true 68 1 67,gL 66 true 69 68,gF 66 true 70 9 9,
 gL 66 true 71 70,gI 66 true 72 1 69 71,gR 66 true 73 72,gD 66 true 74 .eql 73 (-1),oW 75 66 74,oM 8 75]) .ret) (.exit 0)))) (.seq (.seq
 (rF [oF 76 3 4,oF 77 3 76,oL 78 77,oF 79 9 9,oL 80 79,oA 81 7 78 80,oG 82 1 81,oR 83 82,oD 84 .sub 83 1,oM 11 84]) (.seq (rF [oM 85
 10,oD 86 .eql 85 0,oM 87 86,gF 87 true 88 0 4,gF 87 true 89 1 88,gL 87 true 90 89,gF 87 true 91 9 9,gL 87 true 92 91,gI 87 true 93 1
 90 92,gR 87 true 94 93,gM 87 true 95 11,gC 87 true 96 .eql 94 95,oW 97 87 96,oM 98 97,gF 98 true 99 0 4,gF 98 true 100 2 99,gL 98 true
 101 100,gF 98 true 102 9 9,gL 98 true 103 102,gI 98 true 104 1 101 103,gR 98 true 105 104,gN 98 true 106 105,gD 98 true 107 .eql 106 0,
 oW 108 98 107,oM 8 108]) .ret)) (.exit 0))))) (.seq (rF [oB 8 true]) .ret))))))⟩
def f190:F:=⟨6,false,[.s 4],(.seq (rF [o 2 (.boxH 8 (.s 0)),o 3 (.boxH 1 (.s 1)),o 4 (.mv (.c (.t .nilf)))]) (.seq (rF [o 5 (.mkfn 200
 [] [(.s 2),(.s 3)]),oM 4 5]) .ret))⟩
def f191:F:=⟨36,false,[.l 6 true 3],(.seq (rF [oQ 3 8 0,o 6 (.allocL [zn,zn,zn])]) (.seq (rF [oF 8 0 3,oK 9 3 8,o 10 (.call true
 (cf 202) [(.s 9)]),o 7 (.allocL [zn,zn,zn]),oP 3 7 10]) (.seq (rT [oF 11 0 7,oL 12 11,oF 13 2 7,oL 14 13,oM 15 1,oA 16 1 14 15,oR 17
 16,oM 18 2,oA 19 2 17 18,oS 20 2 19,o 21 (.call true (cf 199) [(.s 12),(.s 20)])]) (.seq (rT [oF 22 2 7,oL 23 22,oM 24 1,oF 25 2 7,oL
 26 25,oM 27 1,oA 28 1 26 27,oR 29 28,oM 30 2,oM 31 2,oD 32 .add 31 1,o 33 (.call true (cf 203) [(.s 29),(.s 30),(.s 32)]),oA 34 1 23
 24,oO 1 34 33]) (.seq (rF [oK 35 3 7,oP 3 6 35]) .ret)))))⟩
def f192:F:=⟨107,false,[.l 6 true 3],(.seq (rF [oQ 3 8 0,oQ 4 3 1,o 6 (.allocL [zn,zn,zn])]) (.seq (rF [oF 13 0 3,oK 14 3 13,o 15
 (.call true (cf 202) [(.s 14)]),o 7 (.allocL [zn,zn,zn]),oP 3 7 15]) (.seq (rT [oF 16 3 3,oF 17 3 16,oL 18 17,oF 19 0 4,oL 20 19,oA
 21 7 18 20,oG 22 4 21,oR 23 22,oF 24 1 4,oL 25 24,oA 26 11 23 25,oS 27 11 26,o 8 (.allocL [zi,zi,zi,zi,zi,zi,zn,zn,zb,zi,zi]),
 oP 11 8 27]) (.seq (rF [o 9 (.allocL [zn,zn])]) (.seq (.seq (rF [oF 28 7 8,oL 29 28,oN 30 29,oI 31 0]) (.block 0 (.loop (.seq (rF [oC 32
 .lss 31 30]) (.seq (.cond (.s 32) .skip (.exit 0)) (.seq (.block 1 (.seq (rF [oA 33 5 29 31,oS 34 5 33,o 11 (.allocL [zi,zi,zi,zi,zn]),
 oP 5 11 34]) (.seq (rF [oF 35 1 11,oK 36 4 35,oM 37 2,oM 38 2,o 39 (.call false (cf 27) [(.s 36),(.s 37),(.s 38)]),oM 12 39]) (.seq (rF
 [oF 40 0 8,oL 41 40,oD 42 .eql 41 3,oM 43 42,gF 43 true 44 3 3,gF 43 true 45 0 44,gL 43 true 46 45,gF 43 true 47 0 11,gL 43 true 48 47,
 gI 43 true 49 6 46 48,gG 43 true 50 3 49,gR 43 true 51 50,gD 43 true 52 .eql 51 (-1),oW 53 43 52]) (.cond (.s 53) (.seq (rF [oF 54 0 9,oL
 55 54,oF 56 0 11,oL 57 56,o 58 (.bslice 1 1 [zi] [(0,(.s 57))]),o 59 (.append 1 8 (.s 55) (.s 58)),oF 60 0 9,oP 1 60 59]) (rF [oF 61 1
 9,oL 62 61,oM 63 12,o 64 (.bslice 1 1 [zi] [(0,(.s 63))]),o 65 (.append 1 8 (.s 62) (.s 64)),oF 66 1 9,oP 1 66 65])) (rF [oF 67 0 7,oL
 68 67,oF 69 0 11,oL 70 69,oM 71 12,oA 72 1 68 70,oO 1 72 71])))))) (rF [oD 73 .add 31 1,oM 31 73]))))))) (.seq (.seq (rF [oF 74 0 8,oL
 75 74,oD 76 .eql 75 3]) (.cond (.s 76) (rT [oF 77 2 7,oL 78 77,oF 79 0 4,oL 80 79,oF 81 2 7,oL 82 81,oF 83 0 4,oL 84 83,oA 85 1 82 84,
 oR 86 85,oK 87 2 9,o 88 (.bslice 2 1 [zn,zn] [(0,(.s 87))]),o 89 (.append 2 48 (.s 86) (.s 88)),oA 90 1 78 80,oO 1 90 89]) .skip)) (.seq
 (rF [oF 91 1 7,oL 92 91,oF 93 0 4,oL 94 93,oF 95 2 8,oL 96 95,oA 97 1 92 94,oO 1 97 96]) (.seq (.seq (rF [oF 98 0 8,oL 99 98,oD 100
 .eql 99 6]) (.cond (.s 100) (rF [oF 101 1 7,oL 102 101,oF 103 9 8,oL 104 103,oA 105 1 102 104,on (.store 1 (.s 105) (ci 0))]) .skip)) (.seq
 (rF [oK 106 3 7,oP 3 6 106]) .ret)))))))))⟩
def f195:F:=⟨14,false,[.s 2],(.seq (rF [oQ 1 4 0,oB 2 false]) (.seq (rF [oK 7 4 1,o 8 (.call false (cf 64) [(.s 7)]),oM 6 8,oX 9 6
 0,oX 10 6 1,oX 11 6 2,oM 3 9,oM 4 10,oM 5 11]) (.seq (rF [oM 12 3,oD 13 .eql 12 0,oM 2 13]) .ret)))⟩
def f196:F:=⟨121,false,[.s 4],(.seq (rF [oQ 2 4 0,oQ 3 3 1,oB 4 false]) (.seq (.seq (rF [oF 12 0 3,oL 13 12,oN 14 13,oF 15 0 2,oL
 16 15,oN 17 16,oC 18 .neq 14 17,oM 19 18,gF 19 false 20 1 3,gL 19 false 21 20,gN 19 false 22 21,gF 19 false 23 3 2,gL 19 false 24 23,
 gN 19 false 25 24,gC 19 false 26 .neq 22 25,oV 27 19 26,oM 28 27,gF 28 false 29 2 3,gL 28 false 30 29,gN 28 false 31 30,gF 28 false 32
 3 2,gL 28 false 33 32,gN 28 false 34 33,gC 28 false 35 .neq 31 34,oV 36 28 35]) (.cond (.s 36) (.seq (rF [oB 4 false]) .ret) .skip)) (.seq
 (.seq (rF [oF 37 0 3,oL 38 37,oN 39 38,oI 40 0]) (.block 0 (.loop (.seq (rF [oC 41 .lss 40 39]) (.seq (.cond (.s 41) .skip (.exit 0)) (.seq
 (.block 1 (.seq (rF [oM 42 40,oA 43 1 38 40,oR 44 43,oM 5 42,oM 6 44]) (.seq (rF [oM 45 6,oD 46 .lss 45 0,oM 47 46,gM 47 false 48 6,gF
 47 false 49 0 2,gL 47 false 50 49,gM 47 false 51 5,gI 47 false 52 6 50 51,gG 47 false 53 1 52,gR 47 false 54 53,og 47 false 55 (.bin .shl
 (ci 1) (.s 54)),gC 47 false 56 .geq 48 55,oV 57 47 56]) (.cond (.s 57) (.seq (rF [oB 4 false]) .ret) .skip)))) (rF [oD 58 .add 40 1,oM 40
 58]))))))) (.seq (.seq (rF [oF 59 1 3,oL 60 59,oN 61 60,oI 62 0]) (.block 2 (.loop (.seq (rF [oC 63 .lss 62 61]) (.seq (.cond (.s 63) .skip
 (.exit 2)) (.seq (.block 3 (.seq (rF [oM 64 62,oA 65 1 60 62,oR 66 65,oM 7 64,oM 8 66]) (.seq (rF [oF 67 3 2,oL 68 67,oM 69 7,oA 70 7
 68 69,oS 71 7 70,o 9 (.allocL [ze,zi,zn,zn,zn,zn,zb]),oP 7 9 71]) (.seq (.seq (rF [oM 72 8,oD 73 .lss 72 (-1),oM 74 73,gM 74 false
 75 8,gF 74 false 76 1 9,gL 74 false 77 76,gC 74 false 78 .geq 75 77,oV 79 74 78,oM 80 79,gF 80 false 81 2 3,gL 80 false 82 81,gM 80 false
 83 7,gI 80 false 84 1 82 83,gR 80 false 85 84,gN 80 false 86 85,gD 80 false 87 .gtr 86 3,oV 88 80 87]) (.cond (.s 88) (.seq (rF [oB 4 false])
 .ret) .skip)) (.seq (.seq (rF [oM 89 8,oD 90 .eql 89 (-1),oM 91 90,gF 91 true 92 6 9,gL 91 true 93 92,gT 91 true 94 93,gM 91 true 95 94,
 gF 95 false 96 2 3,gL 95 false 97 96,gM 95 false 98 7,gI 95 false 99 1 97 98,gR 95 false 100 99,gN 95 false 101 100,gD 95 false 102 .gtr
 101 0,og 91 true 103 (.pick (.s 95) (cb true) (.s 102)),oW 104 91 103]) (.cond (.s 104) (.seq (rF [oB 4 false]) .ret) .skip)) (.seq (rF [oF
 105 2 3,oL 106 105,oM 107 7,oA 108 1 106 107,oR 109 108,oN 110 109,oI 111 0]) (.block 4 (.loop (.seq (rF [oC 112 .lss 111 110]) (.seq (.cond
 (.s 112) .skip (.exit 4)) (.seq (.block 5 (.seq (rF [oA 113 2 109 111,oS 114 2 113,o 11 (.allocL [zn,zn]),oP 2 11 114]) (.seq (rF [oK 115
 4 2,oK 116 2 11,o 117 (.call false (cf 205) [(.s 115),(.s 116)]),oT 118 117]) (.cond (.s 118) (.seq (rF [oB 4 false]) .ret) .skip)))) (rF
 [oD 119 .add 111 1,oM 111 119])))))))))))) (rF [oD 120 .add 62 1,oM 62 120]))))))) (.seq (rF [oB 4 true]) .ret)))))⟩
def f198:F:=⟨1,true,[],.ext .cloneI⟩
def f199:F:=⟨23,true,[],(.seq (rF [oQ 3 2 1]) (.seq (rF [oF 6 0 3,oL 7 6,oN 8 7,oI 9 0]) (.block 0 (.loop (.seq (rF [oC 10 .lss 9 8])
 (.seq (.cond (.s 10) .skip (.exit 0)) (.seq (.block 1 (.seq (rF [oM 11 9,oA 12 1 7 9,oR 13 12,oM 4 11,oM 5 13]) (rF [oM 14 0,oM 15 5,oF
 16 1 3,oL 17 16,oM 18 4,oA 19 1 17 18,oR 20 19,oA 21 1 14 15,oO 1 21 20]))) (rF [oD 22 .add 9 1,oM 9 22]))))))))⟩
def f200:F:=⟨40,true,[],(.seq (rF [oG 7 0 1,oG 8 2 7,oR 9 8,oR 10 2,oA 11 1 9 10,oR 12 11,oM 4 12]) (.seq (rF [oM 13 4,oN 14 13,
 oI 15 0]) (.block 0 (.loop (.seq (rF [oC 16 .lss 15 14]) (.seq (.cond (.s 16) .skip (.exit 0)) (.seq (.block 1 (.seq (rF [oM 17 15,oA 18 2 13
 15,oS 19 2 18,o 6 (.allocL [zn,zn]),oM 5 17,oP 2 6 19]) (.seq (.seq (rT [oM 20 5,oD 21 .gtr 20 0,oM 22 21,gG 22 true 23 7 1,gR 22 true
 24 23,gD 22 true 25 .neq 24 2,gM 22 true 26 25,gM 26 false 27 4,gM 26 false 28 5,og 26 false 29 (.slice 2 (.s 27) none (some (.s 28)) none),
 gK 26 false 30 2 6,og 26 false 31 (.call false (cf 201) [(.s 29),(.s 30)]),og 22 true 32 (.pick (.s 26) (cb true) (.s 31)),oW 33 22 32])
 (.cond (.s 33) (.exit 1) .skip)) (.seq (rF [oM 34 0,oM 35 5,oK 36 2 6,o 37 (.call true (.s 34) [(.s 35),(.s 36)]),oT 38 37]) (.cond (.s
 38) .ret .skip))))) (rF [oD 39 .add 15 1,oM 15 39]))))))))⟩
def f201:F:=⟨28,false,[.s 4],(.seq (rF [oQ 3 2 1,oB 4 false]) (.seq (.seq (rF [oM 9 0,oN 10 9,oI 11 0]) (.block 0 (.loop (.seq (rF
 [oC 12 .lss 11 10]) (.seq (.cond (.s 12) .skip (.exit 0)) (.seq (.block 1 (.seq (rF [oA 13 2 9 11,oS 14 2 13,o 6 (.allocL [zn,zn]),oP 2 6
 14]) (.seq (rF [oF 15 0 3,oL 16 15,oN 17 16,oI 18 0]) (.block 2 (.loop (.seq (rF [oC 19 .lss 18 17]) (.seq (.cond (.s 19) .skip (.exit 2))
 (.seq (.block 3 (.seq (rF [oA 20 1 16 18,oR 21 20,oM 8 21]) (.seq (rF [oF 22 0 6,oL 23 22,oM 24 8,o 25 (.call false (cf 206) [(.s 23),(.s
 24)])]) (.cond (.s 25) (.seq (rF [oB 4 true]) .ret) .skip)))) (rF [oD 26 .add 18 1,oM 18 26]))))))))) (rF [oD 27 .add 11 1,oM 11 27]))))))) (.seq (rF [oB 4 false]) .ret)))⟩
def f202:F:=⟨54,true,[.l 2 true 3],(.seq (rF [oQ 1 3 0,o 2 (.allocL [zn,zn,zn])]) (.seq (rT [oF 8 0 1,oL 9 8,o 10 (.fcall (cf 198)
 [(.s 9)]),oF 11 1 1,oL 12 11,o 13 (.fcall (cf 198) [(.s 12)]),oF 14 2 1,oL 15 14,oN 16 15,o 17 (.mkslice 1 24 [zn] (.s 16) (.s 16)),o
 18 (.build [zn,zn,zn] [(0,1,(.s 10)),(1,1,(.s 13)),(2,1,(.s 17))]),o 3 (.allocL [zn,zn,zn]),oP 3 3 18]) (.seq (.seq (rF [oF 19
 2 1,oL 20 19,oN 21 20,oI 22 0]) (.block 0 (.loop (.seq (rF [oC 23 .lss 22 21]) (.seq (.cond (.s 23) .skip (.exit 0)) (.seq (.block 1 (.seq
 (rF [oM 24 22,oA 25 1 20 22,oR 26 25,oM 4 24,oM 5 26]) (.seq (rF [oM 27 5,oN 28 27,oI 29 0]) (.block 2 (.loop (.seq (rF [oC 30 .lss 29
 28]) (.seq (.cond (.s 30) .skip (.exit 2)) (.seq (.block 3 (.seq (rF [oA 31 2 27 29,oS 32 2 31,o 7 (.allocL [zn,zn]),oP 2 7 32]) (rT [oF
 33 2 3,oL 34 33,oM 35 4,oF 36 2 3,oL 37 36,oM 38 4,oA 39 1 37 38,oR 40 39,oF 41 0 7,oL 42 41,o 43 (.fcall (cf 198) [(.s 42)]),oF 44
 1 7,oL 45 44,o 46 (.fcall (cf 198) [(.s 45)]),o 47 (.build [zn,zn] [(0,1,(.s 43)),(1,1,(.s 46))]),o 48 (.bslice 2 1 [zn,zn] [(0,(.s
 47))]),o 49 (.append 2 48 (.s 40) (.s 48)),oA 50 1 34 35,oO 1 50 49]))) (rF [oD 51 .add 29 1,oM 29 51]))))))))) (rF [oD 52 .add 22 1,oM
 22 52]))))))) (.seq (rF [oK 53 3 3,oP 3 2 53]) .ret))))⟩
end Rg
end

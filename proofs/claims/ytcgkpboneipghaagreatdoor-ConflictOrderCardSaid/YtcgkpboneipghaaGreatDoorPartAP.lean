/- Part of the proof of the laws of the package relyguardlaw30: an abstract machine for the program's functions, what they compute, and that the machine is the program's. No condition. (Fn1) -/
import Derived.Test.YtcgkpboneipghaaGreatDoorPartAO
section
namespace Rg
open Go
def f23:F:=⟨11,false,[.s 4],(.seq (rF [oQ 2 4 0,oB 4 false]) (.seq (rF [oK 5 4 2,oM 6 1,oD 7 .add 6 1,o 8 (.call false (cf 47) [(.s
 5),(.s 7)]),oM 9 1,oC 10 .leq 8 9,oM 4 10]) .ret))⟩
def f28:F:=⟨21,false,[.s 2],(.seq (rF [oQ 1 11 0,o 2 (.mv (.c zn))]) (.seq (rF [o 3 (.mv (.c zn))]) (.seq (.seq (rF [oF 6 7 1,oL 7 6,
 oN 8 7,oI 9 0]) (.block 0 (.loop (.seq (rF [oC 10 .lss 9 8]) (.seq (.cond (.s 10) .skip (.exit 0)) (.seq (.block 1 (.seq (rF [oA 11 5 7 9,oS
 12 5 11,o 5 (.allocL [zi,zi,zi,zi,zn]),oP 5 5 12]) (rF [oM 13 3,oF 14 0 5,oL 15 14,o 16 (.bslice 1 1 [zi] [(0,(.s 15))]),o 17 (.append
 1 8 (.s 13) (.s 16)),oM 3 17]))) (rF [oD 18 .add 9 1,oM 9 18]))))))) (.seq (rF [oM 19 3,o 20 (.call true (cf 57) [(.s 19)]),oM 2 20]) .ret))))⟩
def f31:F:=⟨34,false,[.s 2],(.seq (rF [oQ 1 11 0,o 2 (.mv (.c zn))]) (.seq (rF [oF 10 3 1,oK 11 4 10,o 12 (.call true (cf 60) [(.s
 11)]),oM 9 12,oX 13 9 0,oX 14 9 1,oM 3 13,oM 4 14]) (.seq (.seq (rF [oF 15 7 1,oL 16 15,oN 17 16,oI 18 0]) (.block 0 (.loop (.seq (rF
 [oC 19 .lss 18 17]) (.seq (.cond (.s 19) .skip (.exit 0)) (.seq (.block 1 (.seq (rF [oA 20 5 16 18,oS 21 5 20,o 6 (.allocL [zi,zi,zi,zi,
 zn]),oP 5 6 21]) (.seq (rF [oF 23 1 6,oK 24 4 23,o 25 (.call true (cf 60) [(.s 24)]),oM 22 25,oX 26 22 0,oX 27 22 1,oM 7 26,oM 8 27])
 (rF [oM 28 4,oM 29 8,o 30 (.append 1 8 (.s 28) (.s 29)),oM 4 30])))) (rF [oD 31 .add 18 1,oM 18 31]))))))) (.seq (rF [oM 32 4,o 33 (.call
 true (cf 57) [(.s 32)]),oM 2 33]) .ret))))⟩
def f47:F:=⟨33,false,[.s 4],(.seq (rF [oQ 2 4 0,oI 4 0]) (.seq (.seq (rF [oM 7 1,oD 8 .leq 7 0]) (.cond (.s 8) (.seq (rF [oI 4 0]) .ret)
 .skip)) (.seq (rF [oI 5 1]) (.seq (.seq (rF [oI 6 0]) (.block 0 (.loop (.seq (.seq (rF [oM 9 6,oF 10 3 2,oL 11 10,oN 12 11,oC 13 .lss 9 12,
 oM 14 13,gM 14 true 15 5,gM 14 true 16 1,gC 14 true 17 .lss 15 16,oW 18 14 17]) (.cond (.s 18) .skip (.exit 0))) (.seq (.block 1 (rF [oM
 21 5,oF 22 3 2,oL 23 22,oM 24 6,oA 25 4 23 24,oS 26 4 25,oM 27 1,oM 28 5,oC 29 .sub 27 28,o 30 (.call false (cf 47) [(.s 26),(.s 29)]),
 oC 31 .add 21 30,oM 5 31])) (rF [oM 19 6,oD 20 .add 19 1,oM 6 20])))))) (.seq (rF [oM 32 5,oM 4 32]) .ret)))))⟩
def f51:F:=⟨8,false,[.s 2],(.seq (rF [o 1 (.boxH 4 (.s 0)),oB 2 false]) (.seq (rF [o 3 (.allocH [zi]),on (.store 1 (.s 3) (ci 0))])
 (.seq (rF [o 4 (.allocH [(.t .nilf)])]) (.seq (rF [o 5 (.mkfn 70 [] [(.s 3),(.s 4)]),oO 1 4 5]) (.seq (rF [oR 6 4,o 7 (.call true (.s 6) [(.s 1),(ci 1)]),oM 2 7]) .ret)))))⟩
def f57:F:=⟨7,true,[.s 2],(.seq (rF [o 2 (.mv (.c zn))]) (.seq (rF [oM 3 0,o 4 (.call true (cf 74) [(.s 3)])]) (.seq (rF [oM 5 0,o 6
 (.call true (cf 75) [(.s 5)]),oM 2 6]) .ret)))⟩
def f60:F:=⟨15,true,[.s 2, .s 3],(.seq (rF [o 1 (.boxH 4 (.s 0)),o 2 (.mv (.c zn)),o 3 (.mv (.c zn))]) (.seq (.seq (rF [oS 6 4 1,o
 7 (.call false (cf 51) [(.s 6)]),oT 8 7]) (.cond (.s 8) (.seq (rF [o 2 (.mv (.c zn)),o 3 (.mv (.c zn))]) .ret) .skip)) (.seq (rF [o 4 (.allocH
 [zb,zb,zb,zb,zb,zb,zb,zb,zb,zb,zb,zb,zb,zb,zb,zb,zb,zb,zb,zb,zb,zb,zb,zb,zb,zb,zb,zb,zb,zb,zb,zb]),o 5 (.allocH
 [zb,zb,zb,zb,zb,zb,zb,zb,zb,zb,zb,zb,zb,zb,zb,zb,zb,zb,zb,zb,zb,zb,zb,zb,zb,zb,zb,zb,zb,zb,zb,zb])]) (.seq (rF
 [o 9 (.mkfn 77 [] [(.s 4),(.s 5)]),o 10 (.call true (cf 76) [(.s 1),(.s 9)])]) (.seq (rT [oS 11 32 4,o 12 (.fcall (cf 78) [(.s 11)]),oS
 13 32 5,o 14 (.fcall (cf 78) [(.s 13)]),oM 2 12,oM 3 14]) .ret)))))⟩
def f61:F:=⟨8,false,[.l 4 true 4],(.seq (rF [o 4 (.allocL [zi,zi,zi,zn])]) (.seq (rF [oM 5 1,oM 6 0,o 7 (.build [zi,zi,zi,zn]
 [(0,1,(ci 1)),(1,1,(.s 5)),(2,1,(.s 6))]),oP 4 4 7]) .ret))⟩
def f62:F:=⟨8,false,[.l 4 true 4],(.seq (rF [o 4 (.allocL [zi,zi,zi,zn])]) (.seq (rF [oM 5 1,oM 6 0,o 7 (.build [zi,zi,zi,zn]
 [(0,1,(ci 2)),(1,1,(.s 5)),(2,1,(.s 6))]),oP 4 4 7]) .ret))⟩
def f64:F:=⟨66,false,[.s 2, .s 3, .s 4],(.seq (rF [oQ 1 4 0,oI 2 0,oI 3 0,oI 4 0]) (.seq (rF [oK 16 4 1,o 17 (.build [zn,zn,zn,
 zn] [(0,4,(.s 16))]),o 5 (.allocL [zn,zn,zn,zn]),oP 4 5 17]) (.seq (.seq (rF [oK 19 4 5,o 20 (.call false (cf 79) [(.s 19)]),oM 18 20,
 oX 21 18 0,oX 22 18 1,oM 6 21,oM 7 22]) (.seq (rF [oM 23 6,oD 24 .neq 23 0]) (.cond (.s 24) (.seq (rF [oM 25 6,oM 26 7,oM 2 25,oM 3 26,
 oI 4 (-1)]) .ret) .skip))) (.seq (.seq (rF [oK 27 4 5,o 28 (.mkfn 80 [(.s 27)] []),oK 29 4 5,o 30 (.mkfn 81 [(.s 29)] []),oK 31 4 5,o 32
 (.mkfn 82 [(.s 31)] []),o 33 (.build [(.t .nilf),(.t .nilf),(.t .nilf)] [(0,1,(.s 28)),(1,1,(.s 30)),(2,1,(.s 32))]),oI 34 0]) (.block
 0 (.loop (.seq (rF [oD 35 .lss 34 3]) (.seq (.cond (.s 35) .skip (.exit 0)) (.seq (.block 1 (.seq (rF [o 36 (.idxA false 3 1 (.s 33) (.s 34)),
 oM 9 36]) (.seq (rF [oM 37 9,o 38 (.call false (.s 37) []),oM 10 38]) (.seq (rF [oM 39 10,oD 40 .neq 39 0]) (.cond (.s 40) (.seq (rF [oM 41
 10,oM 2 41,oI 3 (-1),oI 4 (-1)]) .ret) .skip))))) (rF [oD 42 .add 34 1,oM 34 42]))))))) (.seq (rF [o 43 (.mkmap),oM 11 43]) (.seq (.seq
 (rF [oF 44 3 1,oL 45 44,oN 46 45,oI 47 0]) (.block 2 (.loop (.seq (rF [oC 48 .lss 47 46]) (.seq (.cond (.s 48) .skip (.exit 2)) (.seq (.block
 3 (.seq (rF [oM 49 47,oA 50 7 45 47,oS 51 7 50,o 13 (.allocL [ze,zi,zn,zn,zn,zn,zb]),oM 12 49,oP 7 13 51]) (.seq (rF [oK 53 4 5,oM
 54 12,oK 55 7 13,oM 56 11,o 57 (.call true (cf 83) [(.s 53),(.s 54),(.s 55),(.s 56)]),oM 52 57,oX 58 52 0,oX 59 52 1,oM 14 58,oM 15
 59]) (.seq (rF [oM 60 14,oD 61 .neq 60 0]) (.cond (.s 61) (.seq (rF [oM 62 14,oM 63 12,oM 64 15,oM 2 62,oM 3 63,oM 4 64]) .ret) .skip)))))
 (rF [oD 65 .add 47 1,oM 47 65]))))))) (.seq (rF [oI 2 0,oI 3 (-1),oI 4 (-1)]) .ret)))))))⟩
def f70:F:=⟨41,true,[.s 6],(.seq (rF [oB 6 false]) (.seq (rF [oR 8 2,oD 9 .add 8 1,oO 1 2 9]) (.seq (.seq (rF [oR 10 2,oD 11 .gtr 10
 600,oM 12 11,gM 12 false 13 1,gD 12 false 14 .gtr 13 40,oV 15 12 14,oM 16 15,gM 16 false 17 0,og 16 false 18 (.call false (cf 71) [(.s
 17)]),gT 16 false 19 18,oV 20 16 19]) (.cond (.s 20) (.seq (rF [oB 6 false]) .ret) .skip)) (.seq (.seq (rF [oM 21 0,o 22 (.nilchk (.s 21)),
 oG 23 3 22,oR 24 23,oN 25 24,oI 26 0]) (.block 0 (.loop (.seq (rF [oC 27 .lss 26 25]) (.seq (.cond (.s 27) .skip (.exit 0)) (.seq (.block
 1 (.seq (rF [oM 28 26,oM 7 28]) (.seq (rT [oR 29 3,oM 30 0,o 31 (.nilchk (.s 30)),oG 32 3 31,oR 33 32,oM 34 7,oA 35 4 33 34,oM 36 1,
 oD 37 .add 36 1,o 38 (.call true (.s 29) [(.s 35),(.s 37)]),oT 39 38]) (.cond (.s 39) (.seq (rF [oB 6 false]) .ret) .skip)))) (rF [oD 40 .add
 26 1,oM 26 40]))))))) (.seq (rF [oB 6 true]) .ret)))))⟩
def f71:F:=⟨162,false,[.s 2],(.seq (rF [oB 2 false]) (.seq (.seq (rF [oM 3 0,o 4 (.nilchk (.s 3)),oG 5 1 4,oR 6 5,oD 7 .lss 6 1,oM
 8 7,gM 8 false 9 0,og 8 false 10 (.nilchk (.s 9)),gG 8 false 11 1 10,gR 8 false 12 11,gD 8 false 13 .gtr 12 8,oV 14 8 13]) (.cond (.s 14)
 (.seq (rF [oB 2 false]) .ret) .skip)) (.seq (.seq (rF [oM 15 0,o 16 (.nilchk (.s 15)),oG 17 0 16,oR 18 17]) (.block 0 (.seq (rF [oD 20 .eql
 18 1,oM 19 20]) (.cond (.s 19) (.seq (rT [oM 21 0,o 22 (.nilchk (.s 21)),oG 23 3 22,oR 24 23,oN 25 24,oD 26 .eql 25 0,oM 27 26,gM 27
 true 28 0,og 27 true 29 (.nilchk (.s 28)),gG 27 true 30 2 29,gR 27 true 31 30,gD 27 true 32 .geq 31 0,oW 33 27 32,oM 34 33,gM 34 true
 35 0,og 34 true 36 (.nilchk (.s 35)),gG 34 true 37 2 36,gR 34 true 38 37,gM 34 true 39 0,og 34 true 40 (.nilchk (.s 39)),gG 34 true 41
 1 40,gR 34 true 42 41,og 34 true 43 (.iaddrA 9 1 (.g 0) (.s 42)),gR 34 true 44 43,gC 34 true 45 .leq 38 44,oW 46 34 45,oM 2 46]) .ret)
 (.seq (.seq (rF [oD 48 .eql 18 2,oM 47 48]) (.cond (.s 47) .skip (rF [oD 49 .eql 18 3,oM 47 49]))) (.cond (.s 47) (.seq (rF [oM 50 0,o 51
 (.nilchk (.s 50)),oG 52 3 51,oR 53 52,oN 54 53,oD 55 .eql 54 0,oM 56 55,gM 56 true 57 0,og 56 true 58 (.nilchk (.s 57)),gG 56 true 59
 2 58,gR 56 true 60 59,gD 56 true 61 .geq 60 0,oW 62 56 61,oM 63 62,gM 63 true 64 0,og 63 true 65 (.nilchk (.s 64)),gG 63 true 66 2 65,
 gR 63 true 67 66,gD 63 true 68 .lss 67 32,oW 69 63 68,oM 2 69]) .ret) .skip)))))) (.seq (.seq (rF [oM 70 0,o 71 (.nilchk (.s 70)),oG 72
 2 71,oR 73 72,oD 74 .neq 73 0]) (.cond (.s 74) (.seq (rF [oB 2 false]) .ret) .skip)) (.seq (.seq (rF [oM 75 0,o 76 (.nilchk (.s 75)),oG 77
 0 76,oR 78 77]) (.block 1 (.seq (rF [oD 80 .eql 78 4,oM 79 80]) (.cond (.s 79) (.seq (rT [oM 81 0,o 82 (.nilchk (.s 81)),oG 83 3 82,oR 84
 83,oM 85 0,o 86 (.nilchk (.s 85)),oG 87 1 86,oR 88 87,o 89 (.bslice 1 1 [zi] [(0,(.s 88))]),o 90 (.call false (cf 91) [(.s 84),(.s 89)]),
 oM 2 90]) .ret) (.seq (.seq (rF [oD 92 .eql 78 5,oM 91 92]) (.cond (.s 91) .skip (.seq (rF [oD 93 .eql 78 6,oM 91 93]) (.cond (.s 91) .skip
 (.seq (rF [oD 94 .eql 78 7,oM 91 94]) (.cond (.s 91) .skip (.seq (rF [oD 95 .eql 78 8,oM 91 95]) (.cond (.s 91) .skip (.seq (rF [oD 96 .eql
 78 9,oM 91 96]) (.cond (.s 91) .skip (rF [oD 97 .eql 78 10,oM 91 97]))))))))))) (.cond (.s 91) (.seq (rT [oM 98 0,o 99 (.nilchk (.s 98)),
 oG 100 3 99,oR 101 100,oM 102 0,o 103 (.nilchk (.s 102)),oG 104 1 103,oR 105 104,oM 106 0,o 107 (.nilchk (.s 106)),oG 108 1 107,oR 109
 108,o 110 (.bslice 1 2 [zi] [(0,(.s 105)),(1,(.s 109))]),o 111 (.call false (cf 91) [(.s 101),(.s 110)]),oM 2 111]) .ret) (.seq (.seq
 (rF [oD 113 .eql 78 11,oM 112 113]) (.cond (.s 112) .skip (.seq (rF [oD 114 .eql 78 12,oM 112 114]) (.cond (.s 112) .skip (rF [oD 115 .eql
 78 13,oM 112 115]))))) (.cond (.s 112) (.seq (rT [oM 116 0,o 117 (.nilchk (.s 116)),oG 118 1 117,oR 119 118,oD 120 .eql 119 1,oM 121 120,
 gM 121 true 122 0,og 121 true 123 (.nilchk (.s 122)),gG 121 true 124 3 123,gR 121 true 125 124,gN 121 true 126 125,gD 121 true 127 .eql
 126 2,oW 128 121 127,oM 129 128,gM 129 true 130 0,og 129 true 131 (.nilchk (.s 130)),gG 129 true 132 3 131,gR 129 true 133 132,og 129
 true 134 (.iaddrS 4 (.s 133) (ci 0)),gG 129 true 135 1 134,gR 129 true 136 135,gM 129 true 137 0,og 129 true 138 (.nilchk (.s 137)),gG 129
 true 139 3 138,gR 129 true 140 139,og 129 true 141 (.iaddrS 4 (.s 140) (ci 1)),gG 129 true 142 1 141,gR 129 true 143 142,gC 129 true 144
 .eql 136 143,oW 145 129 144,oM 2 145]) .ret) (.seq (rF [oD 147 .eql 78 14,oM 146 147]) (.cond (.s 146) (.seq (rT [oM 148 0,o 149 (.nilchk
 (.s 148)),oG 150 3 149,oR 151 150,oM 152 0,o 153 (.nilchk (.s 152)),oG 154 1 153,oR 155 154,oM 156 0,o 157 (.nilchk (.s 156)),oG 158
 1 157,oR 159 158,o 160 (.bslice 1 3 [zi] [(0,(ci 1)),(1,(.s 155)),(2,(.s 159))]),o 161 (.call false (cf 91) [(.s 151),(.s 160)]),oM
 2 161]) .ret) .skip)))))))))) (.seq (rF [oB 2 false]) .ret))))))⟩
def f74:F:=⟨1,true,[], .ext .sortI⟩
def f75:F:=⟨1,true,[], .ext .compactI⟩
def f76:F:=⟨31,true,[],(.seq (.seq (rF [oM 5 0,o 6 (.nilchk (.s 5)),oG 7 3 6,oR 8 7,oN 9 8,oD 10 .eql 9 0]) (.cond (.s 10) (rF [oM
 11 1,oM 12 0,o 13 (.call true (.s 11) [(.s 12)])]) .skip)) (.seq (rF [oM 14 0,o 15 (.nilchk (.s 14)),oG 16 3 15,oR 17 16,oN 18 17,oI 19
 0]) (.block 0 (.loop (.seq (rF [oC 20 .lss 19 18]) (.seq (.cond (.s 20) .skip (.exit 0)) (.seq (.block 1 (.seq (rF [oM 21 19,oM 4 21]) (rF [oM
 22 0,o 23 (.nilchk (.s 22)),oG 24 3 23,oR 25 24,oM 26 4,oA 27 4 25 26,oM 28 1,o 29 (.call true (cf 76) [(.s 27),(.s 28)])]))) (rF [oD 30 .add 19 1,oM 19 30]))))))))⟩
def f77:F:=⟨22,true,[],(.seq (rF [oM 4 0,o 5 (.nilchk (.s 4)),oG 6 0 5,oR 7 6]) (.block 0 (.seq (rF [oD 9 .eql 7 3,oM 8 9]) (.cond
 (.s 8) (rF [oM 10 0,o 11 (.nilchk (.s 10)),oG 12 2 11,oR 13 12,o 14 (.iaddrA 32 1 (.s 1) (.s 13)),on (.store 1 (.s 14) (cb true))]) (.seq
 (rF [oD 16 .eql 7 2,oM 15 16]) (.cond (.s 15) (rF [oM 17 0,o 18 (.nilchk (.s 17)),oG 19 2 18,oR 20 19,o 21 (.iaddrA 32 1 (.s 2) (.s 20)),
 on (.store 1 (.s 21) (cb true))]) .skip))))))⟩
def f78:F:=⟨18,true,[.s 2],(.seq (rF [oQ 1 32 0,o 2 (.mv (.c zn))]) (.seq (rF [o 3 (.mv (.c zn))]) (.seq (.seq (rF [oK 6 32 1,oI 7 0])
 (.block 0 (.loop (.seq (rF [oD 8 .lss 7 32]) (.seq (.cond (.s 8) .skip (.exit 0)) (.seq (.block 1 (.seq (rF [oM 9 7,o 10 (.idxA false 32 1 (.s
 6) (.s 7)),oM 4 9,oM 5 10]) (.seq (rF [oM 11 5]) (.cond (.s 11) (rF [oM 12 3,oM 13 4,o 14 (.bslice 1 1 [zi] [(0,(.s 13))]),o 15 (.append
 1 8 (.s 12) (.s 14)),oM 3 15]) .skip)))) (rF [oD 16 .add 7 1,oM 7 16]))))))) (.seq (rF [oM 17 3,oM 2 17]) .ret))))⟩
def f79:F:=⟨56,false,[.s 2, .s 3],(.seq (rF [oQ 1 4 0,oI 2 0,oI 3 0]) (.seq (rF [oF 7 0 1,oK 8 4 7,o 4 (.allocL [zn,zn,zn,zn]),
 oP 4 4 8]) (.seq (.seq (rF [oF 9 0 4,oL 10 9,oN 11 10,oD 12 .gtr 11 32,oM 13 12,gF 13 false 14 1 4,gL 13 false 15 14,gN 13 false 16 15,
 gD 13 false 17 .gtr 16 6,oV 18 13 17,oM 19 18,gF 19 false 20 2 4,gL 19 false 21 20,gN 19 false 22 21,gD 19 false 23 .gtr 22 4,oV 24 19
 23,oM 25 24,gF 25 false 26 3 4,gL 25 false 27 26,gN 25 false 28 27,gD 25 false 29 .gtr 28 4,oV 30 25 29]) (.cond (.s 30) (.seq (rF [oI
 2 2,oI 3 (-1)]) .ret) .skip)) (.seq (.seq (rF [oF 31 3 4,oL 32 31,oN 33 32,oI 34 0]) (.block 0 (.loop (.seq (rF [oC 35 .lss 34 33]) (.seq
 (.cond (.s 35) .skip (.exit 0)) (.seq (.block 1 (.seq (rF [oM 36 34,oA 37 7 32 34,oS 38 7 37,o 6 (.allocL [ze,zi,zn,zn,zn,zn,zb]),oM
 5 36,oP 7 6 38]) (.seq (rF [oF 39 1 6,oL 40 39,oD 41 .gtr 40 48,oM 42 41,gF 42 false 43 4 6,gL 42 false 44 43,gN 42 false 45 44,gD 42
 false 46 .gtr 45 64,oV 47 42 46,oM 48 47,gF 48 false 49 5 6,gL 48 false 50 49,gN 48 false 51 50,gD 48 false 52 .gtr 51 8,oV 53 48 52])
 (.cond (.s 53) (.seq (rF [oM 54 5,oI 2 2,oM 3 54]) .ret) .skip)))) (rF [oD 55 .add 34 1,oM 34 55]))))))) (.seq (rF [oI 2 0,oI 3 (-1)]) .ret)))))⟩
def f80:F:=⟨62,false,[.s 2],(.seq (rF [oQ 1 4 0,oI 2 0]) (.seq (rF [o 6 (.mkmap),oM 3 6]) (.seq (.seq (rF [oF 7 0 1,oF 8 0 7,oL 9
 8,oN 10 9,oI 11 0]) (.block 0 (.loop (.seq (rF [oC 12 .lss 11 10]) (.seq (.cond (.s 12) .skip (.exit 0)) (.seq (.block 1 (.seq (rF [oA 13 6
 9 11,oS 14 6 13,o 5 (.allocL [ze,zi,zi,zi,zb,zi]),oP 6 5 14]) (.block 2 (.seq (.seq (rF [oF 16 0 5,oL 17 16,o 18 (.call false (cf 95)
 [(.s 17)]),oT 19 18,oM 15 19]) (.cond (.s 15) .skip (.seq (rF [oF 20 1 5,oL 21 20,oD 22 .lss 21 1,oM 15 22]) (.cond (.s 15) .skip (.seq
 (rF [oF 23 1 5,oL 24 23,oD 25 .gtr 24 8,oM 15 25]) (.cond (.s 15) .skip (rF [oF 26 2 5,oL 27 26,oF 28 1 5,oL 29 28,o 30 (.conv .u64 (.s
 29)),o 31 (.bin .shl (ci 1) (.s 30)),o 32 (.call false (cf 96) [(.s 27),(.s 31)]),oT 33 32,oM 15 33]))))))) (.cond (.s 15) (.seq (rF [oI
 2 1]) .ret) (.seq (.seq (rF [oF 35 3 5,oL 36 35,oD 37 .neq 36 (-1),oM 38 37,gF 38 true 39 3 5,gL 38 true 40 39,gF 38 true 41 0 1,gF 38
 true 42 3 41,gL 38 true 43 42,gN 38 true 44 43,og 38 true 45 (.call false (cf 96) [(.s 40),(.s 44)]),gT 38 true 46 45,oW 47 38 46,oM 34
 47]) (.cond (.s 34) .skip (rF [oF 48 5 5,oL 49 48,oF 50 0 1,oF 51 1 50,oL 52 51,oN 53 52,o 54 (.call false (cf 96) [(.s 49),(.s 53)]),
 oT 55 54,oM 34 55]))) (.cond (.s 34) (.seq (rF [oI 2 1]) .ret) (.seq (rF [oM 57 3,oF 58 0 5,oL 59 58,o 60 (.call true (cf 97) [(.s 57),(.s
 59)]),oM 56 60]) (.cond (.s 56) (.seq (rF [oI 2 41]) .ret) .skip))))))))) (rF [oD 61 .add 11 1,oM 11 61]))))))) (.seq (rF [oI 2 0]) .ret))))⟩
def f81:F:=⟨62,false,[.s 2],(.seq (rF [oQ 1 4 0,oI 2 0]) (.seq (rF [o 6 (.mkmap),oM 3 6]) (.seq (.seq (rF [oF 7 0 1,oF 8 1 7,oL 9
 8,oN 10 9,oI 11 0]) (.block 0 (.loop (.seq (rF [oC 12 .lss 11 10]) (.seq (.cond (.s 12) .skip (.exit 0)) (.seq (.block 1 (.seq (rF [oA 13 11
 9 11,oS 14 11 13,o 5 (.allocL [ze,ze,zi,zi,zi,zn,zi,zi,zi,zn,zn]),oP 11 5 14]) (.block 2 (.seq (.seq (rF [oF 16 0 5,oL 17 16,o
 18 (.call false (cf 95) [(.s 17)]),oT 19 18,oM 15 19]) (.cond (.s 15) .skip (rF [oF 20 1 5,oL 21 20,o 22 (.call false (cf 95) [(.s 21)]),
 oT 23 22,oM 15 23]))) (.cond (.s 15) (.seq (rF [oI 2 1]) .ret) (.seq (rF [oM 25 3,oF 26 0 5,oL 27 26,o 28 (.call true (cf 97) [(.s 25),(.s
 27)]),oM 24 28]) (.cond (.s 24) (.seq (rF [oI 2 41]) .ret) (.seq (.seq (rF [oF 30 2 5,oK 31 4 30,o 32 (.call false (cf 98) [(.s 31)]),oT
 33 32,oM 34 33,gK 34 true 35 4 1,gF 34 true 36 2 5,gK 34 true 37 4 36,gK 34 true 38 4 1,og 34 true 39 (.mkfn 100 [(.s 38)] []),og 34 true
 40 (.call false (cf 99) [(.s 35),(.s 37),(cb true),(.s 39)]),gT 34 true 41 40,oW 42 34 41,oM 29 42]) (.cond (.s 29) .skip (rF [oK 43 4
 1,oF 44 6 5,oK 45 4 44,oK 46 4 1,o 47 (.mkfn 100 [(.s 46)] []),o 48 (.call false (cf 99) [(.s 43),(.s 45),(cb true),(.s 47)]),oT 49
 48,oM 29 49]))) (.cond (.s 29) (.seq (rF [oI 2 60]) .ret) (.seq (.seq (rF [oF 51 10 5,oL 52 51,o 53 (.call false (cf 101) [(.s 52)]),oT 54
 53,oM 50 54]) (.cond (.s 50) .skip (rF [oF 55 10 5,oL 56 55,oK 57 4 1,o 58 (.mkfn 100 [(.s 57)] []),o 59 (.call false (cf 102) [(.s 56),
 (.s 58)]),oT 60 59,oM 50 60]))) (.cond (.s 50) (.seq (rF [oI 2 1]) .ret) .skip))))))))))) (rF [oD 61 .add 11 1,oM 11 61]))))))) (.seq (rF [oI 2 0]) .ret))))⟩
def f82:F:=⟨73,false,[.s 2],(.seq (rF [oQ 1 4 0,oI 2 0]) (.seq (rF [o 8 (.mkmap),oM 3 8]) (.seq (.seq (rF [oF 9 0 1,oF 10 2 9,oL 11
 10,oN 12 11,oI 13 0]) (.block 0 (.loop (.seq (rF [oC 14 .lss 13 12]) (.seq (.cond (.s 14) .skip (.exit 0)) (.seq (.block 1 (.seq (rF [oA 15
 6 11 13,oS 16 6 15,o 5 (.allocL [zi,zi,zi,zi,zn,zi]),oP 6 5 16]) (.seq (.seq (rF [oK 17 4 1,oF 18 0 5,oL 19 18,o 20 (.call false (cf
 100) [(.s 17),(.s 19)]),oT 21 20,oM 22 21,gF 22 false 23 0 1,gF 22 false 24 0 23,gL 22 false 25 24,gF 22 false 26 0 5,gL 22 false 27
 26,gI 22 false 28 6 25 27,gG 22 false 29 1 28,gR 22 false 30 29,gD 22 false 31 .neq 30 1,oV 32 22 31,oM 33 32,gF 33 false 34 0 1,gF 33
 false 35 0 34,gL 33 false 36 35,gF 33 false 37 0 5,gL 33 false 38 37,gI 33 false 39 6 36 38,gG 33 false 40 4 39,gR 33 false 41 40,oV 42
 33 41]) (.cond (.s 42) (.seq (rF [oI 2 1]) .ret) .skip)) (.seq (.seq (rF [oM 44 3,oF 45 0 5,oL 46 45,o 47 (.lookup 0 (.agg []) true (.s 44)
 (.s 46)),oM 43 47,oX 48 43 0,oX 49 43 1,o 6 (.allocL []),oP 0 6 48,oM 7 49]) (.seq (rF [oM 50 7,oM 51 50,gF 51 false 52 5 5,gL 51 false
 53 52,gF 51 false 54 0 1,gF 51 false 55 1 54,gL 51 false 56 55,gN 51 false 57 56,og 51 false 58 (.call false (cf 96) [(.s 53),(.s 57)]),
 gT 51 false 59 58,oV 60 51 59]) (.cond (.s 60) (.seq (rF [oI 2 1]) .ret) .skip))) (.seq (rF [oM 61 3,oF 62 0 5,oL 63 62,o 64 (.build [] []),
 on (.mapupd 0 (.s 61) (.s 63) (.s 64))]) (.seq (rF [oK 65 4 1,oF 66 1 5,oK 67 4 66,oK 68 4 1,o 69 (.mkfn 100 [(.s 68)] []),o 70 (.call false
 (cf 99) [(.s 65),(.s 67),(cb false),(.s 69)]),oT 71 70]) (.cond (.s 71) (.seq (rF [oI 2 60]) .ret) .skip))))))) (rF [oD 72 .add 13 1,oM
 13 72]))))))) (.seq (rF [oI 2 0]) .ret))))⟩
def f83:F:=⟨123,true,[.s 8, .s 9],(.seq (rF [o 4 (.boxH 4 (.s 0)),o 6 (.boxH 7 (.s 2)),oI 8 0,oI 9 0]) (.seq (.block 0 (.seq (rF [oG
 20 0 6,oR 21 20,o 22 (.call false (cf 95) [(.s 21)]),oT 23 22,oM 19 23]) (.cond (.s 19) (.seq (rF [oI 8 1,oI 9 (-1)]) .ret) (.seq (rF [oM
 25 3,oG 26 0 6,oR 27 26,o 28 (.call true (cf 97) [(.s 25),(.s 27)]),oM 24 28]) (.cond (.s 24) (.seq (rF [oI 8 41,oI 9 (-1)]) .ret) (.seq
 (.seq (rF [oG 30 1 6,oR 31 30,oD 32 .lss 31 1,oM 29 32]) (.cond (.s 29) .skip (.seq (rF [oG 33 2 6,oR 34 33,oN 35 34,oG 36 1 6,oR 37 36,
 oC 38 .neq 35 37,oM 29 38]) (.cond (.s 29) .skip (rF [oG 39 3 6,oR 40 39,oN 41 40,oG 42 1 6,oR 43 42,oC 44 .neq 41 43,oM 29 44]))))) (.cond
 (.s 29) (.seq (rF [oI 8 1,oI 9 (-1)]) .ret) (.seq (rF [oG 46 3 6,oR 47 46,o 48 (.mkfn 103 [] [(.s 4)]),o 49 (.call false (cf 102) [(.s 47),
 (.s 48)]),oT 50 49,oM 45 50]) (.cond (.s 45) (.seq (rF [oI 8 1,oI 9 (-1)]) .ret) .skip))))))))) (.seq (rF [oS 51 4 4,oM 52 1,o 53 (.call
 false (cf 104) [(.s 51),(.s 52)]),oM 10 53]) (.seq (.seq (rF [oG 54 2 6,oR 55 54,oN 56 55,oI 57 0]) (.block 1 (.loop (.seq (rF [oC 58 .lss
 57 56]) (.seq (.cond (.s 58) .skip (.exit 1)) (.seq (.block 2 (.seq (rF [oA 59 4 55 57,oS 60 4 59,o 12 (.allocL [zi,zi,zi,zn]),oP 4 12
 60]) (.seq (rF [oS 61 4 4,oK 62 4 12,oM 63 10,o 64 (.call false (cf 99) [(.s 61),(.s 62),(cb false),(.s 63)]),oT 65 64]) (.cond (.s 65)
 (.seq (rF [oI 8 60,oI 9 (-1)]) .ret) .skip)))) (rF [oD 66 .add 57 1,oM 57 66]))))))) (.seq (.seq (rF [oG 67 4 6,oR 68 67,oN 69 68,oI 70
 0]) (.block 3 (.loop (.seq (rF [oC 71 .lss 70 69]) (.seq (.cond (.s 71) .skip (.exit 3)) (.seq (.block 4 (.seq (rF [oM 72 70,oA 73 11 68 70,
 oS 74 11 73,o 14 (.allocL [zi,zi,zi,zi,zi,zi,zn,zn,zb,zi,zi]),oM 13 72,oP 11 14 74]) (.seq (rF [oS 75 4 4,oM 76 1,oS 77 7 6,oK
 78 11 14,o 79 (.call false (cf 105) [(.s 75),(.s 76),(.s 77),(.s 78)]),oM 15 79]) (.seq (rF [oM 80 15,oD 81 .neq 80 0]) (.cond (.s 81)
 (.seq (rF [oM 82 15,oM 83 13,oM 8 82,oM 9 83]) .ret) .skip))))) (rF [oD 84 .add 70 1,oM 70 84]))))))) (.seq (.seq (rF [oG 85 5 6,oR 86 85,
 oN 87 86,oI 88 0]) (.block 5 (.loop (.seq (rF [oC 89 .lss 88 87]) (.seq (.cond (.s 89) .skip (.exit 5)) (.seq (.block 6 (.seq (rF [oA 90 6 86
 88,oS 91 6 90,o 17 (.allocH [zi,zn,zi,zi,zi,zn]),oO 6 17 91]) (.seq (rF [o 92 (.mkfn 106 [] [(.s 6),(.s 17)]),oM 18 92]) (.block 7
 (.seq (.seq (rF [oG 94 0 17,oR 95 94,oG 96 1 6,oR 97 96,o 98 (.call false (cf 96) [(.s 95),(.s 97)]),oT 99 98,oM 93 99]) (.cond (.s 93)
 .skip (.seq (rF [oG 100 1 17,oR 101 100,o 102 (.call false (cf 101) [(.s 101)]),oT 103 102,oM 93 103]) (.cond (.s 93) .skip (rF [oG 104 1
 17,oR 105 104,oM 106 18,o 107 (.call false (cf 102) [(.s 105),(.s 106)]),oT 108 107,oM 93 108]))))) (.cond (.s 93) (.seq (rF [oI 8 1,oI
 9 (-1)]) .ret) (.seq (.seq (rF [oG 110 2 17,oS 111 4 110,oG 112 0 4,oG 113 0 112,oR 114 113,o 115 (.call false (cf 107) [(.s 111),(.s 114),
 (cb false)]),oT 116 115,oM 109 116]) (.cond (.s 109) .skip (rF [oG 117 2 17,oS 118 4 117,oM 119 10,o 120 (.call false (cf 108) [(.s 118),
 (.s 119)]),oT 121 120,oM 109 121]))) (.cond (.s 109) (.seq (rF [oI 8 60,oI 9 (-1)]) .ret) .skip)))))))) (rF [oD 122 .add 88 1,oM 88 122])))))))
 (.seq (rF [oI 8 0,oI 9 (-1)]) .ret)))))))⟩
def f91:F:=⟨27,false,[.s 4],(.seq (rF [oB 4 false]) (.seq (.seq (rF [oM 7 0,oN 8 7,oM 9 1,oN 10 9,oC 11 .neq 8 10]) (.cond (.s 11)
 (.seq (rF [oB 4 false]) .ret) .skip)) (.seq (.seq (rF [oM 12 1,oN 13 12,oI 14 0]) (.block 0 (.loop (.seq (rF [oC 15 .lss 14 13]) (.seq (.cond
 (.s 15) .skip (.exit 0)) (.seq (.block 1 (.seq (rF [oM 16 14,oA 17 1 12 14,oR 18 17,oM 5 16,oM 6 18]) (.seq (rF [oM 19 0,oM 20 5,oA 21
 4 19 20,oG 22 1 21,oR 23 22,oM 24 6,oC 25 .neq 23 24]) (.cond (.s 25) (.seq (rF [oB 4 false]) .ret) .skip)))) (rF [oD 26 .add 14 1,oM 14
 26]))))))) (.seq (rF [oB 4 true]) .ret))))⟩
def f95:F:=⟨28,false,[.s 2],(.seq (rF [oB 2 false]) (.seq (.seq (rF [oM 4 0,o 5 (.slen (.s 4)),oD 6 .lss 5 1,oM 7 6,gM 7 false 8 0,
 og 7 false 9 (.slen (.s 8)),gD 7 false 10 .gtr 9 64,oV 11 7 10]) (.cond (.s 11) (.seq (rF [oB 2 false]) .ret) .skip)) (.seq (.seq (rF [oM 12
 0,o 13 (.slen (.s 12)),oI 14 0]) (.block 0 (.loop (.seq (rF [oC 15 .lss 14 13]) (.seq (.cond (.s 15) .skip (.exit 0)) (.seq (.block 1 (.seq
 (rF [oM 16 14,oM 3 16]) (.seq (rF [oM 17 0,oM 18 3,o 19 (.idxS (.s 17) (.s 18)),o 20 (.bin .lss (.s 19) (.c (.t (.int .u8 33)))),oM 21 20,
 gM 21 false 22 0,gM 21 false 23 3,og 21 false 24 (.idxS (.s 22) (.s 23)),og 21 false 25 (.bin .gtr (.s 24) (.c (.t (.int .u8 126)))),oV 26
 21 25]) (.cond (.s 26) (.seq (rF [oB 2 false]) .ret) .skip)))) (rF [oD 27 .add 14 1,oM 14 27]))))))) (.seq (rF [oB 2 true]) .ret))))⟩
def f96:F:=⟨12,false,[.s 4],(.seq (rF [oB 4 false]) (.seq (rF [oM 5 0,oD 6 .geq 5 0,oM 7 6,gM 7 true 8 0,gM 7 true 9 1,gC 7 true
 10 .lss 8 9,oW 11 7 10,oM 4 11]) .ret))⟩
def f97:F:=⟨17,true,[.s 4],(.seq (rF [oB 4 false]) (.seq (rF [oM 8 0,oM 9 1,o 10 (.lookup 2 (.agg []) true (.s 8) (.s 9)),oM 7 10,
 oX 11 7 0,oX 12 7 1,o 5 (.allocL []),oP 0 5 11,oM 6 12]) (.seq (rF [oM 13 0,oM 14 1,o 15 (.build [] []),on (.mapupd 2 (.s 13) (.s 14)
 (.s 15))]) (.seq (rF [oM 16 6,oM 4 16]) .ret))))⟩
def f98:F:=⟨22,false,[.s 2],(.seq (rF [oQ 1 4 0,oB 2 false]) (.seq (rF [oF 3 0 1,oL 4 3,oD 5 .eql 4 0,oM 6 5,gF 6 true 7 1 1,gL
 6 true 8 7,gD 6 true 9 .eql 8 0,oW 10 6 9,oM 11 10,gF 11 true 12 2 1,gL 11 true 13 12,gD 11 true 14 .eql 13 0,oW 15 11 14,oM 16 15,gF
 16 true 17 3 1,gL 16 true 18 17,gN 16 true 19 18,gD 16 true 20 .eql 19 0,oW 21 16 20,oM 2 21]) .ret))⟩
def f99:F:=⟨25,false,[.s 8],(.seq (rF [oQ 4 4 0,oQ 5 4 1,oB 8 false]) (.seq (rF [oF 9 1 5,oL 10 9,oD 11 .eql 10 1,oM 12 11,gK 12
 true 13 4 5,gF 12 true 14 0 4,gF 12 true 15 0 14,gL 12 true 16 15,gM 12 true 17 2,og 12 true 18 (.call false (cf 107) [(.s 13),(.s 16),
 (.s 17)]),oW 19 12 18,oM 20 19,gK 20 true 21 4 5,gM 20 true 22 3,og 20 true 23 (.call false (cf 108) [(.s 21),(.s 22)]),oW 24 20 23,oM 8 24]) .ret))⟩
def f100:F:=⟨21,false,[.s 4],(.seq (rF [oQ 2 4 0,oB 4 false]) (.seq (rF [oM 5 1,oF 6 0 2,oF 7 0 6,oL 8 7,oN 9 8,o 10 (.call false
 (cf 96) [(.s 5),(.s 9)]),oM 11 10,gF 11 true 12 0 2,gF 11 true 13 0 12,gL 11 true 14 13,gM 11 true 15 1,gI 11 true 16 6 14 15,gG 11 true
 17 3 16,gR 11 true 18 17,gD 11 true 19 .eql 18 (-1),oW 20 11 19,oM 4 20]) .ret))⟩
def f101:F:=⟨20,false,[.s 2],(.seq (rF [oB 2 false]) (.seq (.seq (rF [oI 3 1]) (.block 0 (.loop (.seq (.seq (rF [oM 4 3,oM 5 0,oN 6
 5,oC 7 .lss 4 6]) (.cond (.s 7) .skip (.exit 0))) (.seq (.block 1 (.seq (rT [oM 10 0,oM 11 3,oA 12 1 10 11,oR 13 12,oM 14 0,oM 15 3,oD
 16 .sub 15 1,oA 17 1 14 16,oR 18 17,oC 19 .leq 13 18]) (.cond (.s 19) (.seq (rF [oB 2 false]) .ret) .skip))) (rF [oM 8 3,oD 9 .add 8 1,oM
 3 9])))))) (.seq (rF [oB 2 true]) .ret)))⟩
def f102:F:=⟨9,false,[.s 4],(.seq (rF [o 3 (.boxH 1 (.s 1)),oB 4 false]) (.seq (rF [oM 5 0,o 6 (.mkfn 132 [] [(.s 3)]),o 7 (.call false
 (cf 131) [(.s 5),(.s 6)]),oT 8 7,oM 4 8]) .ret))⟩
def f103:F:=⟨10,false,[.s 3],(.seq (rF [oB 3 false]) (.seq (rF [oM 4 0,oG 5 0 1,oG 6 1 5,oR 7 6,oN 8 7,o 9 (.call false (cf 96) [(.s 4),(.s 8)]),oM 3 9]) .ret))⟩
def f104:F:=⟨10,false,[.s 4],(.seq (rF [o 2 (.boxH 4 (.s 0)),o 4 (.mv (.c (.t .nilf)))]) (.seq (rF [oS 6 4 2,oM 7 1,o 8 (.call false
 (cf 133) [(.s 6),(.s 7)]),o 5 (.allocH [(.t .nilf)]),oO 1 5 8]) (.seq (rF [o 9 (.mkfn 134 [] [(.s 2),(.s 5)]),oM 4 9]) .ret)))⟩
def f105:F:=⟨141,false,[.s 8],(.seq (rF [oQ 4 4 0,oQ 6 7 2,oQ 7 11 3,oI 8 0]) (.seq (rF [oF 15 0 7,oL 16 15,oD 17 .eql 16 6,oM 18
 17,gF 18 false 19 0 7,gL 18 false 20 19,gD 18 false 21 .eql 20 7,oV 22 18 21,oM 9 22]) (.seq (.block 0 (.seq (.seq (rF [oF 24 0 7,oL 25
 24,oD 26 .lss 25 1,oM 23 26]) (.cond (.s 23) .skip (rF [oF 27 0 7,oL 28 27,oD 29 .gtr 28 7,oM 23 29]))) (.cond (.s 23) (.seq (rF [oI 8 70])
 .ret) (.seq (.seq (rF [oF 31 1 7,oL 32 31,oF 33 1 6,oL 34 33,oD 35 .sub 34 1,o 36 (.call false (cf 96) [(.s 32),(.s 35)]),oT 37 36,oM
 30 37]) (.cond (.s 30) .skip (.seq (rF [oF 38 2 7,oL 39 38,oF 40 1 6,oL 41 40,o 42 (.call false (cf 96) [(.s 39),(.s 41)]),oT 43 42,oM
 30 43]) (.cond (.s 30) .skip (rF [oF 44 10 7,oL 45 44,oF 46 0 4,oF 47 1 46,oL 48 47,oN 49 48,o 50 (.call false (cf 96) [(.s 45),(.s 49)]),
 oT 51 50,oM 30 51]))))) (.cond (.s 30) (.seq (rF [oI 8 70]) .ret) (.seq (.seq (rF [oF 53 8 7,oL 54 53,oM 55 54,gF 55 true 56 0 7,gL 55 true
 57 56,gD 55 true 58 .neq 57 3,oW 59 55 58,oM 52 59]) (.cond (.s 52) .skip (rF [oF 60 9 7,oL 61 60,oD 62 .neq 61 0,oM 63 62,gM 63 true
 64 9,gT 63 true 65 64,oW 66 63 65,oM 52 66]))) (.cond (.s 52) (.seq (rF [oI 8 70]) .ret) (.seq (.seq (rF [oF 68 3 7,oF 69 1 68,oL 70 69,
 oD 71 .neq 70 1,oM 67 71]) (.cond (.s 67) .skip (rF [oF 72 3 7,oK 73 4 72,oF 74 0 4,oF 75 0 74,oL 76 75,o 77 (.call false (cf 107) [(.s
 73),(.s 76),(cb false)]),oT 78 77,oM 67 78]))) (.cond (.s 67) (.seq (rF [oI 8 60]) .ret) .skip))))))))) (.seq (rF [o 79 (.mkmap),oM 10 79])
 (.seq (.seq (rF [oF 80 7 7,oL 81 80,oN 82 81,oI 83 0]) (.block 1 (.loop (.seq (rF [oC 84 .lss 83 82]) (.seq (.cond (.s 84) .skip (.exit 1))
 (.seq (.block 2 (.seq (rF [oA 85 5 81 83,oS 86 5 85,o 12 (.allocL [zi,zi,zi,zi,zn]),oP 5 12 86]) (.seq (.seq (rF [oM 88 10,oF 89 0 12,
 oL 90 89,o 91 (.lookup 0 (.agg []) true (.s 88) (.s 90)),oM 87 91,oX 92 87 0,oX 93 87 1,o 13 (.allocL []),oP 0 13 92,oM 14 93]) (.seq
 (rF [oM 94 14,oM 95 94,gF 95 false 96 0 12,gL 95 false 97 96,gF 95 false 98 0 4,gF 95 false 99 0 98,gL 95 false 100 99,gN 95 false 101
 100,og 95 false 102 (.call false (cf 96) [(.s 97),(.s 101)]),gT 95 false 103 102,oV 104 95 103]) (.cond (.s 104) (.seq (rF [oI 8 70]) .ret)
 .skip))) (.seq (rF [oM 105 10,oF 106 0 12,oL 107 106,o 108 (.build [] []),on (.mapupd 0 (.s 105) (.s 107) (.s 108))]) (.seq (rT [oF 109 1
 12,oF 110 1 109,oL 111 110,oF 112 0 4,oF 113 0 112,oL 114 113,oF 115 0 12,oL 116 115,oA 117 6 114 116,oG 118 1 117,oR 119 118,oC 120
 .neq 111 119,oM 121 120,gF 121 false 122 1 12,gK 121 false 123 4 122,gF 121 false 124 0 4,gF 121 false 125 0 124,gL 121 false 126 125,
 og 121 false 127 (.call false (cf 107) [(.s 123),(.s 126),(cb false)]),gT 121 false 128 127,oV 129 121 128]) (.cond (.s 129) (.seq (rF [oI
 8 60]) .ret) .skip)))))) (rF [oD 130 .add 83 1,oM 83 130]))))))) (.seq (.seq (rT [o 131 (.call false (cf 135) []),oF 132 0 7,oL 133 132,o
 134 (.idxA true 8 1 (.s 131) (.s 133)),o 135 (.field false 0 1 (.s 134)),oK 136 4 4,oM 137 1,oK 138 11 7,o 139 (.call false (.s 135) [(.s
 136),(.s 137),(.s 138)]),oT 140 139]) (.cond (.s 140) (.seq (rF [oI 8 70]) .ret) .skip)) (.seq (rF [oI 8 0]) .ret)))))))⟩
def f106:F:=⟨15,false,[.s 4],(.seq (rF [oB 4 false]) (.seq (rF [oM 5 0,oG 6 1 1,oR 7 6,o 8 (.call false (cf 96) [(.s 5),(.s 7)]),
 oM 9 8,gM 9 true 10 0,gG 9 true 11 0 2,gR 9 true 12 11,gC 9 true 13 .neq 10 12,oW 14 9 13,oM 4 14]) .ret))⟩
def f107:F:=⟨14,false,[.s 6],(.seq (rF [o 3 (.boxH 4 (.s 0)),o 4 (.boxH 1 (.s 1)),o 5 (.boxH 1 (.s 2)),oB 6 false]) (.seq (.seq (rF
 [oS 8 4 3,o 9 (.call false (cf 51) [(.s 8)]),oT 10 9]) (.cond (.s 10) (.seq (rF [oB 6 false]) .ret) .skip)) (.seq (rF [o 7 (.allocH [zb]),
 on (.store 1 (.s 7) (cb true))]) (.seq (rF [o 11 (.mkfn 136 [] [(.s 4),(.s 5),(.s 7)]),o 12 (.call true (cf 76) [(.s 3),(.s 11)])]) (.seq (rF [oR 13 7,oM 6 13]) .ret)))))⟩
def f108:F:=⟨20,false,[.s 4],(.seq (rF [oQ 2 4 0,oB 4 false]) (.seq (rF [oK 8 4 2,o 9 (.call true (cf 60) [(.s 8)]),oM 7 9,oX 10 7
 0,oX 11 7 1,oM 5 10,oM 6 11]) (.seq (rF [oM 12 5,oM 13 1,o 14 (.call false (cf 102) [(.s 12),(.s 13)]),oM 15 14,gM 15 true 16 6,gM 15
 true 17 1,og 15 true 18 (.call false (cf 102) [(.s 16),(.s 17)]),oW 19 15 18,oM 4 19]) .ret)))⟩
def f131:F:=⟨9,false,[.s 4],(.seq (rF [oB 4 false]) (.seq (rF [oM 5 0,oM 6 1,o 7 (.call false (cf 145) [(.s 5),(.s 6)]),oD 8 .geq 7 0,oM 4 8]) .ret))⟩
def f132:F:=⟨8,false,[.s 3],(.seq (rF [oB 3 false]) (.seq (rF [oR 4 1,oM 5 0,o 6 (.call false (.s 4) [(.s 5)]),oT 7 6,oM 3 7]) .ret))⟩
def f133:F:=⟨6,false,[.s 4],(.seq (rF [o 2 (.boxH 4 (.s 0)),o 3 (.boxH 1 (.s 1)),o 4 (.mv (.c (.t .nilf)))]) (.seq (rF [o 5 (.mkfn 146
 [] [(.s 2),(.s 3)]),oM 4 5]) .ret))⟩
def f134:F:=⟨13,false,[.s 4],(.seq (rF [oB 4 false]) (.seq (rF [oS 5 4 1,oM 6 0,o 7 (.call false (cf 100) [(.s 5),(.s 6)]),oM 8 7,
 gR 8 false 9 2,gM 8 false 10 0,og 8 false 11 (.call false (.s 9) [(.s 10)]),oV 12 8 11,oM 4 12]) .ret))⟩
def f135:F:=⟨9,false,[.l 0 true 8],(.seq (rF [o 0 (.allocL [(.t .nilf),(.t .nilf),(.t .nilf),(.t .nilf),(.t .nilf),(.t .nilf),(.t
 .nilf),(.t .nilf)])]) (.seq (rF [o 1 (.build [(.t .nilf)] [(0,1,(cf 147))]),o 2 (.build [(.t .nilf)] [(0,1,(cf 148))]),o 3 (.build [(.t
 .nilf)] [(0,1,(cf 149))]),o 4 (.build [(.t .nilf)] [(0,1,(cf 150))]),o 5 (.build [(.t .nilf)] [(0,1,(cf 151))]),o 6 (.build [(.t .nilf)]
 [(0,1,(cf 152))]),o 7 (.build [(.t .nilf)] [(0,1,(cf 153))]),o 8 (.build [(.t .nilf),(.t .nilf),(.t .nilf),(.t .nilf),(.t .nilf),(.t
 .nilf),(.t .nilf),(.t .nilf)] [(1,1,(.s 1)),(2,1,(.s 2)),(3,1,(.s 3)),(4,1,(.s 4)),(5,1,(.s 5)),(6,1,(.s 6)),(7,1,(.s 7))]),oP 8 0 8]) .ret))⟩
def f136:F:=⟨45,true,[],(.seq (rT [oM 5 0,o 6 (.nilchk (.s 5)),oG 7 0 6,oR 8 7,oD 9 .neq 8 1,oM 10 9,gM 10 true 11 0,og 10 true
 12 (.nilchk (.s 11)),gG 10 true 13 2 12,gR 10 true 14 13,gR 10 true 15 1,gN 10 true 16 15,gC 10 true 17 .geq 14 16,gM 10 true 18 17,gR
 18 false 19 1,gM 18 false 20 0,og 18 false 21 (.nilchk (.s 20)),gG 18 false 22 2 21,gR 18 false 23 22,gI 18 false 24 6 19 23,gG 18 false
 25 1 24,gR 18 false 26 25,gM 18 false 27 0,og 18 false 28 (.nilchk (.s 27)),gG 18 false 29 1 28,gR 18 false 30 29,gC 18 false 31 .neq 26
 30,og 10 true 32 (.pick (.s 18) (cb true) (.s 31)),gM 10 true 33 32,gM 33 false 34 0,og 33 false 35 (.nilchk (.s 34)),gG 33 false 36 0 35,
 gR 33 false 37 36,gD 33 false 38 .eql 37 3,gM 33 false 39 38,gR 39 true 40 2,gT 39 true 41 40,og 33 false 42 (.pick (.s 39) (.s 41) (cb
 false)),og 10 true 43 (.pick (.s 33) (cb true) (.s 42)),oW 44 10 43]) (.cond (.s 44) (rF [on (.store 1 (.s 3) (cb false))]) .skip))⟩
def f145:F:=⟨19,false,[.s 4],(.seq (rF [oI 4 0]) (.seq (.seq (rF [oM 6 0,oN 7 6,oI 8 0]) (.block 0 (.loop (.seq (rF [oC 9 .lss 8 7])
 (.seq (.cond (.s 9) .skip (.exit 0)) (.seq (.block 1 (.seq (rF [oM 10 8,oM 5 10]) (.seq (rF [oM 11 1,oM 12 0,oM 13 5,oA 14 1 12 13,oR 15
 14,o 16 (.call false (.s 11) [(.s 15)])]) (.cond (.s 16) (.seq (rF [oM 17 5,oM 4 17]) .ret) .skip)))) (rF [oD 18 .add 8 1,oM 8 18]))))))) (.seq (rF [oI 4 (-1)]) .ret)))⟩
def f146:F:=⟨22,false,[.s 4],(.seq (rF [oB 4 false]) (.seq (rT [oM 5 0,oG 6 0 1,oG 7 0 6,oR 8 7,oN 9 8,o 10 (.call false (cf 96)
 [(.s 5),(.s 9)]),oM 11 10,gG 11 true 12 0 1,gG 11 true 13 0 12,gR 11 true 14 13,gM 11 true 15 0,gI 11 true 16 6 14 15,gG 11 true 17 3
 16,gR 11 true 18 17,gR 11 true 19 2,gC 11 true 20 .eql 18 19,oW 21 11 20,oM 4 21]) .ret))⟩
def f147:F:=⟨20,false,[.s 6],(.seq (rF [oQ 3 4 0,oQ 5 11 2,oB 6 false]) (.seq (rF [oK 8 4 3,oM 9 1,o 10 (.call false (cf 133) [(.s
 8),(.s 9)]),oM 7 10]) (.seq (rF [oK 11 11 5,oM 12 7,o 13 (.call false (cf 161) [(.s 11),(.s 12)]),oM 14 13,gF 14 true 15 7 5,gL 14 true
 16 15,gM 14 true 17 7,og 14 true 18 (.call false (cf 162) [(.s 16),(.s 17)]),oW 19 14 18,oM 6 19]) .ret)))⟩
def f148:F:=⟨91,false,[.s 6],(.seq (rF [oQ 3 4 0,oQ 5 11 2,oB 6 false]) (.seq (rF [oK 12 4 3,oM 13 1,o 14 (.call false (cf 133) [(.s
 12),(.s 13)]),oM 7 14]) (.seq (.seq (rF [oF 15 7 5,oL 16 15,oN 17 16,oD 18 .eql 17 0,oM 19 18,gF 19 false 20 3 5,gK 19 false 21 4 20,
 gM 19 false 22 7,og 19 false 23 (.call false (cf 108) [(.s 21),(.s 22)]),gT 19 false 24 23,oV 25 19 24]) (.cond (.s 25) (.seq (rF [oB 6 false])
 .ret) .skip)) (.seq (rT [oF 26 7 5,oL 27 26,o 28 (.iaddrS 5 (.s 27) (ci 0)),oG 29 0 28,oR 30 29,oF 31 7 5,oL 32 31,o 33 (.iaddrS 5 (.s
 32) (ci 0)),oG 34 1 33,oS 35 4 34,o 9 (.allocL [zi,zi,zi,zn]),oM 8 30,oP 4 9 35]) (.seq (.seq (rF [oM 36 7,oM 37 8,o 38 (.call false
 (.s 36) [(.s 37)]),oT 39 38,oM 40 39,gK 40 false 41 4 3,gM 40 false 42 8,og 40 false 43 (.call false (cf 163) [(.s 41),(.s 42)]),oV 44
 40 43,oM 45 44,gF 45 false 46 0 9,gL 45 false 47 46,gD 45 false 48 .neq 47 2,oV 49 45 48,oM 50 49,gK 50 false 51 4 3,gF 50 false 52 2
 9,gL 50 false 53 52,og 50 false 54 (.call false (cf 100) [(.s 51),(.s 53)]),gT 50 false 55 54,oV 56 50 55,oM 57 56,gK 57 false 58 4 3,
 gF 57 false 59 2 9,gL 57 false 60 59,og 57 false 61 (.call false (cf 163) [(.s 58),(.s 60)]),oV 62 57 61]) (.cond (.s 62) (.seq (rF [oB 6
 false]) .ret) .skip)) (.seq (.seq (rF [oF 63 7 5,oL 64 63,o 65 (.slice 5 (.s 64) (some (ci 1)) none none),oN 66 65,oI 67 0]) (.block 0 (.loop
 (.seq (rF [oC 68 .lss 67 66]) (.seq (.cond (.s 68) .skip (.exit 0)) (.seq (.block 1 (.seq (rF [oA 69 5 65 67,oS 70 5 69,o 11 (.allocL [zi,
 zi,zi,zi,zn]),oP 5 11 70]) (.seq (rF [oM 71 7,oF 72 0 11,oL 73 72,o 74 (.call false (.s 71) [(.s 73)]),oT 75 74,oM 76 75,gK 76 false
 77 4 3,gF 76 false 78 0 11,gL 76 false 79 78,og 76 false 80 (.call false (cf 163) [(.s 77),(.s 79)]),gT 76 false 81 80,oV 82 76 81,oM
 83 82,gF 83 false 84 1 11,gK 83 false 85 4 84,gM 83 false 86 7,og 83 false 87 (.call false (cf 108) [(.s 85),(.s 86)]),gT 83 false 88 87,
 oV 89 83 88]) (.cond (.s 89) (.seq (rF [oB 6 false]) .ret) .skip)))) (rF [oD 90 .add 67 1,oM 67 90]))))))) (.seq (rF [oB 6 true]) .ret)))))))⟩
def f149:F:=⟨43,false,[.s 6],(.seq (rF [o 3 (.boxH 4 (.s 0)),oQ 5 11 2,oB 6 false]) (.seq (.seq (rT [oF 9 7 5,oL 10 9,oN 11 10,oD
 12 .eql 11 0,oM 13 12,gK 13 false 14 11 5,og 13 false 15 (.load true 4 (.s 3)),gM 13 false 16 1,og 13 false 17 (.call false (cf 133) [(.s
 15),(.s 16)]),og 13 false 18 (.call false (cf 161) [(.s 14),(.s 17)]),gT 13 false 19 18,oV 20 13 19]) (.cond (.s 20) (.seq (rF [oB 6 false])
 .ret) .skip)) (.seq (.seq (rF [oF 21 7 5,oL 22 21,o 23 (.iaddrS 5 (.s 22) (ci 0)),oG 24 0 23,oR 25 24,oM 7 25]) (.seq (rF [oS 26 4 3,oM
 27 7,o 28 (.call false (cf 100) [(.s 26),(.s 27)]),oT 29 28,oM 30 29,og 30 false 31 (.load true 4 (.s 3)),gM 30 false 32 7,og 30 false
 33 (.call false (cf 163) [(.s 31),(.s 32)]),oV 34 30 33]) (.cond (.s 34) (.seq (rF [oB 6 false]) .ret) .skip))) (.seq (rF [oS 35 4 3,oM 36
 1,o 37 (.call false (cf 104) [(.s 35),(.s 36)]),o 8 (.allocH [(.t .nilf)]),oO 1 8 37]) (.seq (rF [oF 38 7 5,oL 39 38,o 40 (.slice 5 (.s
 39) (some (ci 1)) none none),o 41 (.mkfn 164 [] [(.s 3),(.s 8)]),o 42 (.call false (cf 162) [(.s 40),(.s 41)]),oM 6 42]) .ret)))))⟩
def f150:F:=⟨20,false,[.s 6],(.seq (rF [oQ 3 4 0,oQ 5 11 2,oB 6 false]) (.seq (rF [oK 8 4 3,oM 9 1,o 10 (.call false (cf 104) [(.s
 8),(.s 9)]),oM 7 10]) (.seq (rF [oK 11 11 5,oM 12 7,o 13 (.call false (cf 161) [(.s 11),(.s 12)]),oM 14 13,gF 14 true 15 7 5,gL 14 true
 16 15,gM 14 true 17 7,og 14 true 18 (.call false (cf 162) [(.s 16),(.s 17)]),oW 19 14 18,oM 6 19]) .ret)))⟩
def f151:F:=⟨9,false,[.s 6],(.seq (rF [oQ 3 4 0,oQ 5 11 2,oB 6 false]) (.seq (rF [oK 7 11 5,o 8 (.call false (cf 165) [(.s 7)]),oM 6 8]) .ret))⟩
def f152:F:=⟨21,false,[.s 6],(.seq (rF [oQ 3 4 0,oQ 5 11 2,oB 6 false]) (.seq (rF [oK 7 4 3,oM 8 1,oK 9 11 5,o 10 (.call false (cf
 153) [(.s 7),(.s 8),(.s 9)]),oM 11 10,gF 11 true 12 0 3,gF 11 true 13 3 12,gL 11 true 14 13,gF 11 true 15 9 5,gL 11 true 16 15,gI 11
 true 17 7 14 16,gG 11 true 18 6 17,gR 11 true 19 18,oW 20 11 19,oM 6 20]) .ret))⟩
def f153:F:=⟨24,false,[.s 6],(.seq (rF [oQ 3 4 0,oQ 5 11 2,oB 6 false]) (.seq (rF [oK 7 11 5,o 8 (.call false (cf 165) [(.s 7)]),oM
 9 8,gF 9 true 10 9 5,gL 9 true 11 10,gM 9 true 12 1,gC 9 true 13 .neq 11 12,oW 14 9 13,oM 15 14,gF 15 true 16 9 5,gL 15 true 17 16,gF
 15 true 18 0 3,gF 15 true 19 3 18,gL 15 true 20 19,gN 15 true 21 20,og 15 true 22 (.call false (cf 96) [(.s 17),(.s 21)]),oW 23 15 22,oM 6 23]) .ret))⟩
def f157:F:=⟨2,false,[.l 0 true 4],(.seq (rF [o 0 (.allocL [zi,zi,zi,zn])]) (.seq (rF [o 1 (.call false (cf 61) [(ci 1),(ci 1)]),oP 4 0 1]) .ret))⟩
def f161:F:=⟨25,false,[.s 4],(.seq (rF [oQ 2 11 0,oB 4 false]) (.seq (.seq (rF [oF 7 3 2,oK 8 4 7,oM 9 1,o 10 (.call false (cf 108)
 [(.s 8),(.s 9)]),oT 11 10]) (.cond (.s 11) (.seq (rF [oB 4 false]) .ret) .skip)) (.seq (.seq (rF [oF 12 7 2,oL 13 12,oN 14 13,oI 15 0])
 (.block 0 (.loop (.seq (rF [oC 16 .lss 15 14]) (.seq (.cond (.s 16) .skip (.exit 0)) (.seq (.block 1 (.seq (rF [oA 17 5 13 15,oS 18 5 17,o
 6 (.allocL [zi,zi,zi,zi,zn]),oP 5 6 18]) (.seq (rF [oF 19 1 6,oK 20 4 19,oM 21 1,o 22 (.call false (cf 108) [(.s 20),(.s 21)]),oT 23
 22]) (.cond (.s 23) (.seq (rF [oB 4 false]) .ret) .skip)))) (rF [oD 24 .add 15 1,oM 15 24]))))))) (.seq (rF [oB 4 true]) .ret))))⟩
def f162:F:=⟨19,false,[.s 4],(.seq (rF [oB 4 false]) (.seq (.seq (rF [oM 7 0,oN 8 7,oI 9 0]) (.block 0 (.loop (.seq (rF [oC 10 .lss
 9 8]) (.seq (.cond (.s 10) .skip (.exit 0)) (.seq (.block 1 (.seq (rF [oA 11 5 7 9,oS 12 5 11,o 6 (.allocL [zi,zi,zi,zi,zn]),oP 5 6 12])
 (.seq (rF [oM 13 1,oF 14 0 6,oL 15 14,o 16 (.call false (.s 13) [(.s 15)]),oT 17 16]) (.cond (.s 17) (.seq (rF [oB 4 false]) .ret) .skip))))
 (rF [oD 18 .add 9 1,oM 9 18]))))))) (.seq (rF [oB 4 true]) .ret)))⟩
def f163:F:=⟨12,false,[.s 4],(.seq (rF [oQ 2 4 0,oB 4 false]) (.seq (rF [oF 5 0 2,oF 6 0 5,oL 7 6,oM 8 1,oA 9 6 7 8,oG 10 4 9,oR 11 10,oM 4 11]) .ret))⟩
def f164:F:=⟨13,false,[.s 4],(.seq (rF [oB 4 false]) (.seq (rF [oS 5 4 1,oM 6 0,o 7 (.call false (cf 163) [(.s 5),(.s 6)]),oM 8 7,
 gR 8 true 9 2,gM 8 true 10 0,og 8 true 11 (.call false (.s 9) [(.s 10)]),oW 12 8 11,oM 4 12]) .ret))⟩
def f165:F:=⟨12,false,[.s 2],(.seq (rF [oQ 1 11 0,oB 2 false]) (.seq (rF [oF 3 3 1,oK 4 4 3,o 5 (.call false (cf 166) [(.s 4)]),oM
 6 5,gF 6 true 7 7 1,gL 6 true 8 7,gN 6 true 9 8,gD 6 true 10 .eql 9 0,oW 11 6 10,oM 2 11]) .ret))⟩
def f166:F:=⟨22,false,[.s 2],(.seq (rF [oQ 1 4 0,oB 2 false]) (.seq (rF [oF 3 0 1,oL 4 3,oD 5 .eql 4 1,oM 6 5,gF 6 true 7 1 1,gL
 6 true 8 7,gD 6 true 9 .eql 8 1,oW 10 6 9,oM 11 10,gF 11 true 12 2 1,gL 11 true 13 12,gD 11 true 14 .eql 13 1,oW 15 11 14,oM 16 15,gF
 16 true 17 3 1,gL 16 true 18 17,gN 16 true 19 18,gD 16 true 20 .eql 19 0,oW 21 16 20,oM 2 21]) .ret))⟩
def f206:F:=⟨9,false,[.s 4],(.seq (rF [oB 4 false]) (.seq (rF [oM 5 0,oM 6 1,o 7 (.call false (cf 207) [(.s 5),(.s 6)]),oD 8 .geq 7 0,oM 4 8]) .ret))⟩
def f207:F:=⟨19,false,[.s 4],(.seq (rF [oI 4 0]) (.seq (.seq (rF [oM 6 0,oN 7 6,oI 8 0]) (.block 0 (.loop (.seq (rF [oC 9 .lss 8 7])
 (.seq (.cond (.s 9) .skip (.exit 0)) (.seq (.block 1 (.seq (rF [oM 10 8,oM 5 10]) (.seq (rF [oM 11 1,oM 12 0,oM 13 5,oA 14 1 12 13,oR 15
 14,oC 16 .eql 11 15]) (.cond (.s 16) (.seq (rF [oM 17 5,oM 4 17]) .ret) .skip)))) (rF [oD 18 .add 8 1,oM 8 18]))))))) (.seq (rF [oI 4 (-1)]) .ret)))⟩
def f217:F:=⟨92,false,[.s 4],(.seq (rF [oQ 2 4 0,oB 4 false]) (.seq (.seq (rF [oF 9 0 2,oL 10 9,oN 11 10,oD 12 .gtr 11 40,oM 13 12,
 gF 13 false 14 1 2,gL 13 false 15 14,gN 13 false 16 15,gD 13 false 17 .gtr 16 10,oV 18 13 17,oM 19 18,gF 19 false 20 2 2,gL 19 false 21
 20,gN 19 false 22 21,gD 19 false 23 .gtr 22 10,oV 24 19 23,oM 25 24,gF 25 false 26 3 2,gL 25 false 27 26,gN 25 false 28 27,gD 25 false
 29 .gtr 28 8,oV 30 25 29]) (.cond (.s 30) (.seq (rF [oB 4 false]) .ret) .skip)) (.seq (.seq (rF [oI 5 0]) (.block 0 (.loop (.seq (.seq (rF [oM
 31 5,oF 32 1 2,oL 33 32,oN 34 33,oC 35 .lss 31 34]) (.cond (.s 35) .skip (.exit 0))) (.seq (.block 1 (.seq (rF [oF 38 1 2,oL 39 38,oM 40
 5,oA 41 11 39 40,oS 42 11 41,o 6 (.allocL [ze,ze,zi,zi,zi,zn,zi,zi,zi,zn,zn]),oP 11 6 42]) (.seq (rF [oF 43 2 6,oK 44 4 43,oM
 45 1,o 46 (.call false (cf 23) [(.s 44),(.s 45)]),oT 47 46,oM 48 47,gF 48 false 49 6 6,gK 48 false 50 4 49,gM 48 false 51 1,og 48 false
 52 (.call false (cf 23) [(.s 50),(.s 51)]),gT 48 false 53 52,oV 54 48 53,oM 55 54,gF 55 false 56 10 6,gL 55 false 57 56,gN 55 false 58
 57,gD 55 false 59 .gtr 58 60,oV 60 55 59]) (.cond (.s 60) (.seq (rF [oB 4 false]) .ret) .skip)))) (rF [oM 36 5,oD 37 .add 36 1,oM 5 37]))))))
 (.seq (.seq (rF [oI 7 0]) (.block 2 (.loop (.seq (.seq (rF [oM 61 7,oF 62 2 2,oL 63 62,oN 64 63,oC 65 .lss 61 64]) (.cond (.s 65) .skip (.exit
 2))) (.seq (.block 3 (.seq (rF [oF 68 2 2,oL 69 68,oM 70 7,oA 71 6 69 70,oG 72 1 71,oS 73 4 72,oM 74 1,o 75 (.call false (cf 23) [(.s
 73),(.s 74)]),oT 76 75]) (.cond (.s 76) (.seq (rF [oB 4 false]) .ret) .skip))) (rF [oM 66 7,oD 67 .add 66 1,oM 7 67])))))) (.seq (.seq (rF
 [oI 8 0]) (.block 4 (.loop (.seq (.seq (rF [oM 77 8,oF 78 3 2,oL 79 78,oN 80 79,oC 81 .lss 77 80]) (.cond (.s 81) .skip (.exit 4))) (.seq
 (.block 5 (.seq (rF [oF 84 3 2,oL 85 84,oM 86 8,oA 87 7 85 86,oS 88 7 87,oM 89 1,o 90 (.call false (cf 239) [(.s 88),(.s 89)]),oT 91
 90]) (.cond (.s 91) (.seq (rF [oB 4 false]) .ret) .skip))) (rF [oM 82 8,oD 83 .add 82 1,oM 8 83])))))) (.seq (rF [oB 4 true]) .ret))))))⟩
def f228:F:=⟨5,false,[.s 2],(.seq (rF [oQ 1 4 0,o 2 (.mv (.c zn))]) (.seq (rF [oK 3 4 1,o 4 (.call false (cf 253) [(.s 3),(ci (-1))]),oM 2 4]) .ret))⟩
def f239:F:=⟨122,false,[.s 4],(.seq (rF [oQ 2 7 0,oB 4 false]) (.seq (.seq (rF [oF 9 2 2,oL 10 9,oN 11 10,oD 12 .gtr 11 60,oM 13
 12,gF 13 false 14 3 2,gL 13 false 15 14,gN 13 false 16 15,gD 13 false 17 .gtr 16 60,oV 18 13 17,oM 19 18,gF 19 false 20 4 2,gL 19 false
 21 20,gN 19 false 22 21,gD 19 false 23 .gtr 22 80,oV 24 19 23,oM 25 24,gF 25 false 26 5 2,gL 25 false 27 26,gN 25 false 28 27,gD 25 false
 29 .gtr 28 12,oV 30 25 29]) (.cond (.s 30) (.seq (rF [oB 4 false]) .ret) .skip)) (.seq (.seq (rF [oI 5 0]) (.block 0 (.loop (.seq (.seq (rF
 [oM 31 5,oF 32 2 2,oL 33 32,oN 34 33,oC 35 .lss 31 34]) (.cond (.s 35) .skip (.exit 0))) (.seq (.block 1 (.seq (rF [oF 38 2 2,oL 39 38,
 oM 40 5,oA 41 4 39 40,oS 42 4 41,oM 43 1,o 44 (.call false (cf 23) [(.s 42),(.s 43)]),oT 45 44]) (.cond (.s 45) (.seq (rF [oB 4 false])
 .ret) .skip))) (rF [oM 36 5,oD 37 .add 36 1,oM 5 37])))))) (.seq (.seq (rF [oI 6 0]) (.block 2 (.loop (.seq (.seq (rF [oM 46 6,oF 47 4 2,
 oL 48 47,oN 49 48,oC 50 .lss 46 49]) (.cond (.s 50) .skip (.exit 2))) (.seq (.block 3 (.seq (.seq (rF [oF 53 4 2,oL 54 53,oM 55 6,oA 56
 11 54 55,oG 57 7 56,oR 58 57,oN 59 58,oD 60 .gtr 59 40,oM 61 60,gF 61 false 62 4 2,gL 61 false 63 62,gM 61 false 64 6,gI 61 false 65
 11 63 64,gG 61 false 66 3 65,og 61 false 67 (.load true 4 (.s 66)),gM 61 false 68 1,og 61 false 69 (.call false (cf 23) [(.s 67),(.s 68)]),
 gT 61 false 70 69,oV 71 61 70]) (.cond (.s 71) (.seq (rF [oB 4 false]) .ret) .skip)) (.seq (rF [oI 7 0]) (.block 4 (.loop (.seq (.seq (rF [oM
 72 7,oF 73 4 2,oL 74 73,oM 75 6,oA 76 11 74 75,oG 77 7 76,oR 78 77,oN 79 78,oC 80 .lss 72 79]) (.cond (.s 80) .skip (.exit 4))) (.seq
 (.block 5 (.seq (rF [oF 83 4 2,oL 84 83,oM 85 6,oA 86 11 84 85,oG 87 7 86,oR 88 87,oM 89 7,oA 90 5 88 89,oG 91 1 90,oS 92 4 91,oM 93
 1,o 94 (.call false (cf 23) [(.s 92),(.s 93)]),oT 95 94]) (.cond (.s 95) (.seq (rF [oB 4 false]) .ret) .skip))) (rF [oM 81 7,oD 82 .add 81
 1,oM 7 82])))))))) (rF [oM 51 6,oD 52 .add 51 1,oM 6 52])))))) (.seq (.seq (rF [oI 8 0]) (.block 6 (.loop (.seq (.seq (rF [oM 96 8,oF 97
 5 2,oL 98 97,oN 99 98,oC 100 .lss 96 99]) (.cond (.s 100) .skip (.exit 6))) (.seq (.block 7 (.seq (rF [oF 103 5 2,oL 104 103,oM 105 8,oA
 106 6 104 105,oG 107 1 106,oR 108 107,oN 109 108,oD 110 .gtr 109 60,oM 111 110,gF 111 false 112 5 2,gL 111 false 113 112,gM 111 false
 114 8,gI 111 false 115 6 113 114,gG 111 false 116 2 115,og 111 false 117 (.load true 4 (.s 116)),gM 111 false 118 1,og 111 false 119 (.call
 false (cf 23) [(.s 117),(.s 118)]),gT 111 false 120 119,oV 121 111 120]) (.cond (.s 121) (.seq (rF [oB 4 false]) .ret) .skip))) (rF [oM 101
 8,oD 102 .add 101 1,oM 8 102])))))) (.seq (rF [oB 4 true]) .ret))))))⟩
def f253:F:=⟨26,false,[.s 4],(.seq (rF [oQ 2 4 0,o 4 (.mv (.c zn))]) (.seq (rF [o 5 (.mv (.c zn))]) (.seq (.seq (rF [oF 8 0 2,oL 9 8,
 oN 10 9,oI 11 0]) (.block 0 (.loop (.seq (rF [oC 12 .lss 11 10]) (.seq (.cond (.s 12) .skip (.exit 0)) (.seq (.block 1 (.seq (rF [oM 13 11,
 oA 14 6 9 11,oS 15 6 14,o 7 (.allocL [ze,zi,zi,zi,zb,zi]),oM 6 13,oP 6 7 15]) (.seq (rF [oF 16 3 7,oL 17 16,oM 18 1,oC 19 .eql 17
 18]) (.cond (.s 19) (rF [oM 20 5,oM 21 6,o 22 (.bslice 1 1 [zi] [(0,(.s 21))]),o 23 (.append 1 8 (.s 20) (.s 22)),oM 5 23]) .skip)))) (rF
 [oD 24 .add 11 1,oM 11 24]))))))) (.seq (rF [oM 25 5,oM 4 25]) .ret))))⟩
def f285:F:=⟨98,false,[.s 8],(.seq (rF [oQ 4 4 0,oB 8 false]) (.seq (rF [o 18 (.call false (cf 286) []),oM 9 18]) (.seq (rF [oK 20 4
 4,o 21 (.call false (cf 64) [(.s 20)]),oM 19 21,oX 22 19 0,oX 23 19 1,oX 24 19 2,oM 10 22,oM 11 23,oM 12 24]) (.seq (.seq (rF [oK 25
 4 4,o 26 (.call false (cf 287) [(.s 25)]),oT 27 26,oM 28 27,gM 28 false 29 10,gD 28 false 30 .neq 29 0,oV 31 28 30,oM 32 31,gF 32 false
 33 3 4,gL 32 false 34 33,gN 32 false 35 34,gD 32 false 36 .eql 35 0,oV 37 32 36]) (.cond (.s 37) (.seq (rF [oM 38 9,oM 8 38]) .ret) .skip))
 (.seq (rT [oK 39 4 4,oM 40 1,o 41 (.conv .i64 (.s 40)),oF 42 3 4,oL 43 42,oN 44 43,oC 45 .rem 41 44,oM 46 2,o 47 (.conv .i64 (.s 46)),
 oF 48 3 4,oL 49 48,oN 50 49,oC 51 .rem 47 50,o 52 (.call false (cf 294) [(.s 39),(.s 45),(.s 51)]),o 13 (.allocL [zn,zn,zn,zn]),oP
 4 13 52]) (.seq (rF [oK 54 4 4,oM 55 3,o 56 (.call false (cf 288) [(.s 54),(.s 55)]),oM 53 56,oX 57 53 0,oX 58 53 1,oM 14 57,oM 15 58])
 (.seq (rF [oK 60 4 13,oM 61 3,o 62 (.call false (cf 288) [(.s 60),(.s 61)]),oM 59 62,oX 63 59 0,oX 64 59 1,oM 16 63,oM 17 64]) (.seq
 (rT [oM 65 9,oM 66 65,gM 66 true 67 15,gM 66 true 68 17,og 66 true 69 (.eqb false (.s 67) (.s 68)),oW 70 66 69,oM 71 70,gM 71 true 72
 14,gN 71 true 73 72,gM 71 true 74 16,gN 71 true 75 74,gC 71 true 76 .eql 73 75,oW 77 71 76,oM 78 77,gK 78 true 79 4 4,gM 78 true 80 3,
 og 78 true 81 (.call false (cf 291) [(.s 79),(.s 80)]),gN 78 true 82 81,gK 78 true 83 4 13,gM 78 true 84 3,og 78 true 85 (.call false (cf
 291) [(.s 83),(.s 84)]),gN 78 true 86 85,gC 78 true 87 .eql 82 86,oW 88 78 87,oM 89 88,gK 89 true 90 4 4,gM 89 true 91 3,og 89 true 92
 (.call false (cf 289) [(.s 90),(.s 91)]),gK 89 true 93 4 13,gM 89 true 94 3,og 89 true 95 (.call false (cf 289) [(.s 93),(.s 94)]),og 89
 true 96 (.eqb false (.s 92) (.s 95)),oW 97 89 96,oM 8 97]) .ret))))))))⟩
def f286:F:=⟨103,false,[.s 0],(.seq (rF [oB 0 false]) (.seq (rF [o 12 (.call false (cf 296) [(ci 0),(ci 0),(ci 0)]),o 13 (.call false
 (cf 297) [(ci 0),(ci 1),(ci 1)]),o 14 (.bslice 11 2 [zi,zi,zi,zi,zi,zi,zn,zn,zb,zi,zi] [(0,(.s 12)),(1,(.s 13))]),o 15 (.call
 false (cf 296) [(ci 1),(ci 1),(ci 0)]),o 16 (.call false (cf 297) [(ci 1),(ci 0),(ci 1)]),o 17 (.bslice 11 2 [zi,zi,zi,zi,zi,zi,zn,
 zn,zb,zi,zi] [(0,(.s 15)),(1,(.s 16))]),o 18 (.call true (cf 295) [(.s 14),(.s 17)]),o 1 (.allocL [zn,zn,zn,zn]),oP 4 1 18]) (.seq
 (rF [oK 20 4 1,o 21 (.call false (cf 288) [(.s 20),(ci 1)]),oM 19 21,oX 22 19 0,oX 23 19 1,oM 2 22,oM 3 23]) (.seq (rF [oK 24 4 1,o 25
 (.call false (cf 291) [(.s 24),(ci 1)]),oM 4 25]) (.seq (rF [o 26 (.call false (cf 157) []),o 27 (.build [zi,zi,zi,zi,zi,zi,zn,zn,
 zb,zi,zi] [(0,1,(ci 5)),(1,1,(ci 1)),(2,1,(ci 2)),(3,4,(.s 26))]),o 5 (.allocL [zi,zi,zi,zi,zi,zi,zn,zn,zb,zi,zi]),oP
 11 5 27]) (.seq (rT [o 28 (.call false (cf 296) [(ci 0),(ci 0),(ci 0)]),oK 29 11 5,o 30 (.call false (cf 297) [(ci 0),(ci 1),(ci 2)]),
 o 31 (.bslice 11 3 [zi,zi,zi,zi,zi,zi,zn,zn,zb,zi,zi] [(0,(.s 28)),(1,(.s 29)),(2,(.s 30))]),o 32 (.call false (cf 296) [(ci
 1),(ci 1),(ci 0)]),oK 33 11 5,o 34 (.call false (cf 297) [(ci 1),(ci 0),(ci 2)]),o 35 (.bslice 11 3 [zi,zi,zi,zi,zi,zi,zn,zn,zb,
 zi,zi] [(0,(.s 32)),(1,(.s 33)),(2,(.s 34))]),o 36 (.call true (cf 295) [(.s 31),(.s 35)]),o 6 (.allocL [zn,zn,zn,zn]),oP 4 6 36])
 (.seq (rF [o 37 (.call false (cf 296) [(ci 0),(ci 0),(ci 0)]),o 38 (.call false (cf 296) [(ci 0),(ci 1),(ci 1)]),o 39 (.bslice 11 2 [zi,
 zi,zi,zi,zi,zi,zn,zn,zb,zi,zi] [(0,(.s 37)),(1,(.s 38))]),o 40 (.call false (cf 297) [(ci 1),(ci 1),(ci 0)]),o 41 (.call false
 (cf 297) [(ci 1),(ci 0),(ci 1)]),o 42 (.bslice 11 2 [zi,zi,zi,zi,zi,zi,zn,zn,zb,zi,zi] [(0,(.s 40)),(1,(.s 41))]),o 43 (.call
 true (cf 295) [(.s 39),(.s 42)]),o 7 (.allocL [zn,zn,zn,zn]),oP 4 7 43]) (.seq (rF [oK 45 4 7,o 46 (.call false (cf 288) [(.s 45),(ci
 2)]),oM 44 46,oX 47 44 0,oX 48 44 1,oM 8 47,oM 9 48]) (.seq (rF [o 49 (.build [zi,zi,zi,zb] [(0,1,(ci 0)),(1,1,(ci 0)),(2,1,(ci
 0)),(3,1,(cb true))]),o 50 (.build [zi,zi,zi,zb] [(0,1,(ci 0)),(1,1,(ci 1)),(2,1,(ci 1))]),o 51 (.build [zi,zi,zi,zb] [(0,
 1,(ci 1)),(1,1,(ci 0)),(2,1,(ci 1)),(3,1,(cb true))]),o 52 (.build [zi,zi,zi,zb] [(0,1,(ci 1)),(1,1,(ci 1)),(2,1,(ci 0))]),
 o 53 (.bslice 4 4 [zi,zi,zi,zb] [(0,(.s 49)),(1,(.s 50)),(2,(.s 51)),(3,(.s 52))]),oM 10 53]) (.seq (rF [o 54 (.build [zi,zi,zi,
 zb] [(0,1,(ci 0)),(1,1,(ci 0)),(2,1,(ci 0)),(3,1,(cb true))]),o 55 (.build [zi,zi,zi,zb] [(0,1,(ci 0)),(1,1,(ci 1)),(2,
 1,(ci 1)),(3,1,(cb true))]),o 56 (.build [zi,zi,zi,zb] [(0,1,(ci 1)),(1,1,(ci 0)),(2,1,(ci 1))]),o 57 (.build [zi,zi,zi,zb]
 [(0,1,(ci 1)),(1,1,(ci 1)),(2,1,(ci 0))]),o 58 (.bslice 4 4 [zi,zi,zi,zb] [(0,(.s 54)),(1,(.s 55)),(2,(.s 56)),(3,(.s 57))]),
 oM 11 58]) (.seq (rF [oM 59 3,oM 60 59,gM 60 true 61 2,gM 60 true 62 10,og 60 true 63 (.call false (cf 298) [(.s 61),(.s 62)]),oW 64 60
 63,oM 65 64,gM 65 true 66 4,gN 65 true 67 66,gD 65 true 68 .eql 67 2,oW 69 65 68,oM 70 69,gK 70 true 71 4 1,og 70 true 72 (.call false
 (cf 293) [(.s 71)]),gN 70 true 73 72,gD 70 true 74 .eql 73 4,oW 75 70 74,oM 76 75,gK 76 true 77 4 1,og 76 true 78 (.call false (cf 289)
 [(.s 77),(ci 0)]),oW 79 76 78,oM 80 79,gK 80 true 81 4 6,og 80 true 82 (.call false (cf 289) [(.s 81),(ci 2)]),oW 83 80 82,oM 84 83,
 gK 84 true 85 4 7,og 84 true 86 (.call false (cf 289) [(.s 85),(ci 1)]),oW 87 84 86,oM 88 87,gM 88 true 89 9,oW 90 88 89,oM 91 90,gM
 91 true 92 8,gM 91 true 93 11,og 91 true 94 (.call false (cf 298) [(.s 92),(.s 93)]),oW 95 91 94,oM 96 95,og 96 true 97 (.build [ze,zi,
 zi,zi,zb,zi] []),og 96 true 98 (.bslice 6 1 [ze,zi,zi,zi,zb,zi] [(0,(.s 97))]),og 96 true 99 (.build [zn,zn,zn,zn] [(0,1,(.s
 98))]),og 96 true 100 (.call false (cf 289) [(.s 99),(ci 0)]),gT 96 true 101 100,oW 102 96 101,oM 0 102]) .ret)))))))))))⟩
def f287:F:=⟨26,false,[.s 2],(.seq (rF [oQ 1 4 0,oB 2 false]) (.seq (.seq (rF [oK 5 4 1,o 6 (.call false (cf 217) [(.s 5),(ci 40)]),
 oT 7 6]) (.cond (.s 7) (.seq (rF [oB 2 false]) .ret) .skip)) (.seq (rF [oI 3 0]) (.seq (.seq (rF [oI 4 0]) (.block 0 (.loop (.seq (.seq (rF [oM
 8 4,oF 9 3 1,oL 10 9,oN 11 10,oC 12 .lss 8 11]) (.cond (.s 12) .skip (.exit 0))) (.seq (.block 1 (rF [oM 15 3,oF 16 3 1,oL 17 16,oM 18
 4,oA 19 7 17 18,oG 20 4 19,oR 21 20,oN 22 21,oC 23 .add 15 22,oM 3 23])) (rF [oM 13 4,oD 14 .add 13 1,oM 4 14])))))) (.seq (rF [oM 24
 3,oD 25 .leq 24 36,oM 2 25]) .ret)))))⟩
def f288:F:=⟨27,false,[.s 4, .s 5],(.seq (rF [oQ 2 4 0,o 4 (.mv (.c zn)),oB 5 false]) (.seq (.seq (rF [oK 9 4 2,o 10 (.call false (cf
 299) [(.s 9)]),oT 11 10]) (.cond (.s 11) (.seq (rF [o 4 (.mv (.c zn)),oB 5 false]) .ret) .skip)) (.seq (rF [oK 12 4 2,oM 13 1,o 14 (.call
 true (cf 300) [(.s 12),(.s 13)]),oM 6 14]) (.seq (rF [oM 16 6,o 17 (.call true (cf 301) [(.s 16)]),oM 15 17,oX 18 15 0,oX 19 15 1,oM 7
 18,oM 8 19]) (.seq (.seq (rF [oM 20 8,oT 21 20]) (.cond (.s 21) (.seq (rF [o 4 (.mv (.c zn)),oB 5 false]) .ret) .skip)) (.seq (rF [oM 22 6,
 oM 23 7,o 24 (.call true (cf 302) [(.s 22),(.s 23)]),oX 25 24 0,oX 26 24 1,oM 4 25,oM 5 26]) .ret))))))⟩
def f289:F:=⟨19,false,[.s 4],(.seq (rF [oQ 2 4 0,oB 4 false]) (.seq (.seq (rF [oK 7 4 2,o 8 (.call false (cf 299) [(.s 7)]),oT 9 8])
 (.cond (.s 9) (.seq (rF [oB 4 false]) .ret) .skip)) (.seq (rF [oK 11 4 2,oM 12 1,o 13 (.call true (cf 300) [(.s 11),(.s 12)]),o 14 (.call
 true (cf 301) [(.s 13)]),oM 10 14,oX 15 10 0,oX 16 10 1,oM 5 15,oM 6 16]) (.seq (rF [oM 17 6,oT 18 17,oM 4 18]) .ret))))⟩
def f291:F:=⟨56,false,[.s 4],(.seq (rF [oQ 2 4 0,o 4 (.mv (.c zn))]) (.seq (.seq (rF [oK 9 4 2,o 10 (.call false (cf 299) [(.s 9)]),
 oT 11 10]) (.cond (.s 11) (.seq (rF [o 4 (.mv (.c zn))]) .ret) .skip)) (.seq (rF [oK 12 4 2,oM 13 1,o 14 (.call true (cf 300) [(.s 12),(.s
 13)]),oM 5 14]) (.seq (rF [o 6 (.mv (.c zn))]) (.seq (.seq (rF [oM 15 5,o 16 (.nilchk (.s 15)),oG 17 5 16,oR 18 17,oN 19 18,oI 20 0]) (.block
 0 (.loop (.seq (rF [oC 21 .lss 20 19]) (.seq (.cond (.s 21) .skip (.exit 0)) (.seq (.block 1 (.seq (rF [oM 22 20,oM 7 22]) (.seq (rF [oM 23
 5,o 24 (.nilchk (.s 23)),oG 25 5 24,oR 26 25,oN 27 26,oI 28 0]) (.block 2 (.loop (.seq (rF [oC 29 .lss 28 27]) (.seq (.cond (.s 29) .skip
 (.exit 2)) (.seq (.block 3 (.seq (rF [oM 30 28,oM 8 30]) (.seq (rF [oM 31 5,oM 32 7,oM 33 8,o 34 (.call false (cf 306) [(.s 31),(.s 32),
 (.s 33)])]) (.cond (.s 34) (rT [oM 35 6,oM 36 5,o 37 (.nilchk (.s 36)),oG 38 5 37,oR 39 38,oM 40 7,oA 41 4 39 40,oS 42 4 41,oM 43 5,
 o 44 (.nilchk (.s 43)),oG 45 5 44,oR 46 45,oM 47 8,oA 48 4 46 47,oS 49 4 48,o 50 (.build [zi,zi,zi,zb,zi,zi,zi,zb] [(0,4,(.s 42)),
 (4,4,(.s 49))]),o 51 (.bslice 8 1 [zi,zi,zi,zb,zi,zi,zi,zb] [(0,(.s 50))]),o 52 (.append 8 64 (.s 35) (.s 51)),oM 6 52]) .skip))))
 (rF [oD 53 .add 28 1,oM 28 53]))))))))) (rF [oD 54 .add 20 1,oM 20 54]))))))) (.seq (rF [oM 55 6,oM 4 55]) .ret))))))⟩
def f293:F:=⟨8,false,[.s 2],(.seq (rF [oQ 1 4 0,o 2 (.mv (.c zn))]) (.seq (.seq (rF [oK 3 4 1,o 4 (.call false (cf 299) [(.s 3)]),oT
 5 4]) (.cond (.s 5) (.seq (rF [o 2 (.mv (.c zn))]) .ret) .skip)) (.seq (rF [oK 6 4 1,o 7 (.call false (cf 307) [(.s 6)]),oM 2 7]) .ret)))⟩
def f294:F:=⟨116,false,[.l 6 true 4],(.seq (rF [oQ 3 4 0,o 6 (.allocL [zn,zn,zn,zn])]) (.seq (rF [oK 12 4 3,o 7 (.allocL [zn,zn,
 zn,zn]),oP 4 7 12]) (.seq (rF [o 13 (.bslice 6 0 [ze,zi,zi,zi,zb,zi] []),oF 14 0 3,oL 15 14,o 16 (.append 6 56 (.s 13) (.s 15)),oF
 17 0 7,oP 1 17 16]) (.seq (rF [o 18 (.bslice 7 0 [ze,zi,zn,zn,zn,zn,zb] []),oF 19 3 3,oL 20 19,o 21 (.append 7 128 (.s 18) (.s 20)),
 oF 22 3 7,oP 1 22 21]) (.seq (rT [oF 23 3 7,oL 24 23,oM 25 1,oF 26 3 3,oL 27 26,oM 28 2,oA 29 7 27 28,oS 30 7 29,oA 31 7 24 25,oO 7
 31 30]) (.seq (rT [oF 32 3 7,oL 33 32,oM 34 2,oF 35 3 3,oL 36 35,oM 37 1,oA 38 7 36 37,oS 39 7 38,oA 40 7 33 34,oO 7 40 39]) (.seq (.seq
 (rF [oI 8 0]) (.block 0 (.loop (.seq (.seq (rF [oM 41 8,oF 42 0 3,oL 43 42,oN 44 43,oC 45 .lss 41 44]) (.cond (.s 45) .skip (.exit 0))) (.seq
 (.block 1 (rT [oF 48 0 7,oL 49 48,oM 50 8,oF 51 0 3,oL 52 51,oM 53 8,oA 54 6 52 53,oG 55 3 54,oR 56 55,oM 57 1,oM 58 2,o 59 (.call
 false (cf 308) [(.s 56),(.s 57),(.s 58)]),oA 60 6 49 50,oG 61 3 60,oO 1 61 59])) (rF [oM 46 8,oD 47 .add 46 1,oM 8 47])))))) (.seq (.seq
 (rF [oI 9 0]) (.block 2 (.loop (.seq (.seq (rF [oM 62 9,oF 63 3 7,oL 64 63,oN 65 64,oC 66 .lss 62 65]) (.cond (.s 66) .skip (.exit 2))) (.seq
 (.block 3 (.seq (rF [o 69 (.bslice 11 0 [zi,zi,zi,zi,zi,zi,zn,zn,zb,zi,zi] []),oF 70 3 7,oL 71 70,oM 72 9,oA 73 7 71 72,oG 74
 4 73,oR 75 74,o 76 (.append 11 120 (.s 69) (.s 75)),oM 10 76]) (.seq (.seq (rF [oI 11 0]) (.block 4 (.loop (.seq (.seq (rF [oM 77 11,oM 78
 10,oN 79 78,oC 80 .lss 77 79]) (.cond (.s 80) .skip (.exit 4))) (.seq (.block 5 (.seq (rF [oM 83 10,oM 84 11,oA 85 11 83 84,oG 86 0 85,
 oR 87 86,oD 88 .eql 87 6,oM 89 88,gM 89 false 90 10,gM 89 false 91 11,gI 89 false 92 11 90 91,gG 89 false 93 0 92,gR 89 false 94 93,gD
 89 false 95 .eql 94 7,oV 96 89 95]) (.cond (.s 96) (rF [oM 97 10,oM 98 11,oM 99 10,oM 100 11,oA 101 11 99 100,oG 102 9 101,oR 103 102,
 oM 104 1,oM 105 2,o 106 (.call false (cf 308) [(.s 103),(.s 104),(.s 105)]),oA 107 11 97 98,oG 108 9 107,oO 1 108 106]) .skip))) (rF [oM
 81 11,oD 82 .add 81 1,oM 11 82])))))) (rF [oF 109 3 7,oL 110 109,oM 111 9,oM 112 10,oA 113 7 110 111,oG 114 4 113,oO 1 114 112])))) (rF
 [oM 67 9,oD 68 .add 67 1,oM 9 68])))))) (.seq (rF [oK 115 4 7,oP 4 6 115]) .ret)))))))))⟩
def f295:F:=⟨72,true,[.l 4 true 4],(.seq (rF [o 4 (.allocL [zn,zn,zn,zn])]) (.seq (rF [o 11 (.call false (cf 157) []),o 12 (.bslice
 1 2 [zi] [(0,(ci 0)),(1,(ci 1))]),o 13 (.build [ze,ze,zi,zi,zi,zn,zi,zi,zi,zn,zn] [(0,1,(.c (.t (.str (bs [77]))))),(1,1,(.c
 (.t (.str (bs [65]))))),(6,4,(.s 11)),(10,1,(.s 12))]),o 14 (.bslice 11 1 [ze,ze,zi,zi,zi,zn,zi,zi,zi,zn,zn] [(0,(.s 13))]),
 o 15 (.build [zn,zn,zn,zn] [(1,1,(.s 14))]),o 5 (.allocL [zn,zn,zn,zn]),oP 4 5 15]) (.seq (rF [o 16 (.build [ze,zi,zi,zi,zb,zi]
 [(0,1,(.c (.t (.str (bs [120]))))),(1,1,(ci 1)),(3,1,(ci (-1)))]),o 17 (.build [ze,zi,zi,zi,zb,zi] [(0,1,(.c (.t (.str (bs [121]))))),
 (1,1,(ci 1)),(3,1,(ci (-1)))]),o 18 (.build [ze,zi,zi,zi,zb,zi] [(0,1,(.c (.t (.str (bs [114]))))),(1,1,(ci 1)),(3,1,(ci 0))]),
 o 19 (.build [ze,zi,zi,zi,zb,zi] [(0,1,(.c (.t (.str (bs [115]))))),(1,1,(ci 1)),(3,1,(ci 1))]),o 20 (.bslice 6 4 [ze,zi,zi,
 zi,zb,zi] [(0,(.s 16)),(1,(.s 17)),(2,(.s 18)),(3,(.s 19))]),oF 21 0 5,oP 1 21 20]) (.seq (rF [oM 22 0,oM 23 1,o 24 (.bslice 1 2
 [zn] [(0,(.s 22)),(1,(.s 23))]),oM 6 24]) (.seq (rF [o 25 (.bslice 1 2 [ze] [(0,(.c (.t (.str (bs [97]))))),(1,(.c (.t (.str (bs [98])))))]),
 oM 7 25]) (.seq (.seq (rF [oI 8 0]) (.block 0 (.loop (.seq (.seq (rF [oM 26 8,oD 27 .lss 26 2]) (.cond (.s 27) .skip (.exit 0))) (.seq (.block
 1 (.seq (rT [oM 30 7,oM 31 8,oA 32 1 30 31,oR 33 32,oM 34 6,oM 35 8,oA 36 1 34 35,oR 37 36,oN 38 37,oD 39 .add 38 1,oM 40 6,oM 41
 8,oA 42 1 40 41,oR 43 42,o 44 (.build [ze,zi,zn,zn,zn,zn,zb] [(0,1,(.s 33)),(1,1,(.s 39)),(4,1,(.s 43))]),o 9 (.allocL [ze,
 zi,zn,zn,zn,zn,zb]),oP 7 9 44]) (.seq (.seq (rF [oI 10 0]) (.block 2 (.loop (.seq (.seq (rF [oM 45 10,oM 46 6,oM 47 8,oA 48 1 46 47,
 oR 49 48,oN 50 49,oC 51 .leq 45 50]) (.cond (.s 51) .skip (.exit 2))) (.seq (.block 3 (.seq (rT [oF 54 2 9,oL 55 54,o 56 (.call false (cf
 157) []),o 57 (.bslice 4 1 [zi,zi,zi,zn] [(0,(.s 56))]),o 58 (.append 4 48 (.s 55) (.s 57)),oF 59 2 9,oP 1 59 58]) (rF [oF 60 3 9,oL
 61 60,o 62 (.bslice 1 1 [zi] [(0,(ci 0))]),o 63 (.append 1 8 (.s 61) (.s 62)),oF 64 3 9,oP 1 64 63]))) (rF [oM 52 10,oD 53 .add 52 1,oM
 10 53])))))) (rF [oF 65 3 5,oL 66 65,oK 67 7 9,o 68 (.bslice 7 1 [ze,zi,zn,zn,zn,zn,zb] [(0,(.s 67))]),o 69 (.append 7 128 (.s 66)
 (.s 68)),oF 70 3 5,oP 1 70 69])))) (rF [oM 28 8,oD 29 .add 28 1,oM 8 29])))))) (.seq (rF [oK 71 4 5,oP 4 4 71]) .ret)))))))⟩
def f296:F:=⟨18,false,[.l 6 true 11],(.seq (rF [o 6 (.allocL [zi,zi,zi,zi,zi,zi,zn,zn,zb,zi,zi])]) (.seq (rF [oM 7 2,oM 8 2,
 oD 9 .add 8 1,o 10 (.call false (cf 157) []),oM 11 1,oM 12 0,o 13 (.bin .add (ci 2) (.s 12)),o 14 (.call false (cf 62) [(.s 13),(ci 1)]),
 o 15 (.build [zi,zi,zi,zi,zn] [(0,1,(.s 11)),(1,4,(.s 14))]),o 16 (.bslice 5 1 [zi,zi,zi,zi,zn] [(0,(.s 15))]),o 17 (.build [zi,
 zi,zi,zi,zi,zi,zn,zn,zb,zi,zi] [(0,1,(ci 3)),(1,1,(.s 7)),(2,1,(.s 9)),(3,4,(.s 10)),(7,1,(.s 16))]),oP 11 6 17]) .ret))⟩
def f297:F:=⟨18,false,[.l 6 true 11],(.seq (rF [o 6 (.allocL [zi,zi,zi,zi,zi,zi,zn,zn,zb,zi,zi])]) (.seq (rF [oM 7 2,oM 8 2,
 oD 9 .add 8 1,o 10 (.call false (cf 157) []),oM 11 0,o 12 (.bin .add (ci 2) (.s 11)),oM 13 1,o 14 (.call false (cf 62) [(.s 13),(ci 1)]),
 o 15 (.build [zi,zi,zi,zi,zn] [(0,1,(.s 12)),(1,4,(.s 14))]),o 16 (.bslice 5 1 [zi,zi,zi,zi,zn] [(0,(.s 15))]),o 17 (.build [zi,
 zi,zi,zi,zi,zi,zn,zn,zb,zi,zi] [(0,1,(ci 2)),(1,1,(.s 7)),(2,1,(.s 9)),(3,4,(.s 10)),(7,1,(.s 16))]),oP 11 6 17]) .ret))⟩
def f298:F:=⟨26,false,[.s 4],(.seq (rF [oB 4 false]) (.seq (.seq (rF [oM 6 0,oN 7 6,oM 8 1,oN 9 8,oC 10 .neq 7 9]) (.cond (.s 10)
 (.seq (rF [oB 4 false]) .ret) .skip)) (.seq (.seq (rF [oI 5 0]) (.block 0 (.loop (.seq (.seq (rF [oM 11 5,oM 12 0,oN 13 12,oC 14 .lss 11 13])
 (.cond (.s 14) .skip (.exit 0))) (.seq (.block 1 (.seq (rT [oM 17 0,oM 18 5,oA 19 4 17 18,oS 20 4 19,oM 21 1,oM 22 5,oA 23 4 21 22,oS
 24 4 23,o 25 (.eqa true [0,0,0,1] (.s 20) (.s 24))]) (.cond (.s 25) (.seq (rF [oB 4 false]) .ret) .skip))) (rF [oM 15 5,oD 16 .add 15 1,
 oM 5 16])))))) (.seq (rF [oB 4 true]) .ret))))⟩
def f299:F:=⟨14,false,[.s 2],(.seq (rF [oQ 1 4 0,oB 2 false]) (.seq (rF [oK 7 4 1,o 8 (.call false (cf 64) [(.s 7)]),oM 6 8,oX 9 6
 0,oX 10 6 1,oX 11 6 2,oM 3 9,oM 4 10,oM 5 11]) (.seq (rF [oM 12 3,oD 13 .eql 12 0,oM 2 13]) .ret)))⟩
def f300:F:=⟨114,true,[.s 4],(.seq (rF [oQ 2 4 0,o 4 (.mv (.c (.t .nilp)))]) (.seq (rT [oK 11 4 2,oM 12 1,oK 13 4 2,o 14 (.call false
 (cf 307) [(.s 13)]),o 15 (.mkmap),o 16 (.build [zn,zn,zn,zn,zi,zn,zn,zn,(.t (.int .u64 0)),(.t (.int .u64 0)),(.t (.int .u64 0)),
 (.t (.int .u64 0)),(.t (.int .u64 0)),(.t (.int .u64 0)),(.t (.int .u64 0)),(.t (.int .u64 0)),(.t (.int .u64 0)),(.t (.int .u64 0)),(.t
 (.int .u64 0)),(.t (.int .u64 0)),(.t (.int .u64 0)),(.t (.int .u64 0)),(.t (.int .u64 0)),(.t (.int .u64 0)),(.t (.int .u64 0)),(.t (.int
 .u64 0)),(.t (.int .u64 0)),(.t (.int .u64 0)),(.t (.int .u64 0)),(.t (.int .u64 0)),(.t (.int .u64 0)),(.t (.int .u64 0)),(.t (.int .u64
 0)),(.t (.int .u64 0)),(.t (.int .u64 0)),(.t (.int .u64 0)),(.t (.int .u64 0)),(.t (.int .u64 0)),(.t (.int .u64 0)),(.t (.int .u64 0)),
 (.t (.int .u64 0)),(.t (.int .u64 0)),(.t (.int .u64 0)),(.t (.int .u64 0)),(.t (.int .u64 0)),(.t (.int .u64 0)),(.t (.int .u64 0)),(.t
 (.int .u64 0)),(.t (.int .u64 0)),(.t (.int .u64 0)),(.t (.int .u64 0)),(.t (.int .u64 0)),(.t (.int .u64 0)),(.t (.int .u64 0)),(.t (.int
 .u64 0)),(.t (.int .u64 0)),(.t (.int .u64 0)),(.t (.int .u64 0)),(.t (.int .u64 0)),(.t (.int .u64 0)),(.t (.int .u64 0)),(.t (.int .u64
 0)),(.t (.int .u64 0)),(.t (.int .u64 0)),(.t (.int .u64 0)),(.t (.int .u64 0)),(.t (.int .u64 0)),(.t (.int .u64 0)),(.t (.int .u64 0)),
 (.t (.int .u64 0)),(.t (.int .u64 0)),(.t (.int .u64 0)),(.t (.int .u64 0)),(.t (.int .u64 0)),(.t (.int .u64 0)),(.t (.int .u64 0)),(.t
 (.int .u64 0)),(.t (.int .u64 0)),(.t (.int .u64 0)),(.t (.int .u64 0)),(.t (.int .u64 0)),(.t (.int .u64 0)),(.t (.int .u64 0)),(.t (.int
 .u64 0)),(.t (.int .u64 0)),(.t (.int .u64 0)),(.t (.int .u64 0)),(.t (.int .u64 0)),(.t (.int .u64 0)),(.t (.int .u64 0)),(.t (.int .u64
 0)),(.t (.int .u64 0)),(.t (.int .u64 0)),(.t (.int .u64 0)),(.t (.int .u64 0)),(.t (.int .u64 0)),(.t (.int .u64 0)),(.t (.int .u64 0)),
 (.t (.int .u64 0)),(.t (.int .u64 0)),(.t (.int .u64 0)),(.t (.int .u64 0)),(.t (.int .u64 0)),(.t (.int .u64 0)),(.t (.int .u64 0)),(.t
 (.int .u64 0)),(.t (.int .u64 0)),(.t (.int .u64 0)),(.t (.int .u64 0)),(.t (.int .u64 0)),(.t (.int .u64 0)),(.t (.int .u64 0)),(.t (.int
 .u64 0)),(.t (.int .u64 0)),(.t (.int .u64 0)),(.t (.int .u64 0)),(.t (.int .u64 0)),(.t (.int .u64 0)),(.t (.int .u64 0)),(.t (.int .u64
 0)),(.t (.int .u64 0)),(.t (.int .u64 0)),(.t (.int .u64 0)),(.t (.int .u64 0)),(.t (.int .u64 0)),(.t (.int .u64 0)),(.t (.int .u64 0)),
 (.t (.int .u64 0)),(.t (.int .u64 0)),(.t (.int .u64 0)),(.t (.int .u64 0)),(.t (.int .u64 0)),(.t (.int .u64 0)),(.t (.int .u64 0)),(.t
 (.int .u64 0)),(.t (.int .u64 0)),(.t (.int .u64 0)),(.t (.int .u64 0)),(.t (.int .u64 0)),(.t (.int .u64 0)),(.t (.int .u64 0)),(.t (.int
 .u64 0)),(.t (.int .u64 0)),(.t (.int .u64 0)),(.t (.int .u64 0)),(.t (.int .u64 0)),(.t (.int .u64 0)),(.t (.int .u64 0)),(.t (.int .u64
 0)),(.t (.int .u64 0)),(.t (.int .u64 0)),(.t (.int .u64 0)),(.t (.int .u64 0)),(.t (.int .u64 0)),(.t (.int .u64 0)),(.t (.int .u64 0)),
 (.t (.int .u64 0)),(.t (.int .u64 0)),(.t (.int .u64 0)),(.t (.int .u64 0)),(.t (.int .u64 0)),(.t (.int .u64 0)),(.t (.int .u64 0)),(.t
 (.int .u64 0)),(.t (.int .u64 0)),(.t (.int .u64 0)),(.t (.int .u64 0)),(.t (.int .u64 0)),(.t (.int .u64 0)),(.t (.int .u64 0)),(.t (.int
 .u64 0)),(.t (.int .u64 0)),(.t (.int .u64 0)),(.t (.int .u64 0)),(.t (.int .u64 0)),(.t (.int .u64 0)),(.t (.int .u64 0)),(.t (.int .u64
 0)),(.t (.int .u64 0)),(.t (.int .u64 0)),(.t (.int .u64 0)),(.t (.int .u64 0)),(.t (.int .u64 0)),(.t (.int .u64 0)),(.t (.int .u64 0)),
 (.t (.int .u64 0)),(.t (.int .u64 0)),(.t (.int .u64 0)),(.t (.int .u64 0)),(.t (.int .u64 0)),(.t (.int .u64 0)),(.t (.int .u64 0)),(.t
 (.int .u64 0)),(.t (.int .u64 0)),(.t (.int .u64 0)),(.t (.int .u64 0)),(.t (.int .u64 0)),(.t (.int .u64 0)),(.t (.int .u64 0)),(.t (.int
 .u64 0)),(.t (.int .u64 0)),(.t (.int .u64 0)),(.t (.int .u64 0)),(.t (.int .u64 0)),(.t (.int .u64 0)),(.t (.int .u64 0)),(.t (.int .u64
 0)),(.t (.int .u64 0)),(.t (.int .u64 0)),(.t (.int .u64 0)),(.t (.int .u64 0)),(.t (.int .u64 0)),(.t (.int .u64 0)),(.t (.int .u64 0)),
 (.t (.int .u64 0)),(.t (.int .u64 0)),(.t (.int .u64 0)),(.t (.int .u64 0)),(.t (.int .u64 0)),(.t (.int .u64 0)),(.t (.int .u64 0)),(.t
 (.int .u64 0)),(.t (.int .u64 0)),(.t (.int .u64 0)),(.t (.int .u64 0)),(.t (.int .u64 0)),(.t (.int .u64 0)),(.t (.int .u64 0)),(.t (.int
 .u64 0)),(.t (.int .u64 0)),(.t (.int .u64 0)),(.t (.int .u64 0)),(.t (.int .u64 0)),(.t (.int .u64 0)),(.t (.int .u64 0)),(.t (.int .u64
 0)),(.t (.int .u64 0)),(.t (.int .u64 0)),(.t (.int .u64 0)),(.t (.int .u64 0)),(.t (.int .u64 0)),(.t (.int .u64 0)),(.t (.int .u64 0)),
 (.t (.int .u64 0)),(.t (.int .u64 0)),(.t (.int .u64 0)),(.t (.int .u64 0)),(.t (.int .u64 0)),(.t (.int .u64 0)),(.t (.int .u64 0)),(.t
 (.int .u64 0)),(.t (.int .u64 0)),(.t (.int .u64 0)),(.t (.int .u64 0)),(.t (.int .u64 0)),(.t (.int .u64 0)),(.t (.int .u64 0)),(.t (.int
 .u64 0)),(.t (.int .u64 0)),(.t (.int .u64 0)),(.t (.int .u64 0)),(.t (.int .u64 0)),(.t (.int .u64 0)),(.t (.int .u64 0)),(.t (.int .u64
 0)),(.t (.int .u64 0)),(.t (.int .u64 0)),(.t (.int .u64 0)),(.t (.int .u64 0)),(.t (.int .u64 0)),(.t (.int .u64 0)),(.t (.int .u64 0)),
 (.t (.int .u64 0)),(.t (.int .u64 0)),(.t (.int .u64 0)),(.t (.int .u64 0)),(.t (.int .u64 0)),(.t (.int .u64 0)),(.t (.int .u64 0)),(.t
 (.int .u64 0)),(.t (.int .u64 0)),(.t (.int .u64 0)),(.t (.int .u64 0)),(.t (.int .u64 0)),(.t (.int .u64 0)),(.t (.int .u64 0)),(.t (.int
 .u64 0)),(.t (.int .u64 0)),(.t (.int .u64 0)),(.t (.int .u64 0)),(.t (.int .u64 0)),(.t (.int .u64 0)),(.t (.int .u64 0)),(.t (.int .u64
 0)),(.t (.int .u64 0)),(.t (.int .u64 0)),(.t (.int .u64 0)),(.t (.int .u64 0)),(.t (.int .u64 0)),(.t (.int .u64 0)),(.t (.int .u64 0)),
 (.t (.int .u64 0)),(.t (.int .u64 0)),(.t (.int .u64 0)),(.t (.int .u64 0)),(.t (.int .u64 0)),(.t (.int .u64 0)),(.t (.int .u64 0)),(.t
 (.int .u64 0)),(.t (.int .u64 0)),(.t (.int .u64 0)),(.t (.int .u64 0)),(.t (.int .u64 0)),(.t (.int .u64 0)),(.t (.int .u64 0)),(.t (.int
 .u64 0)),(.t (.int .u64 0)),(.t (.int .u64 0)),(.t (.int .u64 0)),(.t (.int .u64 0)),(.t (.int .u64 0)),(.t (.int .u64 0)),(.t (.int .u64
 0)),(.t (.int .u64 0)),(.t (.int .u64 0)),(.t (.int .u64 0)),(.t (.int .u64 0)),(.t (.int .u64 0)),(.t (.int .u64 0)),(.t (.int .u64 0)),
 (.t (.int .u64 0)),(.t (.int .u64 0)),(.t (.int .u64 0)),(.t (.int .u64 0)),(.t (.int .u64 0)),(.t (.int .u64 0)),(.t (.int .u64 0)),(.t
 (.int .u64 0)),(.t (.int .u64 0)),(.t (.int .u64 0)),(.t (.int .u64 0)),(.t (.int .u64 0)),(.t (.int .u64 0)),(.t (.int .u64 0)),(.t (.int
 .u64 0)),(.t (.int .u64 0)),(.t (.int .u64 0)),(.t (.int .u64 0)),(.t (.int .u64 0)),(.t (.int .u64 0)),(.t (.int .u64 0)),(.t (.int .u64
 0)),(.t (.int .u64 0)),(.t (.int .u64 0)),(.t (.int .u64 0)),(.t (.int .u64 0)),(.t (.int .u64 0)),(.t (.int .u64 0)),(.t (.int .u64 0)),
 (.t (.int .u64 0)),(.t (.int .u64 0)),(.t (.int .u64 0)),(.t (.int .u64 0)),(.t (.int .u64 0)),(.t (.int .u64 0)),(.t (.int .u64 0)),(.t
 (.int .u64 0)),(.t (.int .u64 0)),(.t (.int .u64 0)),(.t (.int .u64 0)),(.t (.int .u64 0)),(.t (.int .u64 0)),(.t (.int .u64 0)),(.t (.int
 .u64 0)),(.t (.int .u64 0)),(.t (.int .u64 0)),(.t (.int .u64 0)),(.t (.int .u64 0)),(.t (.int .u64 0)),(.t (.int .u64 0)),(.t (.int .u64
 0)),(.t (.int .u64 0)),(.t (.int .u64 0)),(.t (.int .u64 0)),(.t (.int .u64 0)),(.t (.int .u64 0)),(.t (.int .u64 0)),(.t (.int .u64 0)),
 (.t (.int .u64 0)),(.t (.int .u64 0)),(.t (.int .u64 0)),(.t (.int .u64 0)),(.t (.int .u64 0)),(.t (.int .u64 0)),(.t (.int .u64 0)),(.t
 (.int .u64 0)),(.t (.int .u64 0)),(.t (.int .u64 0)),(.t (.int .u64 0)),(.t (.int .u64 0)),(.t (.int .u64 0)),(.t (.int .u64 0)),(.t (.int
 .u64 0)),(.t (.int .u64 0)),(.t (.int .u64 0)),(.t (.int .u64 0)),(.t (.int .u64 0)),(.t (.int .u64 0)),(.t (.int .u64 0)),(.t (.int .u64
 0)),(.t (.int .u64 0)),(.t (.int .u64 0)),(.t (.int .u64 0)),(.t (.int .u64 0)),(.t (.int .u64 0)),(.t (.int .u64 0)),(.t (.int .u64 0)),
 (.t (.int .u64 0)),(.t (.int .u64 0)),(.t (.int .u64 0)),(.t (.int .u64 0)),(.t (.int .u64 0)),(.t (.int .u64 0)),(.t (.int .u64 0)),(.t
 (.int .u64 0)),(.t (.int .u64 0)),(.t (.int .u64 0)),(.t (.int .u64 0)),(.t (.int .u64 0)),(.t (.int .u64 0)),(.t (.int .u64 0)),(.t (.int
 .u64 0)),(.t (.int .u64 0)),(.t (.int .u64 0)),(.t (.int .u64 0)),(.t (.int .u64 0)),(.t (.int .u64 0)),(.t (.int .u64 0)),(.t (.int .u64
 0)),(.t (.int .u64 0)),(.t (.int .u64 0)),(.t (.int .u64 0)),(.t (.int .u64 0)),(.t (.int .u64 0)),(.t (.int .u64 0)),(.t (.int .u64 0)),
 (.t (.int .u64 0)),(.t (.int .u64 0)),(.t (.int .u64 0)),(.t (.int .u64 0)),(.t (.int .u64 0)),(.t (.int .u64 0)),(.t (.int .u64 0)),(.t
 (.int .u64 0)),(.t (.int .u64 0)),(.t (.int .u64 0)),(.t (.int .u64 0)),(.t (.int .u64 0)),(.t (.int .u64 0)),(.t (.int .u64 0)),(.t (.int
 .u64 0)),(.t (.int .u64 0)),(.t (.int .u64 0)),(.t (.int .u64 0)),(.t (.int .u64 0)),(.t (.int .u64 0)),(.t (.int .u64 0)),(.t (.int .u64
 0)),(.t (.int .u64 0)),(.t (.int .u64 0)),(.t (.int .u64 0)),(.t (.int .u64 0)),(.t (.int .u64 0)),(.t (.int .u64 0)),(.t (.int .u64 0)),
 (.t (.int .u64 0)),(.t (.int .u64 0)),(.t (.int .u64 0)),(.t (.int .u64 0)),(.t (.int .u64 0)),(.t (.int .u64 0)),(.t (.int .u64 0)),(.t
 (.int .u64 0)),(.t (.int .u64 0)),(.t (.int .u64 0)),(.t (.int .u64 0)),(.t (.int .u64 0)),(.t (.int .u64 0)),(.t (.int .u64 0)),(.t (.int
 .u64 0)),(.t (.int .u64 0)),(.t (.int .u64 0)),(.t (.int .u64 0)),(.t (.int .u64 0)),(.t (.int .u64 0)),(.t (.int .u64 0)),(.t (.int .u64
 0)),(.t (.int .u64 0)),(.t (.int .u64 0)),(.t (.int .u64 0)),(.t (.int .u64 0)),(.t (.int .u64 0)),(.t (.int .u64 0)),(.t (.int .u64 0)),
 (.t (.int .u64 0)),(.t (.int .u64 0)),(.t (.int .u64 0)),(.t (.int .u64 0)),(.t (.int .u64 0)),(.t (.int .u64 0)),(.t (.int .u64 0)),(.t
 (.int .u64 0)),(.t (.int .u64 0)),(.t (.int .u64 0)),(.t (.int .u64 0)),(.t (.int .u64 0)),(.t (.int .u64 0)),(.t (.int .u64 0)),(.t (.int
 .u64 0)),(.t (.int .u64 0)),(.t .nilm)] [(0,4,(.s 11)),(4,1,(.s 12)),(5,1,(.s 14)),(520,1,(.s 15))]),o 17 (.boxH 521 (.s 16)),
 oM 5 17]) (.seq (rT [oM 18 5,oF 19 3 2,oL 20 19,oN 21 20,oM 22 5,o 23 (.call false (cf 309) [(.s 22)]),oC 24 .mul 21 23,o 25 (.mkslice
 1 8 [(.t (.int .u64 0))] (.s 24) (.s 24)),o 26 (.nilchk (.s 18)),oG 27 7 26,oO 1 27 25]) (.seq (.seq (rF [oM 28 5,o 29 (.nilchk (.s 28)),
 oG 30 5 29,oR 31 30,oN 32 31,oI 33 0]) (.block 0 (.loop (.seq (rF [oC 34 .lss 33 32]) (.seq (.cond (.s 34) .skip (.exit 0)) (.seq (.block
 1 (.seq (rF [oA 35 4 31 33,oS 36 4 35,o 7 (.allocL [zi,zi,zi,zb]),oP 4 7 36]) (.seq (rT [oF 37 0 7,oL 38 37,oM 39 5,o 40 (.call false
 (cf 309) [(.s 39)]),oC 41 .mul 38 40,oF 42 2 7,oL 43 42,o 44 (.bin .mul (ci 2) (.s 43)),oC 45 .add 41 44,oM 8 45]) (.seq (.seq (rF [oF
 46 3 7,oL 47 46,oM 48 47,gF 48 true 49 2 7,gL 48 true 50 49,gF 48 true 51 0 2,gL 48 true 52 51,gN 48 true 53 52,gC 48 true 54 .lss 50
 53,oW 55 48 54,oM 56 55,gM 56 false 57 5,gK 56 false 58 4 7,og 56 false 59 (.call true (cf 310) [(.s 57),(.s 58)]),og 56 false 60 (.field
 false 0 1 (.s 59)),gD 56 false 61 .eql 60 7,oV 62 56 61]) (.cond (.s 62) (rF [oM 63 8,oD 64 .add 63 1,oM 8 64]) .skip)) (.seq (rF [oM 65
 5,oM 66 5,o 67 (.nilchk (.s 66)),oG 68 6 67,oR 69 68,oM 70 8,o 71 (.bslice 1 1 [zi] [(0,(.s 70))]),o 72 (.append 1 8 (.s 69) (.s 71)),
 o 73 (.nilchk (.s 65)),oG 74 6 73,oO 1 74 72]) (rT [oM 75 5,o 76 (.nilchk (.s 75)),oG 77 7 76,oR 78 77,oM 79 8,oA 80 1 78 79,oR 81 80,
 oF 82 1 7,oL 83 82,o 84 (.bin .shl (.c (.t (.int .u64 1))) (.s 83)),oC 85 .or 81 84,oA 86 1 78 79,oO 1 86 85])))))) (rF [oD 87 .add 33 1,
 oM 33 87]))))))) (.seq (.seq (rF [oF 88 3 2,oL 89 88,oN 90 89,oI 91 0]) (.block 2 (.loop (.seq (rF [oC 92 .lss 91 90]) (.seq (.cond (.s 92)
 .skip (.exit 2)) (.seq (.block 3 (.seq (rF [oM 93 91,oA 94 7 89 91,oS 95 7 94,o 10 (.allocL [ze,zi,zn,zn,zn,zn,zb]),oM 9 93,oP 7 10
 95]) (.seq (rT [oM 96 5,oM 97 9,oF 98 4 10,oL 99 98,o 100 (.call false (cf 311) [(.s 99),(cf 312)]),o 101 (.nilchk (.s 96)),oG 102 8 101,
 o 103 (.iaddrA 4 64 (.s 102) (.s 97)),oO 64 103 100]) (rT [oM 104 5,oM 105 9,oF 106 4 10,oL 107 106,o 108 (.call false (cf 311) [(.s 107),
 (cf 313)]),o 109 (.nilchk (.s 104)),oG 110 264 109,o 111 (.iaddrA 4 64 (.s 110) (.s 105)),oO 64 111 108])))) (rF [oD 112 .add 91 1,oM 91
 112]))))))) (.seq (rF [oM 113 5,oM 4 113]) .ret))))))⟩
def f301:F:=⟨45,true,[.s 2, .s 3],(.seq (rF [oI 2 0,oB 3 false]) (.seq (rF [oM 8 0,o 9 (.call false (cf 314) [(.s 8)]),oM 4 9]) (.seq
 (.seq (rF [oM 10 4,oN 11 10,oD 12 .eql 11 0]) (.cond (.s 12) (.seq (rF [oI 2 0,oB 3 false]) .ret) .skip)) (.seq (.seq (rF [oI 5 1]) (.block
 0 (.loop (.seq (.seq (rF [oM 13 5,oM 14 0,o 15 (.nilchk (.s 14)),oG 16 0 15,oG 17 3 16,oR 18 17,oN 19 18,oD 20 .sub 19 1,o 21 (.bin .mul
 (ci 2) (.s 20)),oC 22 .leq 13 21]) (.cond (.s 22) .skip (.exit 0))) (.seq (.block 1 (.seq (rF [oM 25 4,oN 26 25,oI 27 0]) (.block 2 (.loop
 (.seq (rF [oC 28 .lss 27 26]) (.seq (.cond (.s 28) .skip (.exit 2)) (.seq (.block 3 (.seq (rF [oA 29 2 25 27,oS 30 2 29,o 7 (.allocL [zi,zi]),
 oP 2 7 30]) (.seq (rT [oM 31 0,o 32 (.iaddrAL 2 1 (.s 7) (ci 0)),oL 33 32,o 34 (.iaddrAL 2 1 (.s 7) (ci 1)),oL 35 34,oM 36 0,o 37 (.iaddrAL
 2 1 (.s 7) (ci 1)),oL 38 37,o 39 (.call false (cf 316) [(.s 36),(.s 38)]),o 40 (.bin .shl (ci 1) (.s 39)),oM 41 5,o 42 (.call true (cf
 315) [(.s 31),(.s 33),(.s 35),(.s 40),(.s 41)])]) (.cond (.s 42) (.seq (rF [oM 43 5,oM 2 43,oB 3 true]) .ret) .skip)))) (rF [oD 44 .add
 27 1,oM 27 44])))))))) (rF [oM 23 5,oD 24 .add 23 1,oM 5 24])))))) (.seq (rF [oI 2 0,oB 3 false]) .ret)))))⟩
def f302:F:=⟨65,true,[.s 4, .s 5],(.seq (rF [o 4 (.mv (.c zn)),oB 5 false]) (.seq (.seq (rF [oM 8 0,o 9 (.nilchk (.s 8)),oG 10 5 9,
 oR 11 10,oN 12 11,oI 13 0]) (.block 0 (.loop (.seq (rF [oC 14 .lss 13 12]) (.seq (.cond (.s 14) .skip (.exit 0)) (.seq (.block 1 (.seq (rF
 [oM 15 13,oM 6 15]) (.seq (rF [oM 16 0,o 17 (.nilchk (.s 16)),oG 18 5 17,oR 19 18,oN 20 19,oI 21 0]) (.block 2 (.loop (.seq (rF [oC 22
 .lss 21 20]) (.seq (.cond (.s 22) .skip (.exit 2)) (.seq (.block 3 (.seq (rF [oM 23 21,oM 7 23]) (.seq (rT [oM 24 0,oM 25 6,oM 26 7,o 27
 (.call false (cf 306) [(.s 24),(.s 25),(.s 26)]),oM 28 27,gM 28 true 29 0,gM 28 true 30 0,og 28 true 31 (.nilchk (.s 30)),gG 28 true 32
 6 31,gR 28 true 33 32,gM 28 true 34 6,gI 28 true 35 1 33 34,gR 28 true 36 35,gM 28 true 37 0,og 28 true 38 (.nilchk (.s 37)),gG 28 true
 39 6 38,gR 28 true 40 39,gM 28 true 41 7,gI 28 true 42 1 40 41,gR 28 true 43 42,gM 28 true 44 0,og 28 true 45 (.nilchk (.s 44)),gG 28
 true 46 5 45,gR 28 true 47 46,gM 28 true 48 7,gI 28 true 49 4 47 48,gG 28 true 50 0 49,gR 28 true 51 50,og 28 true 52 (.bin .shl (ci 1)
 (.s 51)),gM 28 true 53 1,og 28 true 54 (.call true (cf 315) [(.s 29),(.s 36),(.s 43),(.s 52),(.s 53)]),oW 55 28 54]) (.cond (.s 55) (.seq
 (rF [oM 56 0,oM 57 6,oM 58 7,oM 59 1,o 60 (.call true (cf 317) [(.s 56),(.s 57),(.s 58),(.s 59)]),oX 61 60 0,oX 62 60 1,oM 4 61,oM
 5 62]) .ret) .skip)))) (rF [oD 63 .add 21 1,oM 21 63]))))))))) (rF [oD 64 .add 13 1,oM 13 64]))))))) (.seq (rF [o 4 (.mv (.c zn)),oB 5 false]) .ret)))⟩
def f306:F:=⟨62,false,[.s 6],(.seq (rF [oB 6 false]) (.seq (rT [oM 9 0,o 10 (.nilchk (.s 9)),oG 11 5 10,oR 12 11,oM 13 1,oA 14 4
 12 13,oS 15 4 14,oM 16 0,o 17 (.nilchk (.s 16)),oG 18 5 17,oR 19 18,oM 20 2,oA 21 4 19 20,oS 22 4 21,o 7 (.allocL [zi,zi,zi,zb]),
 o 8 (.allocL [zi,zi,zi,zb]),oP 4 7 15,oP 4 8 22]) (.seq (rT [oF 23 0 7,oL 24 23,oF 25 0 8,oL 26 25,oC 27 .eql 24 26,oM 28 27,gF 28
 true 29 2 7,gL 28 true 30 29,gF 28 true 31 2 8,gL 28 true 32 31,gC 28 true 33 .neq 30 32,oW 34 28 33,oM 35 34,gM 35 true 36 0,gF 35 true
 37 0 7,gL 35 true 38 37,gF 35 true 39 1 7,gL 35 true 40 39,og 35 true 41 (.nilchk (.s 36)),gG 35 true 42 264 41,og 35 true 43 (.iaddrA
 4 64 (.s 42) (.s 38)),og 35 true 44 (.iaddrA 64 1 (.s 43) (.s 40)),gR 35 true 45 44,gF 35 true 46 1 8,gL 35 true 47 46,gC 35 true 48 .shr
 45 47,og 35 true 49 (.bin .and (.s 48) (.c (.t (.int .u64 1)))),og 35 true 50 (.bin .eql (.s 49) (.c (.t (.int .u64 1)))),oW 51 35 50,oM
 52 51,gM 52 true 53 0,gK 52 true 54 4 7,og 52 true 55 (.call false (cf 318) [(.s 53),(.s 54)]),oW 56 52 55,oM 57 56,gM 57 true 58 0,gK
 57 true 59 4 8,og 57 true 60 (.call false (cf 319) [(.s 58),(.s 59)]),oW 61 57 60,oM 6 61]) .ret)))⟩
def f307:F:=⟨83,false,[.s 2],(.seq (rF [oQ 1 4 0,o 2 (.mv (.c zn))]) (.seq (rF [o 3 (.mv (.c zn))]) (.seq (.seq (rF [oF 12 3 1,oL 13
 12,oN 14 13,oI 15 0]) (.block 0 (.loop (.seq (rF [oC 16 .lss 15 14]) (.seq (.cond (.s 16) .skip (.exit 0)) (.seq (.block 1 (.seq (rF [oM 17
 15,oA 18 7 13 15,oS 19 7 18,o 5 (.allocL [ze,zi,zn,zn,zn,zn,zb]),oM 4 17,oP 7 5 19]) (.seq (rF [oF 20 4 5,oL 21 20,oN 22 21,oI
 23 0]) (.block 2 (.loop (.seq (rF [oC 24 .lss 23 22]) (.seq (.cond (.s 24) .skip (.exit 2)) (.seq (.block 3 (.seq (rF [oM 25 23,oA 26 11 21
 23,oS 27 11 26,o 7 (.allocL [zi,zi,zi,zi,zi,zi,zn,zn,zb,zi,zi]),oM 6 25,oP 11 7 27]) (.seq (.seq (rF [oF 28 0 7,oL 29 28,oD 30
 .eql 29 6,oM 31 30,gF 31 false 32 0 7,gL 31 false 33 32,gD 31 false 34 .eql 33 7,oV 35 31 34]) (.cond (.s 35) (.seq (rF [oM 36 3,oM 37
 4,oM 38 6,oF 39 0 1,oL 40 39,oN 41 40,oF 42 9 7,oL 43 42,oC 44 .add 41 43,o 45 (.build [zi,zi,zi,zb] [(0,1,(.s 37)),(1,1,(.s
 38)),(2,1,(.s 44)),(3,1,(cb true))]),o 46 (.bslice 4 1 [zi,zi,zi,zb] [(0,(.s 45))]),o 47 (.append 4 32 (.s 36) (.s 46)),oM 3 47])
 (.exit 3)) .skip)) (.seq (rT [oK 48 11 7,o 49 (.call false (cf 31) [(.s 48)]),oK 50 11 7,o 51 (.call false (cf 28) [(.s 50)]),oM 8 49,oM
 9 51]) (.seq (rF [oK 52 4 1,o 53 (.call false (cf 228) [(.s 52)]),oN 54 53,oI 55 0]) (.block 4 (.loop (.seq (rF [oC 56 .lss 55 54]) (.seq
 (.cond (.s 56) .skip (.exit 4)) (.seq (.block 5 (.seq (rF [oA 57 1 53 55,oR 58 57,oM 11 58]) (.seq (.seq (rF [oM 59 8,oM 60 11,o 61 (.call
 false (cf 206) [(.s 59),(.s 60)])]) (.cond (.s 61) (rF [oM 62 3,oM 63 4,oM 64 6,oM 65 11,o 66 (.build [zi,zi,zi,zb] [(0,1,(.s 63)),
 (1,1,(.s 64)),(2,1,(.s 65))]),o 67 (.bslice 4 1 [zi,zi,zi,zb] [(0,(.s 66))]),o 68 (.append 4 32 (.s 62) (.s 67)),oM 3 68]) .skip))
 (.seq (rF [oM 69 9,oM 70 11,o 71 (.call false (cf 206) [(.s 69),(.s 70)])]) (.cond (.s 71) (rF [oM 72 3,oM 73 4,oM 74 6,oM 75 11,o 76
 (.build [zi,zi,zi,zb] [(0,1,(.s 73)),(1,1,(.s 74)),(2,1,(.s 75)),(3,1,(cb true))]),o 77 (.bslice 4 1 [zi,zi,zi,zb] [(0,(.s
 76))]),o 78 (.append 4 32 (.s 72) (.s 77)),oM 3 78]) .skip))))) (rF [oD 79 .add 55 1,oM 55 79]))))))))))) (rF [oD 80 .add 23 1,oM 23 80])))))))))
 (rF [oD 81 .add 15 1,oM 15 81]))))))) (.seq (rF [oM 82 3,oM 2 82]) .ret))))⟩
def f308:F:=⟨16,false,[.s 6],(.seq (rF [oI 6 0]) (.seq (.seq (rF [oM 7 0,oM 8 1,oC 9 .eql 7 8]) (.cond (.s 9) (.seq (rF [oM 10 2,oM
 6 10]) .ret) .skip)) (.seq (.seq (rF [oM 11 0,oM 12 2,oC 13 .eql 11 12]) (.cond (.s 13) (.seq (rF [oM 14 1,oM 6 14]) .ret) .skip)) (.seq (rF [oM 15 0,oM 6 15]) .ret))))⟩
def f309:F:=⟨17,false,[.s 2],(.seq (rF [oI 2 0]) (.seq (rT [oM 3 0,o 4 (.nilchk (.s 3)),oG 5 0 4,oG 6 0 5,oR 7 6,oN 8 7,oM 9 0,
 o 10 (.nilchk (.s 9)),oG 11 0 10,oG 12 3 11,oR 13 12,oN 14 13,oC 15 .add 8 14,o 16 (.bin .mul (ci 2) (.s 15)),oM 2 16]) .ret))⟩
def f310:F:=⟨19,true,[.l 4 true 11],(.seq (rF [oQ 3 4 1,o 4 (.allocL [zi,zi,zi,zi,zi,zi,zn,zn,zb,zi,zi])]) (.seq (rT [oM 5
 0,o 6 (.nilchk (.s 5)),oG 7 0 6,oG 8 3 7,oR 9 8,oF 10 0 3,oL 11 10,oA 12 7 9 11,oG 13 4 12,oR 14 13,oF 15 1 3,oL 16 15,oA 17 11 14 16,oS 18 11 17,oP 11 4 18]) .ret))⟩
def f311:F:=⟨75,false,[.l 4 true 64],(.seq (rF [o 4 (.allocL [(.t (.int .u64 0)),(.t (.int .u64 0)),(.t (.int .u64 0)),(.t (.int .u64
 0)),(.t (.int .u64 0)),(.t (.int .u64 0)),(.t (.int .u64 0)),(.t (.int .u64 0)),(.t (.int .u64 0)),(.t (.int .u64 0)),(.t (.int .u64 0)),
 (.t (.int .u64 0)),(.t (.int .u64 0)),(.t (.int .u64 0)),(.t (.int .u64 0)),(.t (.int .u64 0)),(.t (.int .u64 0)),(.t (.int .u64 0)),(.t
 (.int .u64 0)),(.t (.int .u64 0)),(.t (.int .u64 0)),(.t (.int .u64 0)),(.t (.int .u64 0)),(.t (.int .u64 0)),(.t (.int .u64 0)),(.t (.int
 .u64 0)),(.t (.int .u64 0)),(.t (.int .u64 0)),(.t (.int .u64 0)),(.t (.int .u64 0)),(.t (.int .u64 0)),(.t (.int .u64 0)),(.t (.int .u64
 0)),(.t (.int .u64 0)),(.t (.int .u64 0)),(.t (.int .u64 0)),(.t (.int .u64 0)),(.t (.int .u64 0)),(.t (.int .u64 0)),(.t (.int .u64 0)),
 (.t (.int .u64 0)),(.t (.int .u64 0)),(.t (.int .u64 0)),(.t (.int .u64 0)),(.t (.int .u64 0)),(.t (.int .u64 0)),(.t (.int .u64 0)),(.t
 (.int .u64 0)),(.t (.int .u64 0)),(.t (.int .u64 0)),(.t (.int .u64 0)),(.t (.int .u64 0)),(.t (.int .u64 0)),(.t (.int .u64 0)),(.t (.int
 .u64 0)),(.t (.int .u64 0)),(.t (.int .u64 0)),(.t (.int .u64 0)),(.t (.int .u64 0)),(.t (.int .u64 0)),(.t (.int .u64 0)),(.t (.int .u64
 0)),(.t (.int .u64 0)),(.t (.int .u64 0))])]) (.seq (rF [o 5 (.allocL [(.t (.int .u64 0)),(.t (.int .u64 0)),(.t (.int .u64 0)),(.t (.int
 .u64 0)),(.t (.int .u64 0)),(.t (.int .u64 0)),(.t (.int .u64 0)),(.t (.int .u64 0)),(.t (.int .u64 0)),(.t (.int .u64 0)),(.t (.int .u64
 0)),(.t (.int .u64 0)),(.t (.int .u64 0)),(.t (.int .u64 0)),(.t (.int .u64 0)),(.t (.int .u64 0)),(.t (.int .u64 0)),(.t (.int .u64 0)),
 (.t (.int .u64 0)),(.t (.int .u64 0)),(.t (.int .u64 0)),(.t (.int .u64 0)),(.t (.int .u64 0)),(.t (.int .u64 0)),(.t (.int .u64 0)),(.t
 (.int .u64 0)),(.t (.int .u64 0)),(.t (.int .u64 0)),(.t (.int .u64 0)),(.t (.int .u64 0)),(.t (.int .u64 0)),(.t (.int .u64 0)),(.t (.int
 .u64 0)),(.t (.int .u64 0)),(.t (.int .u64 0)),(.t (.int .u64 0)),(.t (.int .u64 0)),(.t (.int .u64 0)),(.t (.int .u64 0)),(.t (.int .u64
 0)),(.t (.int .u64 0)),(.t (.int .u64 0)),(.t (.int .u64 0)),(.t (.int .u64 0)),(.t (.int .u64 0)),(.t (.int .u64 0)),(.t (.int .u64 0)),
 (.t (.int .u64 0)),(.t (.int .u64 0)),(.t (.int .u64 0)),(.t (.int .u64 0)),(.t (.int .u64 0)),(.t (.int .u64 0)),(.t (.int .u64 0)),(.t
 (.int .u64 0)),(.t (.int .u64 0)),(.t (.int .u64 0)),(.t (.int .u64 0)),(.t (.int .u64 0)),(.t (.int .u64 0)),(.t (.int .u64 0)),(.t (.int
 .u64 0)),(.t (.int .u64 0)),(.t (.int .u64 0))])]) (.seq (.seq (rF [oM 13 0,oN 14 13,oI 15 0]) (.block 0 (.loop (.seq (rF [oC 16 .lss 15
 14]) (.seq (.cond (.s 16) .skip (.exit 0)) (.seq (.block 1 (.seq (rF [oM 17 15,oA 18 11 13 15,oS 19 11 18,o 7 (.allocL [zi,zi,zi,zi,zi,
 zi,zn,zn,zb,zi,zi]),oM 6 17,oP 11 7 19]) (.seq (rF [oM 20 0,oN 21 20,oI 22 0]) (.block 2 (.loop (.seq (rF [oC 23 .lss 22 21]) (.seq
 (.cond (.s 23) .skip (.exit 2)) (.seq (.block 3 (.seq (rF [oM 24 22,oA 25 11 20 22,oS 26 11 25,o 9 (.allocL [zi,zi,zi,zi,zi,zi,zn,zn,
 zb,zi,zi]),oM 8 24,oP 11 9 26]) (.seq (rF [oF 27 2 7,oL 28 27,oF 29 1 9,oL 30 29,oC 31 .eql 28 30]) (.cond (.s 31) (rT [oM 32 6,o 33
 (.iaddrAL 64 1 (.s 5) (.s 32)),oL 34 33,oM 35 8,o 36 (.bin .shl (.c (.t (.int .u64 1))) (.s 35)),oC 37 .or 34 36,o 38 (.iaddrAL 64 1 (.s
 5) (.s 32)),oP 1 38 37]) .skip)))) (rF [oD 39 .add 22 1,oM 22 39]))))))))) (rF [oD 40 .add 15 1,oM 15 40]))))))) (.seq (.seq (rF [oM 41 0,
 oN 42 41,oI 43 0]) (.block 4 (.loop (.seq (rF [oC 44 .lss 43 42]) (.seq (.cond (.s 44) .skip (.exit 4)) (.seq (.block 5 (.seq (rF [oM 45 43,
 oA 46 11 41 43,oS 47 11 46,o 11 (.allocL [zi,zi,zi,zi,zi,zi,zn,zn,zb,zi,zi]),oM 10 45,oP 11 11 47]) (.seq (.seq (rF [oM 48 1,oK
 49 11 11,o 50 (.call false (.s 48) [(.s 49)]),oT 51 50]) (.cond (.s 51) (.exit 5) .skip)) (.seq (rF [oM 52 0,oN 53 52,oI 54 0]) (.block 6
 (.loop (.seq (rF [oC 55 .lss 54 53]) (.seq (.cond (.s 55) .skip (.exit 6)) (.seq (.block 7 (.seq (rF [oM 56 54,oM 12 56]) (.seq (rF [oM 57 12,
 o 58 (.iaddrAL 64 1 (.s 5) (.s 57)),oL 59 58,oM 60 10,oC 61 .shr 59 60,o 62 (.bin .and (.s 61) (.c (.t (.int .u64 1)))),o 63 (.bin .eql
 (.s 62) (.c (.t (.int .u64 1))))]) (.cond (.s 63) (rT [oM 64 12,o 65 (.iaddrAL 64 1 (.s 5) (.s 64)),oL 66 65,oM 67 10,o 68 (.iaddrAL 64 1
 (.s 5) (.s 67)),oL 69 68,oC 70 .or 66 69,o 71 (.iaddrAL 64 1 (.s 5) (.s 64)),oP 1 71 70]) .skip)))) (rF [oD 72 .add 54 1,oM 54 72]))))))))))
 (rF [oD 73 .add 43 1,oM 43 73]))))))) (.seq (rF [oK 74 64 5,oP 64 4 74]) .ret)))))⟩
def f312:F:=⟨3,false,[.s 2],(.seq (rF [oQ 1 11 0,oB 2 false]) (.seq (rF [oB 2 true]) .ret))⟩
def f313:F:=⟨21,false,[.s 2],(.seq (rF [oQ 1 11 0,oB 2 false]) (.seq (rF [oF 3 0 1,oL 4 3,oD 5 .eql 4 1,oM 6 5,gF 6 false 7 0 1,
 gL 6 false 8 7,gD 6 false 9 .eql 8 2,oV 10 6 9,oM 11 10,gF 11 false 12 0 1,gL 11 false 13 12,gD 11 false 14 .eql 13 3,gM 11 false 15 14,
 gF 15 true 16 8 1,gL 15 true 17 16,gT 15 true 18 17,og 11 false 19 (.pick (.s 15) (.s 18) (cb false)),oV 20 11 19,oM 2 20]) .ret))⟩
def f314:F:=⟨133,false,[.s 2],(.seq (rF [o 2 (.mv (.c zn))]) (.seq (rT [oM 10 0,o 11 (.nilchk (.s 10)),oG 12 7 11,oR 13 12,oN 14 13,
 o 15 (.mkslice 1 8 [(.t (.int .u64 0))] (.s 14) (.s 14)),oM 16 0,o 17 (.nilchk (.s 16)),oG 18 7 17,oR 19 18,oN 20 19,o 21 (.mkslice 1 8
 [(.t (.int .u64 0))] (.s 20) (.s 20)),oM 3 15,oM 4 21]) (.seq (.seq (rF [oM 22 0,o 23 (.nilchk (.s 22)),oG 24 5 23,oR 25 24,oN 26 25,oI
 27 0]) (.block 0 (.loop (.seq (rF [oC 28 .lss 27 26]) (.seq (.cond (.s 28) .skip (.exit 0)) (.seq (.block 1 (.seq (rF [oM 29 27,oA 30 4 25 27,
 oS 31 4 30,o 6 (.allocL [zi,zi,zi,zb]),oM 5 29,oP 4 6 31]) (.seq (.seq (rF [oM 32 0,oK 33 4 6,o 34 (.call false (cf 318) [(.s 32),(.s
 33)])]) (.cond (.s 34) (rT [oM 35 3,oM 36 0,o 37 (.nilchk (.s 36)),oG 38 6 37,oR 39 38,oM 40 5,oA 41 1 39 40,oR 42 41,oA 43 1 35 42,
 oR 44 43,oF 45 1 6,oL 46 45,o 47 (.bin .shl (.c (.t (.int .u64 1))) (.s 46)),oC 48 .or 44 47,oA 49 1 35 42,oO 1 49 48]) .skip)) (.seq (rF
 [oM 50 0,oK 51 4 6,o 52 (.call false (cf 319) [(.s 50),(.s 51)])]) (.cond (.s 52) (rT [oM 53 4,oM 54 0,o 55 (.nilchk (.s 54)),oG 56 6 55,
 oR 57 56,oM 58 5,oA 59 1 57 58,oR 60 59,oA 61 1 53 60,oR 62 61,oF 63 1 6,oL 64 63,o 65 (.bin .shl (.c (.t (.int .u64 1))) (.s 64)),oC
 66 .or 62 65,oA 67 1 53 60,oO 1 67 66]) .skip))))) (rF [oD 68 .add 27 1,oM 27 68]))))))) (.seq (rF [o 7 (.mv (.c zn))]) (.seq (.seq (rF [oM
 69 3,oN 70 69,oI 71 0]) (.block 2 (.loop (.seq (rF [oC 72 .lss 71 70]) (.seq (.cond (.s 72) .skip (.exit 2)) (.seq (.block 3 (.seq (rF [oM
 73 71,oM 8 73]) (.seq (rF [oM 74 4,oN 75 74,oI 76 0]) (.block 4 (.loop (.seq (rF [oC 77 .lss 76 75]) (.seq (.cond (.s 77) .skip (.exit 4))
 (.seq (.block 5 (.seq (rF [oM 78 76,oM 9 78]) (.seq (.seq (rF [oM 79 3,oM 80 8,oA 81 1 79 80,oR 82 81,o 83 (.bin .eql (.s 82) (.c (.t (.int
 .u64 0)))),oM 84 83,gM 84 false 85 4,gM 84 false 86 9,gI 84 false 87 1 85 86,gR 84 false 88 87,og 84 false 89 (.bin .eql (.s 88) (.c (.t
 (.int .u64 0)))),oV 90 84 89,oM 91 90,gM 91 false 92 0,gM 91 false 93 8,og 91 false 94 (.call false (cf 316) [(.s 92),(.s 93)]),gM 91
 false 95 0,gM 91 false 96 9,og 91 false 97 (.call false (cf 316) [(.s 95),(.s 96)]),gC 91 false 98 .neq 94 97,oV 99 91 98,oM 100 99,gM
 100 false 101 8,gD 100 false 102 .quo 101 2,gM 100 false 103 9,gD 100 false 104 .quo 103 2,gC 100 false 105 .eql 102 104,oV 106 100 105])
 (.cond (.s 106) (.exit 5) .skip)) (.seq (rT [oM 107 3,oM 108 8,oA 109 1 107 108,oR 110 109,oM 111 4,oM 112 9,oA 113 1 111 112,oR 114 113,
 oM 115 0,oM 116 0,oM 117 8,o 118 (.call false (cf 316) [(.s 116),(.s 117)]),o 119 (.nilchk (.s 115)),oG 120 264 119,o 121 (.iaddrA 4 64
 (.s 120) (.s 118)),oS 122 64 121,o 123 (.call false (cf 320) [(.s 110),(.s 114),(.s 122)])]) (.cond (.s 123) (rF [oM 124 7,oM 125 8,oM
 126 9,o 127 (.build [zi,zi] [(0,1,(.s 125)),(1,1,(.s 126))]),o 128 (.bslice 2 1 [zi,zi] [(0,(.s 127))]),o 129 (.append 2 16 (.s 124)
 (.s 128)),oM 7 129]) .skip))))) (rF [oD 130 .add 76 1,oM 76 130]))))))))) (rF [oD 131 .add 71 1,oM 71 131]))))))) (.seq (rF [oM 132 7,oM 2 132]) .ret))))))⟩
def f315:F:=⟨89,true,[.s 10],(.seq (rF [oB 10 false]) (.seq (.seq (rF [oM 15 4,oD 16 .eql 15 0]) (.cond (.s 16) (.seq (rF [oM 17 0,oM
 18 2,oM 19 1,o 20 (.call false (cf 321) [(.s 17),(.s 18),(.s 19)]),oM 10 20]) .ret) .skip)) (.seq (rF [oM 21 1,oM 22 2,oM 23 3,oM 24
 4,o 25 (.build [zi,zi,zi,zi] [(0,1,(.s 21)),(1,1,(.s 22)),(2,1,(.s 23)),(3,1,(.s 24))]),o 11 (.allocL [zi,zi,zi,zi]),oP 4
 11 25]) (.seq (rT [oM 27 0,o 28 (.nilchk (.s 27)),oG 29 520 28,oR 30 29,oK 31 4 11,o 32 (.lookup 88 zb true (.s 30) (.s 31)),oM 26 32,
 oX 33 26 0,oX 34 26 1,oM 12 33,oM 13 34]) (.seq (.seq (rF [oM 35 13]) (.cond (.s 35) (.seq (rF [oM 36 12,oM 10 36]) .ret) .skip)) (.seq (.seq
 (rF [oM 37 0,o 38 (.nilchk (.s 37)),oG 39 7 38,oR 40 39,oN 41 40,oI 42 0]) (.block 0 (.loop (.seq (rF [oC 43 .lss 42 41]) (.seq (.cond (.s
 43) .skip (.exit 0)) (.seq (.block 1 (.seq (rF [oM 44 42,oM 14 44]) (.seq (.seq (rF [oM 45 0,o 46 (.nilchk (.s 45)),oG 47 7 46,oR 48 47,
 oM 49 14,oA 50 1 48 49,oR 51 50,o 52 (.bin .eql (.s 51) (.c (.t (.int .u64 0)))),oM 53 52,gM 53 false 54 3,gM 53 false 55 0,gM 53 false
 56 14,og 53 false 57 (.call false (cf 316) [(.s 55),(.s 56)]),gC 53 false 58 .shr 54 57,gD 53 false 59 .and 58 1,gD 53 false 60 .eql 59
 1,oV 61 53 60,oM 62 61,gM 62 false 63 0,gM 62 false 64 2,gM 62 false 65 14,og 62 false 66 (.call false (cf 321) [(.s 63),(.s 64),(.s
 65)]),gT 62 false 67 66,oV 68 62 67]) (.cond (.s 68) (.exit 1) .skip)) (.seq (rF [oM 69 0,oM 70 1,oM 71 14,oM 72 3,oM 73 0,oM 74 14,o
 75 (.call false (cf 316) [(.s 73),(.s 74)]),o 76 (.bin .shl (ci 1) (.s 75)),oC 77 .or 72 76,oM 78 4,oD 79 .sub 78 1,o 80 (.call true (cf
 322) [(.s 69),(.s 70),(.s 71),(.s 77),(.s 79)])]) (.cond (.s 80) (.seq (rF [oB 12 true]) (.exit 0)) .skip))))) (rF [oD 81 .add 42 1,oM 42
 81]))))))) (.seq (rT [oM 82 0,o 83 (.nilchk (.s 82)),oG 84 520 83,oR 85 84,oK 86 4 11,oM 87 12,on (.mapupd 88 (.s 85) (.s 86) (.s 87))])
 (.seq (rF [oM 88 12,oM 10 88]) .ret))))))))⟩
def f316:F:=⟨9,false,[.s 4],(.seq (rF [oI 4 0]) (.seq (rF [oM 5 1,oM 6 0,o 7 (.call false (cf 309) [(.s 6)]),oC 8 .quo 5 7,oM 4 8]) .ret))⟩
def b317_0:C:=(.round (.seq (rF [oM 15 57]) (rF [oM 16 58])) (.block 3 (.seq (.seq (rT [oM 59 16,oM 60 59,gR 60 true 61 4,gR 60 true 62
 10,gR 60 true 63 4,og 60 true 64 (.nilchk (.s 63)),gG 60 true 65 6 64,gR 60 true 66 65,gM 60 true 67 15,gI 60 true 68 1 66 67,gR 60 true
 69 68,gR 60 true 70 13,gR 60 true 71 7,gD 60 true 72 .sub 71 1,og 60 true 73 (.call true (cf 315) [(.s 61),(.s 62),(.s 69),(.s 70),(.s
 72)]),oW 74 60 73]) (.cond (.s 74) (.seq (.regionD [(11,13),(11,14),(11,15)] [oR 75 11,oR 76 4,o 77 (.nilchk (.s 76)),oG 78 5 77,oR
 79 78,oM 80 15,oA 81 4 79 80,oS 82 4 81,o 83 (.bslice 4 1 [zi,zi,zi,zb] [(0,(.s 82))]),o 84 (.append 4 32 (.s 75) (.s 83)),oM 85 15,
 oR 86 7,oD 87 .sub 86 1,oO 1 11 84,oO 1 12 85,on (.store 1 (.s 14) (cb false)),oO 1 7 87]) (.exit 1)) .skip)) (.seq (rT [oR 88 13,oR 89
 4,o 90 (.nilchk (.s 89)),oG 91 5 90,oR 92 91,oM 93 15,oA 94 4 92 93,oG 95 0 94,oR 96 95,o 97 (.bin .shl (ci 1) (.s 96)),oC 98 .or 88
 97,oM 17 98]) (.seq (rF [oM 99 16,oT 100 99,oM 101 100,gR 101 true 102 4,gR 101 true 103 10,gM 101 true 104 15,gM 101 true 105 17,gR
 101 true 106 7,gD 101 true 107 .sub 106 1,og 101 true 108 (.call true (cf 324) [(.s 102),(.s 103),(.s 104),(.s 105),(.s 107)]),oW 109
 101 108]) (.cond (.s 109) (.seq (.regionD [(11,14),(11,15),(11,16)] [oR 110 11,oR 111 4,o 112 (.nilchk (.s 111)),oG 113 5 112,oR 114
 113,oM 115 15,oA 116 4 114 115,oS 117 4 116,o 118 (.bslice 4 1 [zi,zi,zi,zb] [(0,(.s 117))]),o 119 (.append 4 32 (.s 110) (.s 118)),
 oM 120 15,oR 121 7,oD 122 .sub 121 1,oM 123 17,oO 1 11 119,oO 1 12 120,on (.store 1 (.s 14) (cb true)),oO 1 7 122,oO 1 13 123]) (.exit 1)) .skip))))))
def f317:F:=⟨125,true,[.s 8, .s 9],(.seq (rF [o 4 (.boxH 1 (.s 0)),o 7 (.boxH 1 (.s 3)),o 8 (.mv (.c zn)),oB 9 false]) (.seq .skip
 (.seq (rF [oR 18 4,o 19 (.nilchk (.s 18)),oG 20 6 19,oR 21 20,oM 22 1,oA 23 1 21 22,oR 24 23,o 10 (.allocH [zi]),oO 1 10 24]) (.seq (rT
 [oR 25 4,o 26 (.nilchk (.s 25)),oG 27 5 26,oR 28 27,oM 29 1,oA 30 4 28 29,oS 31 4 30,oR 32 4,o 33 (.nilchk (.s 32)),oG 34 5 33,oR 35
 34,oM 36 2,oA 37 4 35 36,oS 38 4 37,o 39 (.bslice 4 2 [zi,zi,zi,zb] [(0,(.s 31)),(1,(.s 38))]),o 11 (.allocH [zn]),oO 1 11 39]) (.seq
 (.regionD [(1,13),(2,13),(3,13),(4,13),(6,13),(7,13),(8,13)] [oM 40 2,oR 41 4,o 42 (.nilchk (.s 41)),oG 43 5 42,oR 44 43,oM
 45 2,oA 46 4 44 45,oG 47 0 46,oR 48 47,o 49 (.bin .shl (ci 1) (.s 48)),o 12 (.allocH [zi]),o 13 (.allocH [zi]),o 14 (.allocH [zb]),oO
 1 12 40,oO 1 13 49,on (.store 1 (.s 14) (cb false))]) (.seq .skip (.seq (.block 0 (.loop (.seq (.seq (rF [oR 50 7,oD 51 .gtr 50 0]) (.cond
 (.s 51) .skip (.exit 0))) (.block 1 (.seq (.seq (rF [oR 52 4,oR 53 12,oR 54 13,oR 55 14,o 56 (.call true (cf 323) [(.s 52),(.s 53),(.s
 54),(.s 55)])]) (.block 2 (.rangeF (.s 56) [57,58] b317_0))) (.seq (rF [o 8 (.mv (.c zn)),oB 9 false]) .ret)))))) (.seq (rF [oR 124 11,oM 8 124,oB 9 true]) .ret))))))))⟩
def f318:F:=⟨14,false,[.s 4],(.seq (rF [oQ 3 4 1,oB 4 false]) (.seq (rF [oF 5 3 3,oL 6 5,oM 7 6,gM 7 true 8 0,gK 7 true 9 4 3,og
 7 true 10 (.call true (cf 310) [(.s 8),(.s 9)]),og 7 true 11 (.field false 0 1 (.s 10)),gD 7 true 12 .eql 11 3,oW 13 7 12,oM 4 13]) .ret))⟩
def f319:F:=⟨44,false,[.s 4],(.seq (rF [oQ 3 4 1,oB 4 false]) (.seq (rF [oM 6 0,oK 7 4 3,o 8 (.call true (cf 310) [(.s 6),(.s 7)]),
 o 5 (.allocL [zi,zi,zi,zi,zi,zi,zn,zn,zb,zi,zi]),oP 11 5 8]) (.seq (.seq (rF [oF 9 3 3,oL 10 9,oT 11 10]) (.cond (.s 11) (.seq (rF
 [oF 12 0 5,oL 13 12,oD 14 .eql 13 2,oM 15 14,gM 15 true 16 0,og 15 true 17 (.nilchk (.s 16)),gG 15 true 18 4 17,gR 15 true 19 18,gD 15
 true 20 .eql 19 1,gM 15 true 21 20,gM 21 false 22 0,og 21 false 23 (.nilchk (.s 22)),gG 21 false 24 4 23,gR 21 false 25 24,gD 21 false
 26 .eql 25 2,og 15 true 27 (.pick (.s 21) (cb true) (.s 26)),oW 28 15 27,oM 4 28]) .ret) .skip)) (.seq (rF [oM 29 0,o 30 (.nilchk (.s 29)),
 oG 31 4 30,oR 32 31,oD 33 .eql 32 2,oM 34 33,gF 34 true 35 0 5,gL 34 true 36 35,gD 34 true 37 .eql 36 3,oW 38 34 37,oM 39 38,gF 39 true
 40 8 5,gL 39 true 41 40,gT 39 true 42 41,oW 43 39 42,oM 4 43]) .ret))))⟩
def f320:F:=⟨25,false,[.s 6],(.seq (rF [oQ 5 64 2,oB 6 false]) (.seq (.seq (rF [oI 8 0]) (.block 0 (.loop (.seq (rF [oD 9 .lss 8 64])
 (.seq (.cond (.s 9) .skip (.exit 0)) (.seq (.block 1 (.seq (rF [oM 10 8,oM 7 10]) (.seq (rF [oM 11 0,oM 12 7,oC 13 .shr 11 12,o 14 (.bin
 .and (.s 13) (.c (.t (.int .u64 1)))),o 15 (.bin .eql (.s 14) (.c (.t (.int .u64 1)))),oM 16 15,gM 16 true 17 7,og 16 true 18 (.iaddrAL 64
 1 (.s 5) (.s 17)),gL 16 true 19 18,gM 16 true 20 1,gC 16 true 21 .and 19 20,og 16 true 22 (.bin .neq (.s 21) (.c (.t (.int .u64 0)))),oW
 23 16 22]) (.cond (.s 23) (.seq (rF [oB 6 true]) .ret) .skip)))) (rF [oD 24 .add 8 1,oM 8 24]))))))) (.seq (rF [oB 6 false]) .ret)))⟩
def f321:F:=⟨109,false,[.s 6],(.seq (rF [oB 6 false]) (.seq (rF [oM 14 0,oM 15 1,o 16 (.call false (cf 316) [(.s 14),(.s 15)]),oM
 17 0,oM 18 2,o 19 (.call false (cf 316) [(.s 17),(.s 18)]),oM 7 16,oM 8 19]) (.seq (rT [oM 20 1,oM 21 0,o 22 (.call false (cf 309) [(.s
 21)]),oC 23 .rem 20 22,oM 24 2,oM 25 0,o 26 (.call false (cf 309) [(.s 25)]),oC 27 .rem 24 26,oM 9 23,oM 10 27]) (.seq (rF [oM 28 0,o
 29 (.nilchk (.s 28)),oG 30 0 29,oG 31 0 30,oR 32 31,oN 33 32,o 34 (.bin .mul (ci 2) (.s 33)),oM 11 34]) (.seq (.seq (rF [oM 35 9,oM 36
 11,oC 37 .lss 35 36,oM 38 37,gM 38 true 39 10,gM 38 true 40 11,gC 38 true 41 .lss 39 40,oW 42 38 41,oM 43 42,gM 43 true 44 9,gD 43 true
 45 .quo 44 2,gM 43 true 46 10,gD 43 true 47 .quo 46 2,gC 43 true 48 .eql 45 47,oW 49 43 48,oM 50 49,gM 50 true 51 9,gD 50 true 52 .rem
 51 2,gD 50 true 53 .eql 52 1,gM 50 true 54 53,gM 54 false 55 10,gD 54 false 56 .rem 55 2,gD 54 false 57 .eql 56 1,og 50 true 58 (.pick
 (.s 54) (cb true) (.s 57)),oW 59 50 58]) (.cond (.s 59) (.seq (rF [oB 6 true]) .ret) .skip)) (.seq (rF [oM 60 9,oM 61 11,oC 62 .geq 60 61,
 oM 63 62,gM 63 true 64 9,gD 63 true 65 .rem 64 2,gD 63 true 66 .eql 65 0,oW 67 63 66,oM 12 67]) (.seq (rF [oM 68 10,oM 69 11,oC 70 .geq
 68 69,oM 71 70,gM 71 true 72 10,gD 71 true 73 .rem 72 2,gD 71 true 74 .eql 73 1,oW 75 71 74,oM 13 75]) (.seq (rF [oM 76 12,oM 77 76,gM
 77 true 78 9,gM 77 true 79 11,gC 77 true 80 .sub 78 79,gD 77 true 81 .quo 80 2,gM 77 true 82 8,gC 77 true 83 .eql 81 82,oW 84 77 83,oM
 85 84,gM 85 false 86 13,gM 85 false 87 86,gM 87 true 88 10,gM 87 true 89 11,gC 87 true 90 .sub 88 89,gD 87 true 91 .quo 90 2,gM 87 true
 92 7,gC 87 true 93 .eql 91 92,og 85 false 94 (.pick (.s 87) (.s 93) (cb false)),oV 95 85 94,oM 96 95,gM 96 false 97 12,gM 96 false 98 97,
 gM 98 true 99 13,og 96 false 100 (.pick (.s 98) (.s 99) (cb false)),gM 96 false 101 100,gM 101 true 102 9,gD 101 true 103 .quo 102 2,gM
 101 true 104 10,gD 101 true 105 .quo 104 2,gC 101 true 106 .eql 103 105,og 96 false 107 (.pick (.s 101) (.s 106) (cb false)),oV 108 96 107,oM 6 108]) .ret))))))))⟩
def f322:F:=⟨53,true,[.s 10],(.seq (rF [oB 10 false]) (.seq (.seq (rF [oM 12 0,oM 13 1,oM 14 2,oM 15 3,oM 16 4,o 17 (.call true (cf
 315) [(.s 12),(.s 13),(.s 14),(.s 15),(.s 16)])]) (.cond (.s 17) (.seq (rF [oB 10 true]) .ret) .skip)) (.seq (.seq (rF [oM 18 0,o 19 (.nilchk
 (.s 18)),oG 20 7 19,oR 21 20,oN 22 21,oI 23 0]) (.block 0 (.loop (.seq (rF [oC 24 .lss 23 22]) (.seq (.cond (.s 24) .skip (.exit 0)) (.seq
 (.block 1 (.seq (rF [oM 25 23,oM 11 25]) (.seq (rF [oM 26 4,oD 27 .gtr 26 0,oM 28 27,gM 28 true 29 0,gM 28 true 30 11,og 28 true 31 (.call
 false (cf 316) [(.s 29),(.s 30)]),gM 28 true 32 0,gM 28 true 33 2,og 28 true 34 (.call false (cf 316) [(.s 32),(.s 33)]),gC 28 true 35
 .eql 31 34,oW 36 28 35,oM 37 36,gM 37 true 38 0,gM 37 true 39 2,gM 37 true 40 11,og 37 true 41 (.call false (cf 325) [(.s 38),(.s 39),
 (.s 40)]),oW 42 37 41,oM 43 42,gM 43 true 44 0,gM 43 true 45 1,gM 43 true 46 11,gM 43 true 47 3,gM 43 true 48 4,gD 43 true 49 .sub 48
 1,og 43 true 50 (.call true (cf 315) [(.s 44),(.s 45),(.s 46),(.s 47),(.s 49)]),oW 51 43 50]) (.cond (.s 51) (.seq (rF [oB 10 true]) .ret)
 .skip)))) (rF [oD 52 .add 23 1,oM 23 52]))))))) (.seq (rF [oB 10 false]) .ret))))⟩
def f323:F:=⟨10,true,[.s 8],(.seq (rF [o 4 (.boxH 1 (.s 0)),o 5 (.boxH 1 (.s 1)),o 6 (.boxH 1 (.s 2)),o 7 (.boxH 1 (.s 3)),o 8 (.mv
 (.c (.t .nilf)))]) (.seq (rF [o 9 (.mkfn 326 [] [(.s 4),(.s 7),(.s 5),(.s 6)]),oM 8 9]) .ret))⟩
def f324:F:=⟨56,true,[.s 10],(.seq (rF [oB 10 false]) (.seq (.seq (rF [oM 12 0,oM 13 1,oM 14 0,o 15 (.nilchk (.s 14)),oG 16 6 15,
 oR 17 16,oM 18 2,oA 19 1 17 18,oR 20 19,oM 21 3,oM 22 4,o 23 (.call true (cf 315) [(.s 12),(.s 13),(.s 20),(.s 21),(.s 22)])]) (.cond
 (.s 23) (.seq (rF [oB 10 true]) .ret) .skip)) (.seq (.seq (rF [oM 24 0,o 25 (.nilchk (.s 24)),oG 26 5 25,oR 27 26,oN 28 27,oI 29 0]) (.block
 0 (.loop (.seq (rF [oC 30 .lss 29 28]) (.seq (.cond (.s 30) .skip (.exit 0)) (.seq (.block 1 (.seq (rF [oM 31 29,oM 11 31]) (.seq (rF [oM 32
 4,oD 33 .gtr 32 0,oM 34 33,gM 34 true 35 0,gM 34 true 36 2,gM 34 true 37 11,og 34 true 38 (.call false (cf 327) [(.s 35),(.s 36),(.s
 37)]),oW 39 34 38,oM 40 39,gM 40 true 41 0,gM 40 true 42 1,gM 40 true 43 0,og 40 true 44 (.nilchk (.s 43)),gG 40 true 45 6 44,gR 40 true
 46 45,gM 40 true 47 11,gI 40 true 48 1 46 47,gR 40 true 49 48,gM 40 true 50 3,gM 40 true 51 4,gD 40 true 52 .sub 51 1,og 40 true 53 (.call
 true (cf 315) [(.s 41),(.s 42),(.s 49),(.s 50),(.s 52)]),oW 54 40 53]) (.cond (.s 54) (.seq (rF [oB 10 true]) .ret) .skip)))) (rF [oD 55
 .add 29 1,oM 29 55]))))))) (.seq (rF [oB 10 false]) .ret))))⟩
def f325:F:=⟨54,false,[.s 6],(.seq (rF [oB 6 false]) (.seq (rT [oM 9 0,oM 10 0,oM 11 1,o 12 (.call false (cf 316) [(.s 10),(.s 11)]),
 o 13 (.nilchk (.s 9)),oG 14 8 13,o 15 (.iaddrA 4 64 (.s 14) (.s 12)),oS 16 64 15,o 7 (.allocL [(.t (.int .u64 0)),(.t (.int .u64 0)),(.t
 (.int .u64 0)),(.t (.int .u64 0)),(.t (.int .u64 0)),(.t (.int .u64 0)),(.t (.int .u64 0)),(.t (.int .u64 0)),(.t (.int .u64 0)),(.t (.int
 .u64 0)),(.t (.int .u64 0)),(.t (.int .u64 0)),(.t (.int .u64 0)),(.t (.int .u64 0)),(.t (.int .u64 0)),(.t (.int .u64 0)),(.t (.int .u64
 0)),(.t (.int .u64 0)),(.t (.int .u64 0)),(.t (.int .u64 0)),(.t (.int .u64 0)),(.t (.int .u64 0)),(.t (.int .u64 0)),(.t (.int .u64 0)),
 (.t (.int .u64 0)),(.t (.int .u64 0)),(.t (.int .u64 0)),(.t (.int .u64 0)),(.t (.int .u64 0)),(.t (.int .u64 0)),(.t (.int .u64 0)),(.t
 (.int .u64 0)),(.t (.int .u64 0)),(.t (.int .u64 0)),(.t (.int .u64 0)),(.t (.int .u64 0)),(.t (.int .u64 0)),(.t (.int .u64 0)),(.t (.int
 .u64 0)),(.t (.int .u64 0)),(.t (.int .u64 0)),(.t (.int .u64 0)),(.t (.int .u64 0)),(.t (.int .u64 0)),(.t (.int .u64 0)),(.t (.int .u64
 0)),(.t (.int .u64 0)),(.t (.int .u64 0)),(.t (.int .u64 0)),(.t (.int .u64 0)),(.t (.int .u64 0)),(.t (.int .u64 0)),(.t (.int .u64 0)),
 (.t (.int .u64 0)),(.t (.int .u64 0)),(.t (.int .u64 0)),(.t (.int .u64 0)),(.t (.int .u64 0)),(.t (.int .u64 0)),(.t (.int .u64 0)),(.t
 (.int .u64 0)),(.t (.int .u64 0)),(.t (.int .u64 0)),(.t (.int .u64 0))]),oP 64 7 16]) (.seq (.seq (rF [oI 17 0]) (.block 0 (.loop (.seq
 (rF [oD 18 .lss 17 64]) (.seq (.cond (.s 18) .skip (.exit 0)) (.seq (.block 1 (.seq (rF [oM 19 17,oM 8 19]) (.seq (rT [oM 20 8,o 21 (.iaddrAL
 64 1 (.s 7) (.s 20)),oL 22 21,oM 23 8,o 24 (.bin .shl (.c (.t (.int .u64 1))) (.s 23)),oC 25 .or 22 24,o 26 (.iaddrAL 64 1 (.s 7) (.s 20)),
 oP 1 26 25]) (.seq (rF [oM 27 1,oM 28 2,oC 29 .eql 27 28]) (.cond (.s 29) (rT [oM 30 8,o 31 (.iaddrAL 64 1 (.s 7) (.s 30)),oL 32 31,oM 33
 8,o 34 (.bin .shl (.c (.t (.int .u64 1))) (.s 33)),oC 35 .andNot 32 34,o 36 (.iaddrAL 64 1 (.s 7) (.s 30)),oP 1 36 35]) .skip))))) (rF [oD
 37 .add 17 1,oM 17 37]))))))) (.seq (rT [oM 38 0,o 39 (.nilchk (.s 38)),oG 40 7 39,oR 41 40,oM 42 1,oA 43 1 41 42,oR 44 43,oM 45 0,o
 46 (.nilchk (.s 45)),oG 47 7 46,oR 48 47,oM 49 2,oA 50 1 48 49,oR 51 50,oK 52 64 7,o 53 (.call false (cf 320) [(.s 44),(.s 51),(.s 52)]),oM 6 53]) .ret))))⟩
def f326:F:=⟨63,true,[],(.seq (rF [oR 10 1,o 11 (.nilchk (.s 10)),oG 12 5 11,oR 13 12,oN 14 13,oI 15 0]) (.block 0 (.loop (.seq (rF
 [oC 16 .lss 15 14]) (.seq (.cond (.s 16) .skip (.exit 0)) (.seq (.block 1 (.seq (rF [oM 17 15,oA 18 4 13 15,oS 19 4 18,o 7 (.allocL [zi,zi,
 zi,zb]),oM 6 17,oP 4 7 19]) (.seq (rF [oR 20 2,oM 21 20,gR 21 true 22 1,gR 21 true 23 3,gM 21 true 24 6,og 21 true 25 (.call false (cf
 327) [(.s 22),(.s 23),(.s 24)]),oW 26 21 25,oM 8 26]) (.seq (rT [oR 27 4,oF 28 0 7,oL 29 28,oC 30 .shr 27 29,oD 31 .and 30 1,oD 32 .eql
 31 0,oM 33 32,gR 33 true 34 1,gR 33 true 35 1,og 33 true 36 (.nilchk (.s 35)),gG 33 true 37 6 36,gR 33 true 38 37,gR 33 true 39 3,gI
 33 true 40 1 38 39,gR 33 true 41 40,gR 33 true 42 1,og 33 true 43 (.nilchk (.s 42)),gG 33 true 44 6 43,gR 33 true 45 44,gM 33 true 46 6,
 gI 33 true 47 1 45 46,gR 33 true 48 47,og 33 true 49 (.call false (cf 321) [(.s 34),(.s 41),(.s 48)]),oW 50 33 49,oM 9 50]) (.seq (rF [oM
 51 8,oM 52 51,gM 52 false 53 9,oV 54 52 53,oM 55 54,gM 55 true 56 0,gM 55 true 57 6,gM 55 true 58 8,og 55 true 59 (.call true (.s 56)
 [(.s 57),(.s 58)]),gT 55 true 60 59,oW 61 55 60]) (.cond (.s 61) .ret .skip)))))) (rF [oD 62 .add 15 1,oM 15 62])))))))⟩
def f327:F:=⟨57,false,[.s 6],(.seq (rF [oB 6 false]) (.seq (rT [oM 9 0,o 10 (.nilchk (.s 9)),oG 11 5 10,oR 12 11,oM 13 1,oA 14 4
 12 13,oS 15 4 14,oM 16 0,o 17 (.nilchk (.s 16)),oG 18 5 17,oR 19 18,oM 20 2,oA 21 4 19 20,oS 22 4 21,o 7 (.allocL [zi,zi,zi,zb]),
 o 8 (.allocL [zi,zi,zi,zb]),oP 4 7 15,oP 4 8 22]) (.seq (rT [oM 23 1,oM 24 2,oC 25 .neq 23 24,oM 26 25,gF 26 true 27 0 7,gL 26 true
 28 27,gF 26 true 29 0 8,gL 26 true 30 29,gC 26 true 31 .eql 28 30,oW 32 26 31,oM 33 32,gF 33 true 34 1 7,gL 33 true 35 34,gF 33 true
 36 1 8,gL 33 true 37 36,gC 33 true 38 .eql 35 37,gM 33 true 39 38,gM 39 false 40 0,gF 39 false 41 0 7,gL 39 false 42 41,gF 39 false 43
 1 7,gL 39 false 44 43,og 39 false 45 (.nilchk (.s 40)),gG 39 false 46 8 45,og 39 false 47 (.iaddrA 4 64 (.s 46) (.s 42)),og 39 false 48
 (.iaddrA 64 1 (.s 47) (.s 44)),gR 39 false 49 48,gF 39 false 50 1 8,gL 39 false 51 50,gC 39 false 52 .shr 49 51,og 39 false 53 (.bin .and
 (.s 52) (.c (.t (.int .u64 1)))),og 39 false 54 (.bin .eql (.s 53) (.c (.t (.int .u64 1)))),og 33 true 55 (.pick (.s 39) (cb true) (.s 54)),oW 56 33 55,oM 6 56]) .ret)))⟩
end Rg
end

/- Part of the proof of the laws of the package relyguardlaw07: an abstract machine for the program's functions, what they compute, and that the machine is the program's. No condition. (Fn1) -/
import Derived.Test.YtamaecmfhphpeaaGreatDoorPartAN
section
namespace Rg
open Go
def f23:F:=⟨11,false,[.s 4],(.seq (rF [oQ 2 4 0,oB 4 false]) (.seq (rF [oK 5 4 2,oM 6 1,oD 7 .add 6 1,o 8 (.call false (cf 47) [(.s
 5),(.s 7)]),oM 9 1,oC 10 .leq 8 9,oM 4 10]) .ret))⟩
def f28:F:=⟨21,false,[.s 2],(.seq (rF [oQ 1 11 0,o 2 (.mv (.c zn))]) (.seq (rF [o 3 (.mv (.c zn))]) (.seq (.seq (rF [oF 6 7 1,oL 7 6,
 oN 8 7,oI 9 0]) (.block 0 (.loop (.seq (rF [oC 10 .lss 9 8]) (.seq (.cond (.s 10) .skip (.exit 0)) (.seq (.block 1 (.seq (rF [oA 11 5 7 9,oS
 12 5 11,o 5 (.allocL [zi,zi,zi,zi,zn]),oP 5 5 12]) (rF [oM 13 3,oF 14 0 5,oL 15 14,o 16 (.bslice 1 1 [zi] [(0,(.s 15))]),o 17 (.append
 1 8 (.s 13) (.s 16)),oM 3 17]))) (rF [oD 18 .add 9 1,oM 9 18]))))))) (.seq (rF [oM 19 3,o 20 (.call true (cf 57) [(.s 19)]),oM 2 20]) .ret))))⟩
def f31:F:=⟨34,false,[.s 2],(.seq (rF [oQ 1 11 0,o 2 (.mv (.c zn))]) (.seq (rF [oF 10 3 1,oK 11 4 10,o 12 (.call true (cf 60) [(.s
 11)]),oM 9 12,oX 13 9 0,oX 14 9 1,oM 3 13,oM 4 14]) (.seq (.seq (rF [oF 15 7 1,oL 16 15,oN 17 16,oI 18 0]) (.block 0 (.loop (.seq (rF
 [oC 19 .lss 18 17]) (.seq (.cond (.s 19) .skip (.exit 0)) (.seq (.block 1 (.seq (rF [oA 20 5 16 18,oS 21 5 20,o 6 (.allocL [zi,zi,zi,zi,
 zn]),oP 5 6 21]) (.seq (rF [oF 23 1 6,oK 24 4 23,o 25 (.call true (cf 60) [(.s 24)]),oM 22 25,oX 26 22 0,oX 27 22 1,oM 7 26,oM 8 27])
 (rF [oM 28 4,oM 29 8,o 30 (.append 1 8 (.s 28) (.s 29)),oM 4 30])))) (rF [oD 31 .add 18 1,oM 18 31]))))))) (.seq (rF [oM 32 4,o 33 (.call
 true (cf 57) [(.s 32)]),oM 2 33]) .ret))))⟩
def f47:F:=⟨33,false,[.s 4],(.seq (rF [oQ 2 4 0,oI 4 0]) (.seq (.seq (rF [oM 7 1,oD 8 .leq 7 0]) (.cond (.s 8) (.seq (rF [oI 4 0]) .ret)
 .skip)) (.seq (rF [oI 5 1]) (.seq (.seq (rF [oI 6 0]) (.block 0 (.loop (.seq (.seq (rF [oM 9 6,oF 10 3 2,oL 11 10,oN 12 11,oC 13 .lss 9 12,
 oM 14 13,gM 14 true 15 5,gM 14 true 16 1,gC 14 true 17 .lss 15 16,oW 18 14 17]) (.cond (.s 18) .skip (.exit 0))) (.seq (.block 1 (rF [oM
 21 5,oF 22 3 2,oL 23 22,oM 24 6,oA 25 4 23 24,oS 26 4 25,oM 27 1,oM 28 5,oC 29 .sub 27 28,o 30 (.call false (cf 47) [(.s 26),(.s 29)]),
 oC 31 .add 21 30,oM 5 31])) (rF [oM 19 6,oD 20 .add 19 1,oM 6 20])))))) (.seq (rF [oM 32 5,oM 4 32]) .ret)))))⟩
def f51:F:=⟨8,false,[.s 2],(.seq (rF [o 1 (.boxH 4 (.s 0)),oB 2 false]) (.seq (rF [o 3 (.allocH [zi]),on (.store 1 (.s 3) (ci 0))])
 (.seq (rF [o 4 (.allocH [(.t .nilf)])]) (.seq (rF [o 5 (.mkfn 70 [] [(.s 3),(.s 4)]),oO 1 4 5]) (.seq (rF [oR 6 4,o 7 (.call true (.s 6) [(.s 1),(ci 1)]),oM 2 7]) .ret)))))⟩
def f57:F:=⟨7,true,[.s 2],(.seq (rF [o 2 (.mv (.c zn))]) (.seq (rF [oM 3 0,o 4 (.call true (cf 74) [(.s 3)])]) (.seq (rF [oM 5 0,o 6
 (.call true (cf 75) [(.s 5)]),oM 2 6]) .ret)))⟩
def f60:F:=⟨15,true,[.s 2, .s 3],(.seq (rF [o 1 (.boxH 4 (.s 0)),o 2 (.mv (.c zn)),o 3 (.mv (.c zn))]) (.seq (.seq (rF [oS 6 4 1,o
 7 (.call false (cf 51) [(.s 6)]),oT 8 7]) (.cond (.s 8) (.seq (rF [o 2 (.mv (.c zn)),o 3 (.mv (.c zn))]) .ret) .skip)) (.seq (rF [o 4 (.allocH
 [zb,zb,zb,zb,zb,zb,zb,zb,zb,zb,zb,zb,zb,zb,zb,zb,zb,zb,zb,zb,zb,zb,zb,zb,zb,zb,zb,zb,zb,zb,zb,zb]),o 5 (.allocH
 [zb,zb,zb,zb,zb,zb,zb,zb,zb,zb,zb,zb,zb,zb,zb,zb,zb,zb,zb,zb,zb,zb,zb,zb,zb,zb,zb,zb,zb,zb,zb,zb])]) (.seq (rF
 [o 9 (.mkfn 77 [] [(.s 4),(.s 5)]),o 10 (.call true (cf 76) [(.s 1),(.s 9)])]) (.seq (rT [oS 11 32 4,o 12 (.fcall (cf 78) [(.s 11)]),oS
 13 32 5,o 14 (.fcall (cf 78) [(.s 13)]),oM 2 12,oM 3 14]) .ret)))))⟩
def f61:F:=⟨8,false,[.l 4 true 4],(.seq (rF [o 4 (.allocL [zi,zi,zi,zn])]) (.seq (rF [oM 5 1,oM 6 0,o 7 (.build [zi,zi,zi,zn]
 [(0,1,(ci 1)),(1,1,(.s 5)),(2,1,(.s 6))]),oP 4 4 7]) .ret))⟩
def f62:F:=⟨8,false,[.l 4 true 4],(.seq (rF [o 4 (.allocL [zi,zi,zi,zn])]) (.seq (rF [oM 5 1,oM 6 0,o 7 (.build [zi,zi,zi,zn]
 [(0,1,(ci 2)),(1,1,(.s 5)),(2,1,(.s 6))]),oP 4 4 7]) .ret))⟩
def f63:F:=⟨15,false,[.l 8 true 4],(.seq (rF [oQ 6 4 2,oQ 7 4 3,o 8 (.allocL [zi,zi,zi,zn])]) (.seq (rF [oM 9 0,oM 10 1,oK 11 4
 6,oK 12 4 7,o 13 (.bslice 4 2 [zi,zi,zi,zn] [(0,(.s 11)),(1,(.s 12))]),o 14 (.build [zi,zi,zi,zn] [(0,1,(.s 9)),(1,1,(.s 10)),
 (3,1,(.s 13))]),oP 4 8 14]) .ret))⟩
def f64:F:=⟨66,false,[.s 2, .s 3, .s 4],(.seq (rF [oQ 1 4 0,oI 2 0,oI 3 0,oI 4 0]) (.seq (rF [oK 16 4 1,o 17 (.build [zn,zn,zn,
 zn] [(0,4,(.s 16))]),o 5 (.allocL [zn,zn,zn,zn]),oP 4 5 17]) (.seq (.seq (rF [oK 19 4 5,o 20 (.call false (cf 79) [(.s 19)]),oM 18 20,
 oX 21 18 0,oX 22 18 1,oM 6 21,oM 7 22]) (.seq (rF [oM 23 6,oD 24 .neq 23 0]) (.cond (.s 24) (.seq (rF [oM 25 6,oM 26 7,oM 2 25,oM 3 26,
 oI 4 (-1)]) .ret) .skip))) (.seq (.seq (rF [oK 27 4 5,o 28 (.mkfn 80 [(.s 27)] []),oK 29 4 5,o 30 (.mkfn 81 [(.s 29)] []),oK 31 4 5,o 32
 (.mkfn 82 [(.s 31)] []),o 33 (.build [(.t .nilf),(.t .nilf),(.t .nilf)] [(0,1,(.s 28)),(1,1,(.s 30)),(2,1,(.s 32))]),oI 34 0]) (.block
 0 (.loop (.seq (rF [oD 35 .lss 34 3]) (.seq (.cond (.s 35) .skip (.exit 0)) (.seq (.block 1 (.seq (rF [o 36 (.idxA false 3 1 (.s 33) (.s 34)),
 oM 9 36]) (.seq (rF [oM 37 9,o 38 (.call false (.s 37) []),oM 10 38]) (.seq (rF [oM 39 10,oD 40 .neq 39 0]) (.cond (.s 40) (.seq (rF [oM 41
 10,oM 2 41,oI 3 (-1),oI 4 (-1)]) .ret) .skip))))) (rF [oD 42 .add 34 1,oM 34 42]))))))) (.seq (rF [o 43 (.mkmap),oM 11 43]) (.seq (.seq
 (rF [oF 44 3 1,oL 45 44,oN 46 45,oI 47 0]) (.block 2 (.loop (.seq (rF [oC 48 .lss 47 46]) (.seq (.cond (.s 48) .skip (.exit 2)) (.seq (.block
 3 (.seq (rF [oM 49 47,oA 50 7 45 47,oS 51 7 50,o 13 (.allocL [ze,zi,zn,zn,zn,zn,zb]),oM 12 49,oP 7 13 51]) (.seq (rF [oK 53 4 5,oM
 54 12,oK 55 7 13,oM 56 11,o 57 (.call true (cf 83) [(.s 53),(.s 54),(.s 55),(.s 56)]),oM 52 57,oX 58 52 0,oX 59 52 1,oM 14 58,oM 15
 59]) (.seq (rF [oM 60 14,oD 61 .neq 60 0]) (.cond (.s 61) (.seq (rF [oM 62 14,oM 63 12,oM 64 15,oM 2 62,oM 3 63,oM 4 64]) .ret) .skip)))))
 (rF [oD 65 .add 47 1,oM 47 65]))))))) (.seq (rF [oI 2 0,oI 3 (-1),oI 4 (-1)]) .ret)))))))⟩
def f70:F:=⟨41,true,[.s 6],(.seq (rF [oB 6 false]) (.seq (rF [oR 8 2,oD 9 .add 8 1,oO 1 2 9]) (.seq (.seq (rF [oR 10 2,oD 11 .gtr 10
 600,oM 12 11,gM 12 false 13 1,gD 12 false 14 .gtr 13 40,oV 15 12 14,oM 16 15,gM 16 false 17 0,og 16 false 18 (.call false (cf 71) [(.s
 17)]),gT 16 false 19 18,oV 20 16 19]) (.cond (.s 20) (.seq (rF [oB 6 false]) .ret) .skip)) (.seq (.seq (rF [oM 21 0,o 22 (.nilchk (.s 21)),
 oG 23 3 22,oR 24 23,oN 25 24,oI 26 0]) (.block 0 (.loop (.seq (rF [oC 27 .lss 26 25]) (.seq (.cond (.s 27) .skip (.exit 0)) (.seq (.block
 1 (.seq (rF [oM 28 26,oM 7 28]) (.seq (rT [oR 29 3,oM 30 0,o 31 (.nilchk (.s 30)),oG 32 3 31,oR 33 32,oM 34 7,oA 35 4 33 34,oM 36 1,
 oD 37 .add 36 1,o 38 (.call true (.s 29) [(.s 35),(.s 37)]),oT 39 38]) (.cond (.s 39) (.seq (rF [oB 6 false]) .ret) .skip)))) (rF [oD 40 .add
 26 1,oM 26 40]))))))) (.seq (rF [oB 6 true]) .ret)))))⟩
def f71:F:=⟨162,false,[.s 2],(.seq (rF [oB 2 false]) (.seq (.seq (rF [oM 3 0,o 4 (.nilchk (.s 3)),oG 5 1 4,oR 6 5,oD 7 .lss 6 1,oM
 8 7,gM 8 false 9 0,og 8 false 10 (.nilchk (.s 9)),gG 8 false 11 1 10,gR 8 false 12 11,gD 8 false 13 .gtr 12 8,oV 14 8 13]) (.cond (.s 14)
 (.seq (rF [oB 2 false]) .ret) .skip)) (.seq (.seq (rF [oM 15 0,o 16 (.nilchk (.s 15)),oG 17 0 16,oR 18 17]) (.block 0 (.seq (rF [oD 20 .eql
 18 1,oM 19 20]) (.cond (.s 19) (.seq (rT [oM 21 0,o 22 (.nilchk (.s 21)),oG 23 3 22,oR 24 23,oN 25 24,oD 26 .eql 25 0,oM 27 26,gM 27
 true 28 0,og 27 true 29 (.nilchk (.s 28)),gG 27 true 30 2 29,gR 27 true 31 30,gD 27 true 32 .geq 31 0,oW 33 27 32,oM 34 33,gM 34 true
 35 0,og 34 true 36 (.nilchk (.s 35)),gG 34 true 37 2 36,gR 34 true 38 37,gM 34 true 39 0,og 34 true 40 (.nilchk (.s 39)),gG 34 true 41
 1 40,gR 34 true 42 41,og 34 true 43 (.iaddrA 9 1 (.g 0) (.s 42)),gR 34 true 44 43,gC 34 true 45 .leq 38 44,oW 46 34 45,oM 2 46]) .ret)
 (.seq (.seq (rF [oD 48 .eql 18 2,oM 47 48]) (.cond (.s 47) .skip (rF [oD 49 .eql 18 3,oM 47 49]))) (.cond (.s 47) (.seq (rF [oM 50 0,o 51
 (.nilchk (.s 50)),oG 52 3 51,oR 53 52,oN 54 53,oD 55 .eql 54 0,oM 56 55,gM 56 true 57 0,og 56 true 58 (.nilchk (.s 57)),gG 56 true 59
 2 58,gR 56 true 60 59,gD 56 true 61 .geq 60 0,oW 62 56 61,oM 63 62,gM 63 true 64 0,og 63 true 65 (.nilchk (.s 64)),gG 63 true 66 2 65,
 gR 63 true 67 66,gD 63 true 68 .lss 67 32,oW 69 63 68,oM 2 69]) .ret) .skip)))))) (.seq (.seq (rF [oM 70 0,o 71 (.nilchk (.s 70)),oG 72
 2 71,oR 73 72,oD 74 .neq 73 0]) (.cond (.s 74) (.seq (rF [oB 2 false]) .ret) .skip)) (.seq (.seq (rF [oM 75 0,o 76 (.nilchk (.s 75)),oG 77
 0 76,oR 78 77]) (.block 1 (.seq (rF [oD 80 .eql 78 4,oM 79 80]) (.cond (.s 79) (.seq (rT [oM 81 0,o 82 (.nilchk (.s 81)),oG 83 3 82,oR 84
 83,oM 85 0,o 86 (.nilchk (.s 85)),oG 87 1 86,oR 88 87,o 89 (.bslice 1 1 [zi] [(0,(.s 88))]),o 90 (.call false (cf 91) [(.s 84),(.s 89)]),
 oM 2 90]) .ret) (.seq (.seq (rF [oD 92 .eql 78 5,oM 91 92]) (.cond (.s 91) .skip (.seq (rF [oD 93 .eql 78 6,oM 91 93]) (.cond (.s 91) .skip
 (.seq (rF [oD 94 .eql 78 7,oM 91 94]) (.cond (.s 91) .skip (.seq (rF [oD 95 .eql 78 8,oM 91 95]) (.cond (.s 91) .skip (.seq (rF [oD 96 .eql
 78 9,oM 91 96]) (.cond (.s 91) .skip (rF [oD 97 .eql 78 10,oM 91 97]))))))))))) (.cond (.s 91) (.seq (rT [oM 98 0,o 99 (.nilchk (.s 98)),
 oG 100 3 99,oR 101 100,oM 102 0,o 103 (.nilchk (.s 102)),oG 104 1 103,oR 105 104,oM 106 0,o 107 (.nilchk (.s 106)),oG 108 1 107,oR 109
 108,o 110 (.bslice 1 2 [zi] [(0,(.s 105)),(1,(.s 109))]),o 111 (.call false (cf 91) [(.s 101),(.s 110)]),oM 2 111]) .ret) (.seq (.seq
 (rF [oD 113 .eql 78 11,oM 112 113]) (.cond (.s 112) .skip (.seq (rF [oD 114 .eql 78 12,oM 112 114]) (.cond (.s 112) .skip (rF [oD 115 .eql
 78 13,oM 112 115]))))) (.cond (.s 112) (.seq (rT [oM 116 0,o 117 (.nilchk (.s 116)),oG 118 1 117,oR 119 118,oD 120 .eql 119 1,oM 121 120,
 gM 121 true 122 0,og 121 true 123 (.nilchk (.s 122)),gG 121 true 124 3 123,gR 121 true 125 124,gN 121 true 126 125,gD 121 true 127 .eql
 126 2,oW 128 121 127,oM 129 128,gM 129 true 130 0,og 129 true 131 (.nilchk (.s 130)),gG 129 true 132 3 131,gR 129 true 133 132,og 129
 true 134 (.iaddrS 4 (.s 133) (ci 0)),gG 129 true 135 1 134,gR 129 true 136 135,gM 129 true 137 0,og 129 true 138 (.nilchk (.s 137)),gG 129
 true 139 3 138,gR 129 true 140 139,og 129 true 141 (.iaddrS 4 (.s 140) (ci 1)),gG 129 true 142 1 141,gR 129 true 143 142,gC 129 true 144
 .eql 136 143,oW 145 129 144,oM 2 145]) .ret) (.seq (rF [oD 147 .eql 78 14,oM 146 147]) (.cond (.s 146) (.seq (rT [oM 148 0,o 149 (.nilchk
 (.s 148)),oG 150 3 149,oR 151 150,oM 152 0,o 153 (.nilchk (.s 152)),oG 154 1 153,oR 155 154,oM 156 0,o 157 (.nilchk (.s 156)),oG 158
 1 157,oR 159 158,o 160 (.bslice 1 3 [zi] [(0,(ci 1)),(1,(.s 155)),(2,(.s 159))]),o 161 (.call false (cf 91) [(.s 151),(.s 160)]),oM
 2 161]) .ret) .skip)))))))))) (.seq (rF [oB 2 false]) .ret))))))⟩
def f74:F:=⟨1,true,[], .ext .sortI⟩
def f75:F:=⟨1,true,[], .ext .compactI⟩
def f76:F:=⟨31,true,[],(.seq (.seq (rF [oM 5 0,o 6 (.nilchk (.s 5)),oG 7 3 6,oR 8 7,oN 9 8,oD 10 .eql 9 0]) (.cond (.s 10) (rF [oM
 11 1,oM 12 0,o 13 (.call true (.s 11) [(.s 12)])]) .skip)) (.seq (rF [oM 14 0,o 15 (.nilchk (.s 14)),oG 16 3 15,oR 17 16,oN 18 17,oI 19
 0]) (.block 0 (.loop (.seq (rF [oC 20 .lss 19 18]) (.seq (.cond (.s 20) .skip (.exit 0)) (.seq (.block 1 (.seq (rF [oM 21 19,oM 4 21]) (rF [oM
 22 0,o 23 (.nilchk (.s 22)),oG 24 3 23,oR 25 24,oM 26 4,oA 27 4 25 26,oM 28 1,o 29 (.call true (cf 76) [(.s 27),(.s 28)])]))) (rF [oD 30 .add 19 1,oM 19 30]))))))))⟩
def f77:F:=⟨22,true,[],(.seq (rF [oM 4 0,o 5 (.nilchk (.s 4)),oG 6 0 5,oR 7 6]) (.block 0 (.seq (rF [oD 9 .eql 7 3,oM 8 9]) (.cond
 (.s 8) (rF [oM 10 0,o 11 (.nilchk (.s 10)),oG 12 2 11,oR 13 12,o 14 (.iaddrA 32 1 (.s 1) (.s 13)),on (.store 1 (.s 14) (cb true))]) (.seq
 (rF [oD 16 .eql 7 2,oM 15 16]) (.cond (.s 15) (rF [oM 17 0,o 18 (.nilchk (.s 17)),oG 19 2 18,oR 20 19,o 21 (.iaddrA 32 1 (.s 2) (.s 20)),
 on (.store 1 (.s 21) (cb true))]) .skip))))))⟩
def f78:F:=⟨18,true,[.s 2],(.seq (rF [oQ 1 32 0,o 2 (.mv (.c zn))]) (.seq (rF [o 3 (.mv (.c zn))]) (.seq (.seq (rF [oK 6 32 1,oI 7 0])
 (.block 0 (.loop (.seq (rF [oD 8 .lss 7 32]) (.seq (.cond (.s 8) .skip (.exit 0)) (.seq (.block 1 (.seq (rF [oM 9 7,o 10 (.idxA false 32 1 (.s
 6) (.s 7)),oM 4 9,oM 5 10]) (.seq (rF [oM 11 5]) (.cond (.s 11) (rF [oM 12 3,oM 13 4,o 14 (.bslice 1 1 [zi] [(0,(.s 13))]),o 15 (.append
 1 8 (.s 12) (.s 14)),oM 3 15]) .skip)))) (rF [oD 16 .add 7 1,oM 7 16]))))))) (.seq (rF [oM 17 3,oM 2 17]) .ret))))⟩
def f79:F:=⟨56,false,[.s 2, .s 3],(.seq (rF [oQ 1 4 0,oI 2 0,oI 3 0]) (.seq (rF [oF 7 0 1,oK 8 4 7,o 4 (.allocL [zn,zn,zn,zn]),
 oP 4 4 8]) (.seq (.seq (rF [oF 9 0 4,oL 10 9,oN 11 10,oD 12 .gtr 11 32,oM 13 12,gF 13 false 14 1 4,gL 13 false 15 14,gN 13 false 16 15,
 gD 13 false 17 .gtr 16 6,oV 18 13 17,oM 19 18,gF 19 false 20 2 4,gL 19 false 21 20,gN 19 false 22 21,gD 19 false 23 .gtr 22 4,oV 24 19
 23,oM 25 24,gF 25 false 26 3 4,gL 25 false 27 26,gN 25 false 28 27,gD 25 false 29 .gtr 28 4,oV 30 25 29]) (.cond (.s 30) (.seq (rF [oI
 2 2,oI 3 (-1)]) .ret) .skip)) (.seq (.seq (rF [oF 31 3 4,oL 32 31,oN 33 32,oI 34 0]) (.block 0 (.loop (.seq (rF [oC 35 .lss 34 33]) (.seq
 (.cond (.s 35) .skip (.exit 0)) (.seq (.block 1 (.seq (rF [oM 36 34,oA 37 7 32 34,oS 38 7 37,o 6 (.allocL [ze,zi,zn,zn,zn,zn,zb]),oM
 5 36,oP 7 6 38]) (.seq (rF [oF 39 1 6,oL 40 39,oD 41 .gtr 40 48,oM 42 41,gF 42 false 43 4 6,gL 42 false 44 43,gN 42 false 45 44,gD 42
 false 46 .gtr 45 64,oV 47 42 46,oM 48 47,gF 48 false 49 5 6,gL 48 false 50 49,gN 48 false 51 50,gD 48 false 52 .gtr 51 8,oV 53 48 52])
 (.cond (.s 53) (.seq (rF [oM 54 5,oI 2 2,oM 3 54]) .ret) .skip)))) (rF [oD 55 .add 34 1,oM 34 55]))))))) (.seq (rF [oI 2 0,oI 3 (-1)]) .ret)))))⟩
def f80:F:=⟨62,false,[.s 2],(.seq (rF [oQ 1 4 0,oI 2 0]) (.seq (rF [o 6 (.mkmap),oM 3 6]) (.seq (.seq (rF [oF 7 0 1,oF 8 0 7,oL 9
 8,oN 10 9,oI 11 0]) (.block 0 (.loop (.seq (rF [oC 12 .lss 11 10]) (.seq (.cond (.s 12) .skip (.exit 0)) (.seq (.block 1 (.seq (rF [oA 13 6
 9 11,oS 14 6 13,o 5 (.allocL [ze,zi,zi,zi,zb,zi]),oP 6 5 14]) (.block 2 (.seq (.seq (rF [oF 16 0 5,oL 17 16,o 18 (.call false (cf 95)
 [(.s 17)]),oT 19 18,oM 15 19]) (.cond (.s 15) .skip (.seq (rF [oF 20 1 5,oL 21 20,oD 22 .lss 21 1,oM 15 22]) (.cond (.s 15) .skip (.seq
 (rF [oF 23 1 5,oL 24 23,oD 25 .gtr 24 8,oM 15 25]) (.cond (.s 15) .skip (rF [oF 26 2 5,oL 27 26,oF 28 1 5,oL 29 28,o 30 (.conv .u64 (.s
 29)),o 31 (.bin .shl (ci 1) (.s 30)),o 32 (.call false (cf 96) [(.s 27),(.s 31)]),oT 33 32,oM 15 33]))))))) (.cond (.s 15) (.seq (rF [oI
 2 1]) .ret) (.seq (.seq (rF [oF 35 3 5,oL 36 35,oD 37 .neq 36 (-1),oM 38 37,gF 38 true 39 3 5,gL 38 true 40 39,gF 38 true 41 0 1,gF 38
 true 42 3 41,gL 38 true 43 42,gN 38 true 44 43,og 38 true 45 (.call false (cf 96) [(.s 40),(.s 44)]),gT 38 true 46 45,oW 47 38 46,oM 34
 47]) (.cond (.s 34) .skip (rF [oF 48 5 5,oL 49 48,oF 50 0 1,oF 51 1 50,oL 52 51,oN 53 52,o 54 (.call false (cf 96) [(.s 49),(.s 53)]),
 oT 55 54,oM 34 55]))) (.cond (.s 34) (.seq (rF [oI 2 1]) .ret) (.seq (rF [oM 57 3,oF 58 0 5,oL 59 58,o 60 (.call true (cf 97) [(.s 57),(.s
 59)]),oM 56 60]) (.cond (.s 56) (.seq (rF [oI 2 41]) .ret) .skip))))))))) (rF [oD 61 .add 11 1,oM 11 61]))))))) (.seq (rF [oI 2 0]) .ret))))⟩
def f81:F:=⟨62,false,[.s 2],(.seq (rF [oQ 1 4 0,oI 2 0]) (.seq (rF [o 6 (.mkmap),oM 3 6]) (.seq (.seq (rF [oF 7 0 1,oF 8 1 7,oL 9
 8,oN 10 9,oI 11 0]) (.block 0 (.loop (.seq (rF [oC 12 .lss 11 10]) (.seq (.cond (.s 12) .skip (.exit 0)) (.seq (.block 1 (.seq (rF [oA 13 11
 9 11,oS 14 11 13,o 5 (.allocL [ze,ze,zi,zi,zi,zn,zi,zi,zi,zn,zn]),oP 11 5 14]) (.block 2 (.seq (.seq (rF [oF 16 0 5,oL 17 16,o
 18 (.call false (cf 95) [(.s 17)]),oT 19 18,oM 15 19]) (.cond (.s 15) .skip (rF [oF 20 1 5,oL 21 20,o 22 (.call false (cf 95) [(.s 21)]),
 oT 23 22,oM 15 23]))) (.cond (.s 15) (.seq (rF [oI 2 1]) .ret) (.seq (rF [oM 25 3,oF 26 0 5,oL 27 26,o 28 (.call true (cf 97) [(.s 25),(.s
 27)]),oM 24 28]) (.cond (.s 24) (.seq (rF [oI 2 41]) .ret) (.seq (.seq (rF [oF 30 2 5,oK 31 4 30,o 32 (.call false (cf 98) [(.s 31)]),oT
 33 32,oM 34 33,gK 34 true 35 4 1,gF 34 true 36 2 5,gK 34 true 37 4 36,gK 34 true 38 4 1,og 34 true 39 (.mkfn 100 [(.s 38)] []),og 34 true
 40 (.call false (cf 99) [(.s 35),(.s 37),(cb true),(.s 39)]),gT 34 true 41 40,oW 42 34 41,oM 29 42]) (.cond (.s 29) .skip (rF [oK 43 4
 1,oF 44 6 5,oK 45 4 44,oK 46 4 1,o 47 (.mkfn 100 [(.s 46)] []),o 48 (.call false (cf 99) [(.s 43),(.s 45),(cb true),(.s 47)]),oT 49
 48,oM 29 49]))) (.cond (.s 29) (.seq (rF [oI 2 60]) .ret) (.seq (.seq (rF [oF 51 10 5,oL 52 51,o 53 (.call false (cf 101) [(.s 52)]),oT 54
 53,oM 50 54]) (.cond (.s 50) .skip (rF [oF 55 10 5,oL 56 55,oK 57 4 1,o 58 (.mkfn 100 [(.s 57)] []),o 59 (.call false (cf 102) [(.s 56),
 (.s 58)]),oT 60 59,oM 50 60]))) (.cond (.s 50) (.seq (rF [oI 2 1]) .ret) .skip))))))))))) (rF [oD 61 .add 11 1,oM 11 61]))))))) (.seq (rF [oI 2 0]) .ret))))⟩
def f82:F:=⟨73,false,[.s 2],(.seq (rF [oQ 1 4 0,oI 2 0]) (.seq (rF [o 8 (.mkmap),oM 3 8]) (.seq (.seq (rF [oF 9 0 1,oF 10 2 9,oL 11
 10,oN 12 11,oI 13 0]) (.block 0 (.loop (.seq (rF [oC 14 .lss 13 12]) (.seq (.cond (.s 14) .skip (.exit 0)) (.seq (.block 1 (.seq (rF [oA 15
 6 11 13,oS 16 6 15,o 5 (.allocL [zi,zi,zi,zi,zn,zi]),oP 6 5 16]) (.seq (.seq (rF [oK 17 4 1,oF 18 0 5,oL 19 18,o 20 (.call false (cf
 100) [(.s 17),(.s 19)]),oT 21 20,oM 22 21,gF 22 false 23 0 1,gF 22 false 24 0 23,gL 22 false 25 24,gF 22 false 26 0 5,gL 22 false 27
 26,gI 22 false 28 6 25 27,gG 22 false 29 1 28,gR 22 false 30 29,gD 22 false 31 .neq 30 1,oV 32 22 31,oM 33 32,gF 33 false 34 0 1,gF 33
 false 35 0 34,gL 33 false 36 35,gF 33 false 37 0 5,gL 33 false 38 37,gI 33 false 39 6 36 38,gG 33 false 40 4 39,gR 33 false 41 40,oV 42
 33 41]) (.cond (.s 42) (.seq (rF [oI 2 1]) .ret) .skip)) (.seq (.seq (rF [oM 44 3,oF 45 0 5,oL 46 45,o 47 (.lookup 0 (.agg []) true (.s 44)
 (.s 46)),oM 43 47,oX 48 43 0,oX 49 43 1,o 6 (.allocL []),oP 0 6 48,oM 7 49]) (.seq (rF [oM 50 7,oM 51 50,gF 51 false 52 5 5,gL 51 false
 53 52,gF 51 false 54 0 1,gF 51 false 55 1 54,gL 51 false 56 55,gN 51 false 57 56,og 51 false 58 (.call false (cf 96) [(.s 53),(.s 57)]),
 gT 51 false 59 58,oV 60 51 59]) (.cond (.s 60) (.seq (rF [oI 2 1]) .ret) .skip))) (.seq (rF [oM 61 3,oF 62 0 5,oL 63 62,o 64 (.build [] []),
 on (.mapupd 0 (.s 61) (.s 63) (.s 64))]) (.seq (rF [oK 65 4 1,oF 66 1 5,oK 67 4 66,oK 68 4 1,o 69 (.mkfn 100 [(.s 68)] []),o 70 (.call false
 (cf 99) [(.s 65),(.s 67),(cb false),(.s 69)]),oT 71 70]) (.cond (.s 71) (.seq (rF [oI 2 60]) .ret) .skip))))))) (rF [oD 72 .add 13 1,oM
 13 72]))))))) (.seq (rF [oI 2 0]) .ret))))⟩
def f83:F:=⟨123,true,[.s 8, .s 9],(.seq (rF [o 4 (.boxH 4 (.s 0)),o 6 (.boxH 7 (.s 2)),oI 8 0,oI 9 0]) (.seq (.block 0 (.seq (rF [oG
 20 0 6,oR 21 20,o 22 (.call false (cf 95) [(.s 21)]),oT 23 22,oM 19 23]) (.cond (.s 19) (.seq (rF [oI 8 1,oI 9 (-1)]) .ret) (.seq (rF [oM
 25 3,oG 26 0 6,oR 27 26,o 28 (.call true (cf 97) [(.s 25),(.s 27)]),oM 24 28]) (.cond (.s 24) (.seq (rF [oI 8 41,oI 9 (-1)]) .ret) (.seq
 (.seq (rF [oG 30 1 6,oR 31 30,oD 32 .lss 31 1,oM 29 32]) (.cond (.s 29) .skip (.seq (rF [oG 33 2 6,oR 34 33,oN 35 34,oG 36 1 6,oR 37 36,
 oC 38 .neq 35 37,oM 29 38]) (.cond (.s 29) .skip (rF [oG 39 3 6,oR 40 39,oN 41 40,oG 42 1 6,oR 43 42,oC 44 .neq 41 43,oM 29 44]))))) (.cond
 (.s 29) (.seq (rF [oI 8 1,oI 9 (-1)]) .ret) (.seq (rF [oG 46 3 6,oR 47 46,o 48 (.mkfn 103 [] [(.s 4)]),o 49 (.call false (cf 102) [(.s 47),
 (.s 48)]),oT 50 49,oM 45 50]) (.cond (.s 45) (.seq (rF [oI 8 1,oI 9 (-1)]) .ret) .skip))))))))) (.seq (rF [oS 51 4 4,oM 52 1,o 53 (.call
 false (cf 104) [(.s 51),(.s 52)]),oM 10 53]) (.seq (.seq (rF [oG 54 2 6,oR 55 54,oN 56 55,oI 57 0]) (.block 1 (.loop (.seq (rF [oC 58 .lss
 57 56]) (.seq (.cond (.s 58) .skip (.exit 1)) (.seq (.block 2 (.seq (rF [oA 59 4 55 57,oS 60 4 59,o 12 (.allocL [zi,zi,zi,zn]),oP 4 12
 60]) (.seq (rF [oS 61 4 4,oK 62 4 12,oM 63 10,o 64 (.call false (cf 99) [(.s 61),(.s 62),(cb false),(.s 63)]),oT 65 64]) (.cond (.s 65)
 (.seq (rF [oI 8 60,oI 9 (-1)]) .ret) .skip)))) (rF [oD 66 .add 57 1,oM 57 66]))))))) (.seq (.seq (rF [oG 67 4 6,oR 68 67,oN 69 68,oI 70
 0]) (.block 3 (.loop (.seq (rF [oC 71 .lss 70 69]) (.seq (.cond (.s 71) .skip (.exit 3)) (.seq (.block 4 (.seq (rF [oM 72 70,oA 73 11 68 70,
 oS 74 11 73,o 14 (.allocL [zi,zi,zi,zi,zi,zi,zn,zn,zb,zi,zi]),oM 13 72,oP 11 14 74]) (.seq (rF [oS 75 4 4,oM 76 1,oS 77 7 6,oK
 78 11 14,o 79 (.call false (cf 105) [(.s 75),(.s 76),(.s 77),(.s 78)]),oM 15 79]) (.seq (rF [oM 80 15,oD 81 .neq 80 0]) (.cond (.s 81)
 (.seq (rF [oM 82 15,oM 83 13,oM 8 82,oM 9 83]) .ret) .skip))))) (rF [oD 84 .add 70 1,oM 70 84]))))))) (.seq (.seq (rF [oG 85 5 6,oR 86 85,
 oN 87 86,oI 88 0]) (.block 5 (.loop (.seq (rF [oC 89 .lss 88 87]) (.seq (.cond (.s 89) .skip (.exit 5)) (.seq (.block 6 (.seq (rF [oA 90 6 86
 88,oS 91 6 90,o 17 (.allocH [zi,zn,zi,zi,zi,zn]),oO 6 17 91]) (.seq (rF [o 92 (.mkfn 106 [] [(.s 6),(.s 17)]),oM 18 92]) (.block 7
 (.seq (.seq (rF [oG 94 0 17,oR 95 94,oG 96 1 6,oR 97 96,o 98 (.call false (cf 96) [(.s 95),(.s 97)]),oT 99 98,oM 93 99]) (.cond (.s 93)
 .skip (.seq (rF [oG 100 1 17,oR 101 100,o 102 (.call false (cf 101) [(.s 101)]),oT 103 102,oM 93 103]) (.cond (.s 93) .skip (rF [oG 104 1
 17,oR 105 104,oM 106 18,o 107 (.call false (cf 102) [(.s 105),(.s 106)]),oT 108 107,oM 93 108]))))) (.cond (.s 93) (.seq (rF [oI 8 1,oI
 9 (-1)]) .ret) (.seq (.seq (rF [oG 110 2 17,oS 111 4 110,oG 112 0 4,oG 113 0 112,oR 114 113,o 115 (.call false (cf 107) [(.s 111),(.s 114),
 (cb false)]),oT 116 115,oM 109 116]) (.cond (.s 109) .skip (rF [oG 117 2 17,oS 118 4 117,oM 119 10,o 120 (.call false (cf 108) [(.s 118),
 (.s 119)]),oT 121 120,oM 109 121]))) (.cond (.s 109) (.seq (rF [oI 8 60,oI 9 (-1)]) .ret) .skip)))))))) (rF [oD 122 .add 88 1,oM 88 122])))))))
 (.seq (rF [oI 8 0,oI 9 (-1)]) .ret)))))))⟩
def f91:F:=⟨27,false,[.s 4],(.seq (rF [oB 4 false]) (.seq (.seq (rF [oM 7 0,oN 8 7,oM 9 1,oN 10 9,oC 11 .neq 8 10]) (.cond (.s 11)
 (.seq (rF [oB 4 false]) .ret) .skip)) (.seq (.seq (rF [oM 12 1,oN 13 12,oI 14 0]) (.block 0 (.loop (.seq (rF [oC 15 .lss 14 13]) (.seq (.cond
 (.s 15) .skip (.exit 0)) (.seq (.block 1 (.seq (rF [oM 16 14,oA 17 1 12 14,oR 18 17,oM 5 16,oM 6 18]) (.seq (rF [oM 19 0,oM 20 5,oA 21
 4 19 20,oG 22 1 21,oR 23 22,oM 24 6,oC 25 .neq 23 24]) (.cond (.s 25) (.seq (rF [oB 4 false]) .ret) .skip)))) (rF [oD 26 .add 14 1,oM 14
 26]))))))) (.seq (rF [oB 4 true]) .ret))))⟩
def f95:F:=⟨28,false,[.s 2],(.seq (rF [oB 2 false]) (.seq (.seq (rF [oM 4 0,o 5 (.slen (.s 4)),oD 6 .lss 5 1,oM 7 6,gM 7 false 8 0,
 og 7 false 9 (.slen (.s 8)),gD 7 false 10 .gtr 9 64,oV 11 7 10]) (.cond (.s 11) (.seq (rF [oB 2 false]) .ret) .skip)) (.seq (.seq (rF [oM 12
 0,o 13 (.slen (.s 12)),oI 14 0]) (.block 0 (.loop (.seq (rF [oC 15 .lss 14 13]) (.seq (.cond (.s 15) .skip (.exit 0)) (.seq (.block 1 (.seq
 (rF [oM 16 14,oM 3 16]) (.seq (rF [oM 17 0,oM 18 3,o 19 (.idxS (.s 17) (.s 18)),o 20 (.bin .lss (.s 19) (.c (.t (.int .u8 33)))),oM 21 20,
 gM 21 false 22 0,gM 21 false 23 3,og 21 false 24 (.idxS (.s 22) (.s 23)),og 21 false 25 (.bin .gtr (.s 24) (.c (.t (.int .u8 126)))),oV 26
 21 25]) (.cond (.s 26) (.seq (rF [oB 2 false]) .ret) .skip)))) (rF [oD 27 .add 14 1,oM 14 27]))))))) (.seq (rF [oB 2 true]) .ret))))⟩
def f96:F:=⟨12,false,[.s 4],(.seq (rF [oB 4 false]) (.seq (rF [oM 5 0,oD 6 .geq 5 0,oM 7 6,gM 7 true 8 0,gM 7 true 9 1,gC 7 true
 10 .lss 8 9,oW 11 7 10,oM 4 11]) .ret))⟩
def f97:F:=⟨17,true,[.s 4],(.seq (rF [oB 4 false]) (.seq (rF [oM 8 0,oM 9 1,o 10 (.lookup 2 (.agg []) true (.s 8) (.s 9)),oM 7 10,
 oX 11 7 0,oX 12 7 1,o 5 (.allocL []),oP 0 5 11,oM 6 12]) (.seq (rF [oM 13 0,oM 14 1,o 15 (.build [] []),on (.mapupd 2 (.s 13) (.s 14)
 (.s 15))]) (.seq (rF [oM 16 6,oM 4 16]) .ret))))⟩
def f98:F:=⟨22,false,[.s 2],(.seq (rF [oQ 1 4 0,oB 2 false]) (.seq (rF [oF 3 0 1,oL 4 3,oD 5 .eql 4 0,oM 6 5,gF 6 true 7 1 1,gL
 6 true 8 7,gD 6 true 9 .eql 8 0,oW 10 6 9,oM 11 10,gF 11 true 12 2 1,gL 11 true 13 12,gD 11 true 14 .eql 13 0,oW 15 11 14,oM 16 15,gF
 16 true 17 3 1,gL 16 true 18 17,gN 16 true 19 18,gD 16 true 20 .eql 19 0,oW 21 16 20,oM 2 21]) .ret))⟩
def f99:F:=⟨25,false,[.s 8],(.seq (rF [oQ 4 4 0,oQ 5 4 1,oB 8 false]) (.seq (rF [oF 9 1 5,oL 10 9,oD 11 .eql 10 1,oM 12 11,gK 12
 true 13 4 5,gF 12 true 14 0 4,gF 12 true 15 0 14,gL 12 true 16 15,gM 12 true 17 2,og 12 true 18 (.call false (cf 107) [(.s 13),(.s 16),
 (.s 17)]),oW 19 12 18,oM 20 19,gK 20 true 21 4 5,gM 20 true 22 3,og 20 true 23 (.call false (cf 108) [(.s 21),(.s 22)]),oW 24 20 23,oM 8 24]) .ret))⟩
def f100:F:=⟨21,false,[.s 4],(.seq (rF [oQ 2 4 0,oB 4 false]) (.seq (rF [oM 5 1,oF 6 0 2,oF 7 0 6,oL 8 7,oN 9 8,o 10 (.call false
 (cf 96) [(.s 5),(.s 9)]),oM 11 10,gF 11 true 12 0 2,gF 11 true 13 0 12,gL 11 true 14 13,gM 11 true 15 1,gI 11 true 16 6 14 15,gG 11 true
 17 3 16,gR 11 true 18 17,gD 11 true 19 .eql 18 (-1),oW 20 11 19,oM 4 20]) .ret))⟩
def f101:F:=⟨20,false,[.s 2],(.seq (rF [oB 2 false]) (.seq (.seq (rF [oI 3 1]) (.block 0 (.loop (.seq (.seq (rF [oM 4 3,oM 5 0,oN 6
 5,oC 7 .lss 4 6]) (.cond (.s 7) .skip (.exit 0))) (.seq (.block 1 (.seq (rT [oM 10 0,oM 11 3,oA 12 1 10 11,oR 13 12,oM 14 0,oM 15 3,oD
 16 .sub 15 1,oA 17 1 14 16,oR 18 17,oC 19 .leq 13 18]) (.cond (.s 19) (.seq (rF [oB 2 false]) .ret) .skip))) (rF [oM 8 3,oD 9 .add 8 1,oM
 3 9])))))) (.seq (rF [oB 2 true]) .ret)))⟩
def f102:F:=⟨9,false,[.s 4],(.seq (rF [o 3 (.boxH 1 (.s 1)),oB 4 false]) (.seq (rF [oM 5 0,o 6 (.mkfn 132 [] [(.s 3)]),o 7 (.call false
 (cf 131) [(.s 5),(.s 6)]),oT 8 7,oM 4 8]) .ret))⟩
def f103:F:=⟨10,false,[.s 3],(.seq (rF [oB 3 false]) (.seq (rF [oM 4 0,oG 5 0 1,oG 6 1 5,oR 7 6,oN 8 7,o 9 (.call false (cf 96) [(.s 4),(.s 8)]),oM 3 9]) .ret))⟩
def f104:F:=⟨10,false,[.s 4],(.seq (rF [o 2 (.boxH 4 (.s 0)),o 4 (.mv (.c (.t .nilf)))]) (.seq (rF [oS 6 4 2,oM 7 1,o 8 (.call false
 (cf 133) [(.s 6),(.s 7)]),o 5 (.allocH [(.t .nilf)]),oO 1 5 8]) (.seq (rF [o 9 (.mkfn 134 [] [(.s 2),(.s 5)]),oM 4 9]) .ret)))⟩
def f105:F:=⟨141,false,[.s 8],(.seq (rF [oQ 4 4 0,oQ 6 7 2,oQ 7 11 3,oI 8 0]) (.seq (rF [oF 15 0 7,oL 16 15,oD 17 .eql 16 6,oM 18
 17,gF 18 false 19 0 7,gL 18 false 20 19,gD 18 false 21 .eql 20 7,oV 22 18 21,oM 9 22]) (.seq (.block 0 (.seq (.seq (rF [oF 24 0 7,oL 25
 24,oD 26 .lss 25 1,oM 23 26]) (.cond (.s 23) .skip (rF [oF 27 0 7,oL 28 27,oD 29 .gtr 28 7,oM 23 29]))) (.cond (.s 23) (.seq (rF [oI 8 70])
 .ret) (.seq (.seq (rF [oF 31 1 7,oL 32 31,oF 33 1 6,oL 34 33,oD 35 .sub 34 1,o 36 (.call false (cf 96) [(.s 32),(.s 35)]),oT 37 36,oM
 30 37]) (.cond (.s 30) .skip (.seq (rF [oF 38 2 7,oL 39 38,oF 40 1 6,oL 41 40,o 42 (.call false (cf 96) [(.s 39),(.s 41)]),oT 43 42,oM
 30 43]) (.cond (.s 30) .skip (rF [oF 44 10 7,oL 45 44,oF 46 0 4,oF 47 1 46,oL 48 47,oN 49 48,o 50 (.call false (cf 96) [(.s 45),(.s 49)]),
 oT 51 50,oM 30 51]))))) (.cond (.s 30) (.seq (rF [oI 8 70]) .ret) (.seq (.seq (rF [oF 53 8 7,oL 54 53,oM 55 54,gF 55 true 56 0 7,gL 55 true
 57 56,gD 55 true 58 .neq 57 3,oW 59 55 58,oM 52 59]) (.cond (.s 52) .skip (rF [oF 60 9 7,oL 61 60,oD 62 .neq 61 0,oM 63 62,gM 63 true
 64 9,gT 63 true 65 64,oW 66 63 65,oM 52 66]))) (.cond (.s 52) (.seq (rF [oI 8 70]) .ret) (.seq (.seq (rF [oF 68 3 7,oF 69 1 68,oL 70 69,
 oD 71 .neq 70 1,oM 67 71]) (.cond (.s 67) .skip (rF [oF 72 3 7,oK 73 4 72,oF 74 0 4,oF 75 0 74,oL 76 75,o 77 (.call false (cf 107) [(.s
 73),(.s 76),(cb false)]),oT 78 77,oM 67 78]))) (.cond (.s 67) (.seq (rF [oI 8 60]) .ret) .skip))))))))) (.seq (rF [o 79 (.mkmap),oM 10 79])
 (.seq (.seq (rF [oF 80 7 7,oL 81 80,oN 82 81,oI 83 0]) (.block 1 (.loop (.seq (rF [oC 84 .lss 83 82]) (.seq (.cond (.s 84) .skip (.exit 1))
 (.seq (.block 2 (.seq (rF [oA 85 5 81 83,oS 86 5 85,o 12 (.allocL [zi,zi,zi,zi,zn]),oP 5 12 86]) (.seq (.seq (rF [oM 88 10,oF 89 0 12,
 oL 90 89,o 91 (.lookup 0 (.agg []) true (.s 88) (.s 90)),oM 87 91,oX 92 87 0,oX 93 87 1,o 13 (.allocL []),oP 0 13 92,oM 14 93]) (.seq
 (rF [oM 94 14,oM 95 94,gF 95 false 96 0 12,gL 95 false 97 96,gF 95 false 98 0 4,gF 95 false 99 0 98,gL 95 false 100 99,gN 95 false 101
 100,og 95 false 102 (.call false (cf 96) [(.s 97),(.s 101)]),gT 95 false 103 102,oV 104 95 103]) (.cond (.s 104) (.seq (rF [oI 8 70]) .ret)
 .skip))) (.seq (rF [oM 105 10,oF 106 0 12,oL 107 106,o 108 (.build [] []),on (.mapupd 0 (.s 105) (.s 107) (.s 108))]) (.seq (rT [oF 109 1
 12,oF 110 1 109,oL 111 110,oF 112 0 4,oF 113 0 112,oL 114 113,oF 115 0 12,oL 116 115,oA 117 6 114 116,oG 118 1 117,oR 119 118,oC 120
 .neq 111 119,oM 121 120,gF 121 false 122 1 12,gK 121 false 123 4 122,gF 121 false 124 0 4,gF 121 false 125 0 124,gL 121 false 126 125,
 og 121 false 127 (.call false (cf 107) [(.s 123),(.s 126),(cb false)]),gT 121 false 128 127,oV 129 121 128]) (.cond (.s 129) (.seq (rF [oI
 8 60]) .ret) .skip)))))) (rF [oD 130 .add 83 1,oM 83 130]))))))) (.seq (.seq (rT [o 131 (.call false (cf 135) []),oF 132 0 7,oL 133 132,o
 134 (.idxA true 8 1 (.s 131) (.s 133)),o 135 (.field false 0 1 (.s 134)),oK 136 4 4,oM 137 1,oK 138 11 7,o 139 (.call false (.s 135) [(.s
 136),(.s 137),(.s 138)]),oT 140 139]) (.cond (.s 140) (.seq (rF [oI 8 70]) .ret) .skip)) (.seq (rF [oI 8 0]) .ret)))))))⟩
def f106:F:=⟨15,false,[.s 4],(.seq (rF [oB 4 false]) (.seq (rF [oM 5 0,oG 6 1 1,oR 7 6,o 8 (.call false (cf 96) [(.s 5),(.s 7)]),
 oM 9 8,gM 9 true 10 0,gG 9 true 11 0 2,gR 9 true 12 11,gC 9 true 13 .neq 10 12,oW 14 9 13,oM 4 14]) .ret))⟩
def f107:F:=⟨14,false,[.s 6],(.seq (rF [o 3 (.boxH 4 (.s 0)),o 4 (.boxH 1 (.s 1)),o 5 (.boxH 1 (.s 2)),oB 6 false]) (.seq (.seq (rF
 [oS 8 4 3,o 9 (.call false (cf 51) [(.s 8)]),oT 10 9]) (.cond (.s 10) (.seq (rF [oB 6 false]) .ret) .skip)) (.seq (rF [o 7 (.allocH [zb]),
 on (.store 1 (.s 7) (cb true))]) (.seq (rF [o 11 (.mkfn 136 [] [(.s 4),(.s 5),(.s 7)]),o 12 (.call true (cf 76) [(.s 3),(.s 11)])]) (.seq (rF [oR 13 7,oM 6 13]) .ret)))))⟩
def f108:F:=⟨20,false,[.s 4],(.seq (rF [oQ 2 4 0,oB 4 false]) (.seq (rF [oK 8 4 2,o 9 (.call true (cf 60) [(.s 8)]),oM 7 9,oX 10 7
 0,oX 11 7 1,oM 5 10,oM 6 11]) (.seq (rF [oM 12 5,oM 13 1,o 14 (.call false (cf 102) [(.s 12),(.s 13)]),oM 15 14,gM 15 true 16 6,gM 15
 true 17 1,og 15 true 18 (.call false (cf 102) [(.s 16),(.s 17)]),oW 19 15 18,oM 4 19]) .ret)))⟩
def f131:F:=⟨9,false,[.s 4],(.seq (rF [oB 4 false]) (.seq (rF [oM 5 0,oM 6 1,o 7 (.call false (cf 145) [(.s 5),(.s 6)]),oD 8 .geq 7 0,oM 4 8]) .ret))⟩
def f132:F:=⟨8,false,[.s 3],(.seq (rF [oB 3 false]) (.seq (rF [oR 4 1,oM 5 0,o 6 (.call false (.s 4) [(.s 5)]),oT 7 6,oM 3 7]) .ret))⟩
def f133:F:=⟨6,false,[.s 4],(.seq (rF [o 2 (.boxH 4 (.s 0)),o 3 (.boxH 1 (.s 1)),o 4 (.mv (.c (.t .nilf)))]) (.seq (rF [o 5 (.mkfn 146
 [] [(.s 2),(.s 3)]),oM 4 5]) .ret))⟩
def f134:F:=⟨13,false,[.s 4],(.seq (rF [oB 4 false]) (.seq (rF [oS 5 4 1,oM 6 0,o 7 (.call false (cf 100) [(.s 5),(.s 6)]),oM 8 7,
 gR 8 false 9 2,gM 8 false 10 0,og 8 false 11 (.call false (.s 9) [(.s 10)]),oV 12 8 11,oM 4 12]) .ret))⟩
def f135:F:=⟨9,false,[.l 0 true 8],(.seq (rF [o 0 (.allocL [(.t .nilf),(.t .nilf),(.t .nilf),(.t .nilf),(.t .nilf),(.t .nilf),(.t
 .nilf),(.t .nilf)])]) (.seq (rF [o 1 (.build [(.t .nilf)] [(0,1,(cf 147))]),o 2 (.build [(.t .nilf)] [(0,1,(cf 148))]),o 3 (.build [(.t
 .nilf)] [(0,1,(cf 149))]),o 4 (.build [(.t .nilf)] [(0,1,(cf 150))]),o 5 (.build [(.t .nilf)] [(0,1,(cf 151))]),o 6 (.build [(.t .nilf)]
 [(0,1,(cf 152))]),o 7 (.build [(.t .nilf)] [(0,1,(cf 153))]),o 8 (.build [(.t .nilf),(.t .nilf),(.t .nilf),(.t .nilf),(.t .nilf),(.t
 .nilf),(.t .nilf),(.t .nilf)] [(1,1,(.s 1)),(2,1,(.s 2)),(3,1,(.s 3)),(4,1,(.s 4)),(5,1,(.s 5)),(6,1,(.s 6)),(7,1,(.s 7))]),oP 8 0 8]) .ret))⟩
def f136:F:=⟨45,true,[],(.seq (rT [oM 5 0,o 6 (.nilchk (.s 5)),oG 7 0 6,oR 8 7,oD 9 .neq 8 1,oM 10 9,gM 10 true 11 0,og 10 true
 12 (.nilchk (.s 11)),gG 10 true 13 2 12,gR 10 true 14 13,gR 10 true 15 1,gN 10 true 16 15,gC 10 true 17 .geq 14 16,gM 10 true 18 17,gR
 18 false 19 1,gM 18 false 20 0,og 18 false 21 (.nilchk (.s 20)),gG 18 false 22 2 21,gR 18 false 23 22,gI 18 false 24 6 19 23,gG 18 false
 25 1 24,gR 18 false 26 25,gM 18 false 27 0,og 18 false 28 (.nilchk (.s 27)),gG 18 false 29 1 28,gR 18 false 30 29,gC 18 false 31 .neq 26
 30,og 10 true 32 (.pick (.s 18) (cb true) (.s 31)),gM 10 true 33 32,gM 33 false 34 0,og 33 false 35 (.nilchk (.s 34)),gG 33 false 36 0 35,
 gR 33 false 37 36,gD 33 false 38 .eql 37 3,gM 33 false 39 38,gR 39 true 40 2,gT 39 true 41 40,og 33 false 42 (.pick (.s 39) (.s 41) (cb
 false)),og 10 true 43 (.pick (.s 33) (cb true) (.s 42)),oW 44 10 43]) (.cond (.s 44) (rF [on (.store 1 (.s 3) (cb false))]) .skip))⟩
def f145:F:=⟨19,false,[.s 4],(.seq (rF [oI 4 0]) (.seq (.seq (rF [oM 6 0,oN 7 6,oI 8 0]) (.block 0 (.loop (.seq (rF [oC 9 .lss 8 7])
 (.seq (.cond (.s 9) .skip (.exit 0)) (.seq (.block 1 (.seq (rF [oM 10 8,oM 5 10]) (.seq (rF [oM 11 1,oM 12 0,oM 13 5,oA 14 1 12 13,oR 15
 14,o 16 (.call false (.s 11) [(.s 15)])]) (.cond (.s 16) (.seq (rF [oM 17 5,oM 4 17]) .ret) .skip)))) (rF [oD 18 .add 8 1,oM 8 18]))))))) (.seq (rF [oI 4 (-1)]) .ret)))⟩
def f146:F:=⟨22,false,[.s 4],(.seq (rF [oB 4 false]) (.seq (rT [oM 5 0,oG 6 0 1,oG 7 0 6,oR 8 7,oN 9 8,o 10 (.call false (cf 96)
 [(.s 5),(.s 9)]),oM 11 10,gG 11 true 12 0 1,gG 11 true 13 0 12,gR 11 true 14 13,gM 11 true 15 0,gI 11 true 16 6 14 15,gG 11 true 17 3
 16,gR 11 true 18 17,gR 11 true 19 2,gC 11 true 20 .eql 18 19,oW 21 11 20,oM 4 21]) .ret))⟩
def f147:F:=⟨20,false,[.s 6],(.seq (rF [oQ 3 4 0,oQ 5 11 2,oB 6 false]) (.seq (rF [oK 8 4 3,oM 9 1,o 10 (.call false (cf 133) [(.s
 8),(.s 9)]),oM 7 10]) (.seq (rF [oK 11 11 5,oM 12 7,o 13 (.call false (cf 161) [(.s 11),(.s 12)]),oM 14 13,gF 14 true 15 7 5,gL 14 true
 16 15,gM 14 true 17 7,og 14 true 18 (.call false (cf 162) [(.s 16),(.s 17)]),oW 19 14 18,oM 6 19]) .ret)))⟩
def f148:F:=⟨91,false,[.s 6],(.seq (rF [oQ 3 4 0,oQ 5 11 2,oB 6 false]) (.seq (rF [oK 12 4 3,oM 13 1,o 14 (.call false (cf 133) [(.s
 12),(.s 13)]),oM 7 14]) (.seq (.seq (rF [oF 15 7 5,oL 16 15,oN 17 16,oD 18 .eql 17 0,oM 19 18,gF 19 false 20 3 5,gK 19 false 21 4 20,
 gM 19 false 22 7,og 19 false 23 (.call false (cf 108) [(.s 21),(.s 22)]),gT 19 false 24 23,oV 25 19 24]) (.cond (.s 25) (.seq (rF [oB 6 false])
 .ret) .skip)) (.seq (rT [oF 26 7 5,oL 27 26,o 28 (.iaddrS 5 (.s 27) (ci 0)),oG 29 0 28,oR 30 29,oF 31 7 5,oL 32 31,o 33 (.iaddrS 5 (.s
 32) (ci 0)),oG 34 1 33,oS 35 4 34,o 9 (.allocL [zi,zi,zi,zn]),oM 8 30,oP 4 9 35]) (.seq (.seq (rF [oM 36 7,oM 37 8,o 38 (.call false
 (.s 36) [(.s 37)]),oT 39 38,oM 40 39,gK 40 false 41 4 3,gM 40 false 42 8,og 40 false 43 (.call false (cf 163) [(.s 41),(.s 42)]),oV 44
 40 43,oM 45 44,gF 45 false 46 0 9,gL 45 false 47 46,gD 45 false 48 .neq 47 2,oV 49 45 48,oM 50 49,gK 50 false 51 4 3,gF 50 false 52 2
 9,gL 50 false 53 52,og 50 false 54 (.call false (cf 100) [(.s 51),(.s 53)]),gT 50 false 55 54,oV 56 50 55,oM 57 56,gK 57 false 58 4 3,
 gF 57 false 59 2 9,gL 57 false 60 59,og 57 false 61 (.call false (cf 163) [(.s 58),(.s 60)]),oV 62 57 61]) (.cond (.s 62) (.seq (rF [oB 6
 false]) .ret) .skip)) (.seq (.seq (rF [oF 63 7 5,oL 64 63,o 65 (.slice 5 (.s 64) (some (ci 1)) none none),oN 66 65,oI 67 0]) (.block 0 (.loop
 (.seq (rF [oC 68 .lss 67 66]) (.seq (.cond (.s 68) .skip (.exit 0)) (.seq (.block 1 (.seq (rF [oA 69 5 65 67,oS 70 5 69,o 11 (.allocL [zi,
 zi,zi,zi,zn]),oP 5 11 70]) (.seq (rF [oM 71 7,oF 72 0 11,oL 73 72,o 74 (.call false (.s 71) [(.s 73)]),oT 75 74,oM 76 75,gK 76 false
 77 4 3,gF 76 false 78 0 11,gL 76 false 79 78,og 76 false 80 (.call false (cf 163) [(.s 77),(.s 79)]),gT 76 false 81 80,oV 82 76 81,oM
 83 82,gF 83 false 84 1 11,gK 83 false 85 4 84,gM 83 false 86 7,og 83 false 87 (.call false (cf 108) [(.s 85),(.s 86)]),gT 83 false 88 87,
 oV 89 83 88]) (.cond (.s 89) (.seq (rF [oB 6 false]) .ret) .skip)))) (rF [oD 90 .add 67 1,oM 67 90]))))))) (.seq (rF [oB 6 true]) .ret)))))))⟩
def f149:F:=⟨43,false,[.s 6],(.seq (rF [o 3 (.boxH 4 (.s 0)),oQ 5 11 2,oB 6 false]) (.seq (.seq (rT [oF 9 7 5,oL 10 9,oN 11 10,oD
 12 .eql 11 0,oM 13 12,gK 13 false 14 11 5,og 13 false 15 (.load true 4 (.s 3)),gM 13 false 16 1,og 13 false 17 (.call false (cf 133) [(.s
 15),(.s 16)]),og 13 false 18 (.call false (cf 161) [(.s 14),(.s 17)]),gT 13 false 19 18,oV 20 13 19]) (.cond (.s 20) (.seq (rF [oB 6 false])
 .ret) .skip)) (.seq (.seq (rF [oF 21 7 5,oL 22 21,o 23 (.iaddrS 5 (.s 22) (ci 0)),oG 24 0 23,oR 25 24,oM 7 25]) (.seq (rF [oS 26 4 3,oM
 27 7,o 28 (.call false (cf 100) [(.s 26),(.s 27)]),oT 29 28,oM 30 29,og 30 false 31 (.load true 4 (.s 3)),gM 30 false 32 7,og 30 false
 33 (.call false (cf 163) [(.s 31),(.s 32)]),oV 34 30 33]) (.cond (.s 34) (.seq (rF [oB 6 false]) .ret) .skip))) (.seq (rF [oS 35 4 3,oM 36
 1,o 37 (.call false (cf 104) [(.s 35),(.s 36)]),o 8 (.allocH [(.t .nilf)]),oO 1 8 37]) (.seq (rF [oF 38 7 5,oL 39 38,o 40 (.slice 5 (.s
 39) (some (ci 1)) none none),o 41 (.mkfn 164 [] [(.s 3),(.s 8)]),o 42 (.call false (cf 162) [(.s 40),(.s 41)]),oM 6 42]) .ret)))))⟩
def f150:F:=⟨20,false,[.s 6],(.seq (rF [oQ 3 4 0,oQ 5 11 2,oB 6 false]) (.seq (rF [oK 8 4 3,oM 9 1,o 10 (.call false (cf 104) [(.s
 8),(.s 9)]),oM 7 10]) (.seq (rF [oK 11 11 5,oM 12 7,o 13 (.call false (cf 161) [(.s 11),(.s 12)]),oM 14 13,gF 14 true 15 7 5,gL 14 true
 16 15,gM 14 true 17 7,og 14 true 18 (.call false (cf 162) [(.s 16),(.s 17)]),oW 19 14 18,oM 6 19]) .ret)))⟩
def f151:F:=⟨9,false,[.s 6],(.seq (rF [oQ 3 4 0,oQ 5 11 2,oB 6 false]) (.seq (rF [oK 7 11 5,o 8 (.call false (cf 165) [(.s 7)]),oM 6 8]) .ret))⟩
def f152:F:=⟨21,false,[.s 6],(.seq (rF [oQ 3 4 0,oQ 5 11 2,oB 6 false]) (.seq (rF [oK 7 4 3,oM 8 1,oK 9 11 5,o 10 (.call false (cf
 153) [(.s 7),(.s 8),(.s 9)]),oM 11 10,gF 11 true 12 0 3,gF 11 true 13 3 12,gL 11 true 14 13,gF 11 true 15 9 5,gL 11 true 16 15,gI 11
 true 17 7 14 16,gG 11 true 18 6 17,gR 11 true 19 18,oW 20 11 19,oM 6 20]) .ret))⟩
def f153:F:=⟨24,false,[.s 6],(.seq (rF [oQ 3 4 0,oQ 5 11 2,oB 6 false]) (.seq (rF [oK 7 11 5,o 8 (.call false (cf 165) [(.s 7)]),oM
 9 8,gF 9 true 10 9 5,gL 9 true 11 10,gM 9 true 12 1,gC 9 true 13 .neq 11 12,oW 14 9 13,oM 15 14,gF 15 true 16 9 5,gL 15 true 17 16,gF
 15 true 18 0 3,gF 15 true 19 3 18,gL 15 true 20 19,gN 15 true 21 20,og 15 true 22 (.call false (cf 96) [(.s 17),(.s 21)]),oW 23 15 22,oM 6 23]) .ret))⟩
def f156:F:=⟨53,false,[.s 4],(.seq (rF [oQ 2 4 0,oQ 3 4 1,oB 4 false]) (.seq (.seq (rF [oF 6 0 2,oL 7 6,oF 8 0 3,oL 9 8,oC 10 .neq
 7 9,oM 11 10,gF 11 false 12 1 2,gL 11 false 13 12,gF 11 false 14 1 3,gL 11 false 15 14,gC 11 false 16 .neq 13 15,oV 17 11 16,oM 18 17,
 gF 18 false 19 2 2,gL 18 false 20 19,gF 18 false 21 2 3,gL 18 false 22 21,gC 18 false 23 .neq 20 22,oV 24 18 23,oM 25 24,gF 25 false 26
 3 2,gL 25 false 27 26,gN 25 false 28 27,gF 25 false 29 3 3,gL 25 false 30 29,gN 25 false 31 30,gC 25 false 32 .neq 28 31,oV 33 25 32])
 (.cond (.s 33) (.seq (rF [oB 4 false]) .ret) .skip)) (.seq (.seq (rF [oI 5 0]) (.block 0 (.loop (.seq (.seq (rF [oM 34 5,oF 35 3 2,oL 36 35,
 oN 37 36,oC 38 .lss 34 37]) (.cond (.s 38) .skip (.exit 0))) (.seq (.block 1 (.seq (rT [oF 41 3 2,oL 42 41,oM 43 5,oA 44 4 42 43,oS 45 4
 44,oF 46 3 3,oL 47 46,oM 48 5,oA 49 4 47 48,oS 50 4 49,o 51 (.call false (cf 156) [(.s 45),(.s 50)]),oT 52 51]) (.cond (.s 52) (.seq
 (rF [oB 4 false]) .ret) .skip))) (rF [oM 39 5,oD 40 .add 39 1,oM 5 40])))))) (.seq (rF [oB 4 true]) .ret))))⟩
def f157:F:=⟨2,false,[.l 0 true 4],(.seq (rF [o 0 (.allocL [zi,zi,zi,zn])]) (.seq (rF [o 1 (.call false (cf 61) [(ci 1),(ci 1)]),oP 4 0 1]) .ret))⟩
def f161:F:=⟨25,false,[.s 4],(.seq (rF [oQ 2 11 0,oB 4 false]) (.seq (.seq (rF [oF 7 3 2,oK 8 4 7,oM 9 1,o 10 (.call false (cf 108)
 [(.s 8),(.s 9)]),oT 11 10]) (.cond (.s 11) (.seq (rF [oB 4 false]) .ret) .skip)) (.seq (.seq (rF [oF 12 7 2,oL 13 12,oN 14 13,oI 15 0])
 (.block 0 (.loop (.seq (rF [oC 16 .lss 15 14]) (.seq (.cond (.s 16) .skip (.exit 0)) (.seq (.block 1 (.seq (rF [oA 17 5 13 15,oS 18 5 17,o
 6 (.allocL [zi,zi,zi,zi,zn]),oP 5 6 18]) (.seq (rF [oF 19 1 6,oK 20 4 19,oM 21 1,o 22 (.call false (cf 108) [(.s 20),(.s 21)]),oT 23
 22]) (.cond (.s 23) (.seq (rF [oB 4 false]) .ret) .skip)))) (rF [oD 24 .add 15 1,oM 15 24]))))))) (.seq (rF [oB 4 true]) .ret))))⟩
def f162:F:=⟨19,false,[.s 4],(.seq (rF [oB 4 false]) (.seq (.seq (rF [oM 7 0,oN 8 7,oI 9 0]) (.block 0 (.loop (.seq (rF [oC 10 .lss
 9 8]) (.seq (.cond (.s 10) .skip (.exit 0)) (.seq (.block 1 (.seq (rF [oA 11 5 7 9,oS 12 5 11,o 6 (.allocL [zi,zi,zi,zi,zn]),oP 5 6 12])
 (.seq (rF [oM 13 1,oF 14 0 6,oL 15 14,o 16 (.call false (.s 13) [(.s 15)]),oT 17 16]) (.cond (.s 17) (.seq (rF [oB 4 false]) .ret) .skip))))
 (rF [oD 18 .add 9 1,oM 9 18]))))))) (.seq (rF [oB 4 true]) .ret)))⟩
def f163:F:=⟨12,false,[.s 4],(.seq (rF [oQ 2 4 0,oB 4 false]) (.seq (rF [oF 5 0 2,oF 6 0 5,oL 7 6,oM 8 1,oA 9 6 7 8,oG 10 4 9,oR 11 10,oM 4 11]) .ret))⟩
def f164:F:=⟨13,false,[.s 4],(.seq (rF [oB 4 false]) (.seq (rF [oS 5 4 1,oM 6 0,o 7 (.call false (cf 163) [(.s 5),(.s 6)]),oM 8 7,
 gR 8 true 9 2,gM 8 true 10 0,og 8 true 11 (.call false (.s 9) [(.s 10)]),oW 12 8 11,oM 4 12]) .ret))⟩
def f165:F:=⟨12,false,[.s 2],(.seq (rF [oQ 1 11 0,oB 2 false]) (.seq (rF [oF 3 3 1,oK 4 4 3,o 5 (.call false (cf 166) [(.s 4)]),oM
 6 5,gF 6 true 7 7 1,gL 6 true 8 7,gN 6 true 9 8,gD 6 true 10 .eql 9 0,oW 11 6 10,oM 2 11]) .ret))⟩
def f166:F:=⟨22,false,[.s 2],(.seq (rF [oQ 1 4 0,oB 2 false]) (.seq (rF [oF 3 0 1,oL 4 3,oD 5 .eql 4 1,oM 6 5,gF 6 true 7 1 1,gL
 6 true 8 7,gD 6 true 9 .eql 8 1,oW 10 6 9,oM 11 10,gF 11 true 12 2 1,gL 11 true 13 12,gD 11 true 14 .eql 13 1,oW 15 11 14,oM 16 15,gF
 16 true 17 3 1,gL 16 true 18 17,gN 16 true 19 18,gD 16 true 20 .eql 19 0,oW 21 16 20,oM 2 21]) .ret))⟩
def f209:F:=⟨106,false,[.s 2],(.seq (rF [oQ 1 4 0,oB 2 false]) (.seq (rF [o 12 (.call false (cf 216) []),oM 3 12]) (.seq (.seq (rF [oK
 13 4 1,o 14 (.call false (cf 230) [(.s 13),(ci 40)]),oT 15 14]) (.cond (.s 15) (.seq (rF [oM 16 3,oM 2 16]) .ret) .skip)) (.seq (.seq (rF
 [oI 4 0]) (.block 0 (.loop (.seq (.seq (rF [oM 17 4,oF 18 0 1,oL 19 18,oN 20 19,oC 21 .lss 17 20]) (.cond (.s 21) .skip (.exit 0))) (.seq
 (.block 1 (.seq (rF [oK 24 4 1,o 25 (.call false (cf 228) [(.s 24)]),oM 26 4,o 27 (.call false (cf 231) [(.s 25),(.s 26)]),oM 5 27]) (.seq
 (.seq (rF [oI 6 0]) (.block 2 (.loop (.seq (.seq (rF [oM 28 6,oF 29 3 1,oL 30 29,oN 31 30,oC 32 .lss 28 31]) (.cond (.s 32) .skip (.exit
 2))) (.seq (.block 3 (rF [oM 35 5,oK 36 4 1,oM 37 6,o 38 (.call false (cf 226) [(.s 36),(.s 37)]),oM 39 4,o 40 (.call false (cf 231) [(.s
 38),(.s 39)]),oC 41 .add 35 40,oM 5 41])) (rF [oM 33 6,oD 34 .add 33 1,oM 6 34])))))) (.seq (rF [oM 42 5,oD 43 .neq 42 1]) (.cond (.s 43)
 (.seq (rF [oB 2 false]) .ret) .skip))))) (rF [oM 22 4,oD 23 .add 22 1,oM 4 23])))))) (.seq (.seq (rF [oI 7 0]) (.block 4 (.loop (.seq (.seq
 (rF [oM 44 7,oF 45 3 1,oL 46 45,oN 47 46,oC 48 .lss 44 47]) (.cond (.s 48) .skip (.exit 4))) (.seq (.block 5 (.seq (rF [oF 51 3 1,oL 52
 51,oM 53 7,oA 54 7 52 53,oS 55 7 54,o 8 (.allocL [ze,zi,zn,zn,zn,zn,zb]),oP 7 8 55]) (.seq (.seq (rF [oI 9 0]) (.block 6 (.loop (.seq
 (.seq (rF [oM 56 9,oF 57 4 8,oL 58 57,oN 59 58,oC 60 .lss 56 59]) (.cond (.s 60) .skip (.exit 6))) (.seq (.block 7 (.seq (rF [oI 10 0]) (.seq
 (.seq (rF [oI 11 0]) (.block 8 (.loop (.seq (.seq (rF [oM 63 11,oF 64 1 8,oL 65 64,oC 66 .lss 63 65,oM 67 66,gM 67 true 68 11,gD 67 true
 69 .leq 68 48,oW 70 67 69]) (.cond (.s 70) .skip (.exit 8))) (.seq (.block 9 (rF [oM 73 10,oK 74 4 1,oM 75 7,oM 76 11,o 77 (.call false
 (cf 224) [(.s 74),(.s 75),(.s 76)]),oM 78 9,o 79 (.call false (cf 231) [(.s 77),(.s 78)]),oC 80 .add 73 79,oM 10 80])) (rF [oM 71 11,
 oD 72 .add 71 1,oM 11 72])))))) (.seq (rT [oM 81 10,oD 82 .neq 81 1,oM 83 82,gK 83 false 84 4 1,gM 83 false 85 7,gF 83 false 86 4 8,gL
 83 false 87 86,gM 83 false 88 9,gI 83 false 89 11 87 88,gG 83 false 90 1 89,gR 83 false 91 90,og 83 false 92 (.call false (cf 224) [(.s
 84),(.s 85),(.s 91)]),gM 83 false 93 9,og 83 false 94 (.call false (cf 231) [(.s 92),(.s 93)]),gD 83 false 95 .neq 94 1,oV 96 83 95])
 (.cond (.s 96) (.seq (rF [oB 2 false]) .ret) .skip))))) (rF [oM 61 9,oD 62 .add 61 1,oM 9 62])))))) (.seq (rF [oK 97 4 1,oM 98 7,oF 99 1
 8,oL 100 99,oD 101 .sub 100 1,o 102 (.call false (cf 224) [(.s 97),(.s 98),(.s 101)]),oN 103 102,oD 104 .gtr 103 0]) (.cond (.s 104) (.seq
 (rF [oB 2 false]) .ret) .skip))))) (rF [oM 49 7,oD 50 .add 49 1,oM 7 50])))))) (.seq (rF [oM 105 3,oM 2 105]) .ret))))))⟩
def f211:F:=⟨133,false,[.s 4],(.seq (rF [oQ 2 4 0,oQ 3 4 1,oB 4 false]) (.seq (rF [o 17 (.call false (cf 216) []),oM 5 17]) (.seq (.seq
 (rF [oK 18 4 2,o 19 (.call false (cf 217) [(.s 18),(ci 60)]),oT 20 19,oM 21 20,gK 21 false 22 4 3,og 21 false 23 (.call false (cf 217)
 [(.s 22),(ci 60)]),gT 21 false 24 23,oV 25 21 24]) (.cond (.s 25) (.seq (rF [oM 26 5,oM 4 26]) .ret) .skip)) (.seq (rT [oK 27 4 2,o 28 (.call
 false (cf 219) [(.s 27)]),oK 29 4 3,o 30 (.call false (cf 219) [(.s 29)]),oM 6 28,oM 7 30]) (.seq (rF [oK 32 4 2,o 33 (.call false (cf 64)
 [(.s 32)]),oM 31 33,oX 34 31 0,oX 35 31 1,oX 36 31 2,oM 8 34,oM 9 35,oM 10 36]) (.seq (rF [oK 38 4 3,o 39 (.call false (cf 64) [(.s 38)]),
 oM 37 39,oX 40 37 0,oX 41 37 1,oX 42 37 2,oM 11 40,oM 12 41,oM 13 42]) (.seq (.seq (rF [oM 43 8,oD 44 .neq 43 0,oM 45 44,gM 45 true
 46 6,og 45 true 47 (.bin .neq (.s 46) (.c ze)),oW 48 45 47,oM 49 48,gM 49 false 50 11,gD 49 false 51 .neq 50 0,gM 49 false 52 51,gM 52
 true 53 7,og 52 true 54 (.bin .neq (.s 53) (.c ze)),og 49 false 55 (.pick (.s 52) (.s 54) (cb false)),oV 56 49 55]) (.cond (.s 56) (.seq (rF
 [oB 4 false]) .ret) .skip)) (.seq (.seq (rF [oM 57 8,oD 58 .neq 57 0,oM 59 58,gM 59 false 60 11,gD 59 false 61 .neq 60 0,oV 62 59 61]) (.cond
 (.s 62) (.seq (rF [oM 63 5,oM 4 63]) .ret) .skip)) (.seq (rF [oF 64 0 2,oL 65 64,oN 66 65,oF 67 1 2,oL 68 67,oN 69 68,oC 70 .add 66 69,
 oF 71 2 2,oL 72 71,oN 73 72,oC 74 .add 70 73,oM 14 74]) (.seq (.seq (rF [oI 15 0]) (.block 0 (.loop (.seq (.seq (rF [oM 75 15,oF 76 3 2,
 oL 77 76,oN 78 77,oC 79 .lss 75 78]) (.cond (.s 79) .skip (.exit 0))) (.seq (.block 1 (rT [oM 82 14,oF 83 3 2,oL 84 83,oM 85 15,oA 86 7
 84 85,oG 87 1 86,oR 88 87,o 89 (.bin .add (ci 1) (.s 88)),oF 90 3 2,oL 91 90,oM 92 15,oA 93 7 91 92,oG 94 4 93,oR 95 94,oN 96 95,oC
 97 .add 89 96,oF 98 3 2,oL 99 98,oM 100 15,oA 101 7 99 100,oG 102 5 101,oR 103 102,oN 104 103,oC 105 .add 97 104,oC 106 .add 82 105,
 oM 14 106])) (rF [oM 80 15,oD 81 .add 80 1,oM 15 81])))))) (.seq (.seq (rF [oI 16 0]) (.block 2 (.loop (.seq (.seq (rF [oM 107 16,oM 108 6,
 o 109 (.slen (.s 108)),oC 110 .lss 107 109]) (.cond (.s 110) .skip (.exit 2))) (.seq (.block 3 (.seq (rF [oM 113 6,oM 114 16,o 115 (.idxS
 (.s 113) (.s 114)),o 116 (.bin .eql (.s 115) (.c (.t (.int .u8 10))))]) (.cond (.s 116) (rF [oM 117 14,oD 118 .sub 117 1,oM 14 118]) .skip)))
 (rF [oM 111 16,oD 112 .add 111 1,oM 16 112])))))) (.seq (rF [oM 119 5,oM 120 119,gM 120 true 121 14,gD 120 true 122 .eql 121 0,oW 123 120
 122,oM 124 123,gM 124 true 125 6,gM 124 true 126 7,gC 124 true 127 .eql 125 126,gK 124 true 128 4 2,gK 124 true 129 4 3,og 124 true 130
 (.call false (cf 232) [(.s 128),(.s 129)]),og 124 true 131 (.eqb false (.s 127) (.s 130)),oW 132 124 131,oM 4 132]) .ret))))))))))))⟩
def f216:F:=⟨141,false,[.s 0],(.seq (rF [oB 0 false]) (.seq (rF [o 5 (.call true (cf 236) []),o 1 (.allocL [zn,zn,zn,zn]),oP 4 1
 5]) (.seq (rT [oK 6 4 1,o 7 (.call false (cf 235) [(.s 6),(ci 0),(ci (-1)),(ci (-1))]),oM 8 7,og 8 true 9 (.call false (cf 237) [(ci 1),
 (ci 2)]),gF 8 true 10 0 1,gL 8 true 11 10,og 8 true 12 (.call false (cf 107) [(.s 9),(.s 11),(cb false)]),oW 13 8 12,oM 2 13]) (.seq (rF
 [oF 14 3 1,oL 15 14,o 16 (.iaddrS 7 (.s 15) (ci 0)),oG 17 4 16,oR 18 17,o 19 (.iaddrS 11 (.s 18) (ci 0)),oS 20 11 19,o 3 (.allocL [zi,
 zi,zi,zi,zi,zi,zn,zn,zb,zi,zi]),oP 11 3 20]) (.seq (rF [oM 21 2,oM 22 21,gK 22 true 23 11 3,og 22 true 24 (.call false (cf 31) [(.s
 23)]),og 22 true 25 (.bslice 1 1 [zi] [(0,(ci 0))]),og 22 true 26 (.call false (cf 221) [(.s 24),(.s 25)]),oW 27 22 26,oM 28 27,gK 28
 true 29 11 3,og 28 true 30 (.call false (cf 28) [(.s 29)]),og 28 true 31 (.bslice 1 1 [zi] [(0,(ci 1))]),og 28 true 32 (.call false (cf 221)
 [(.s 30),(.s 31)]),oW 33 28 32,oM 34 33,gK 34 true 35 4 1,og 34 true 36 (.call false (cf 224) [(.s 35),(ci 0),(ci 0)]),og 34 true 37
 (.bslice 1 1 [zi] [(0,(ci 0))]),og 34 true 38 (.call false (cf 221) [(.s 36),(.s 37)]),oW 39 34 38,oM 40 39,gK 40 true 41 4 1,og 40 true
 42 (.call false (cf 224) [(.s 41),(ci 0),(ci 1)]),gN 40 true 43 42,gD 40 true 44 .eql 43 0,oW 45 40 44,oM 2 45]) (.seq (rF [oM 46 2,oM
 47 46,gK 47 true 48 4 1,og 47 true 49 (.call false (cf 226) [(.s 48),(ci 0)]),og 47 true 50 (.bslice 1 1 [zi] [(0,(ci 1))]),og 47 true
 51 (.call false (cf 221) [(.s 49),(.s 50)]),oW 52 47 51,oM 53 52,gK 53 true 54 4 1,og 53 true 55 (.call false (cf 228) [(.s 54)]),og 53
 true 56 (.bslice 1 1 [zi] [(0,(ci 0))]),og 53 true 57 (.call false (cf 221) [(.s 55),(.s 56)]),oW 58 53 57,oM 2 58]) (.seq (rF [oM 59 2,
 oM 60 59,gK 60 true 61 4 1,og 60 true 62 (.call false (cf 219) [(.s 61)]),og 60 true 63 (.bin .eql (.s 62) (.c (.t (.str (bs [99,101,108,
 108,32,120,32,50,32,48,32,45,49,32,48,32,48,10,99,101,108,108,32,114,32,50,32,48,32,48,32,48,32,48,10,109,111,
 100,117,108,101,32,77,32,65,110,110,32,110,111,110,101,32,49,58,49,32,48,10,116,104,114,101,97,100,32,116,32,48,
 10,112,111,105,110,116,32,48,32,49,58,49,10,112,111,105,110,116,32,48,32,49,58,49,10,115,116,101,112,32,50,32,
 48,32,49,32,49,58,49,32,48,32,48,32,48,32,49,32,99,48,58,50,10]))))),oW 64 60 63,oM 2 64]) (.seq (rF [o 65 (.call true
 (cf 236) []),o 4 (.allocL [zn,zn,zn,zn]),oP 4 4 65]) (.seq (rF [oF 66 3 4,oL 67 66,o 68 (.iaddrS 7 (.s 67) (ci 0)),oG 69 4 68,oR 70
 69,o 71 (.iaddrS 11 (.s 70) (ci 0)),oG 72 1 71,on (.store 1 (.s 72) (ci 1))]) (.seq (rF [oM 73 2,oM 74 73,gK 74 true 75 4 4,og 74 true
 76 (.call false (cf 235) [(.s 75),(ci 70),(ci 0),(ci 0)]),oW 77 74 76,oM 78 77,gK 78 true 79 4 4,og 78 true 80 (.call false (cf 219) [(.s
 79)]),og 78 true 81 (.bin .eql (.s 80) (.c ze)),oW 82 78 81,oM 2 82]) (.seq (rF [o 83 (.call true (cf 236) []),oP 4 4 83]) (.seq (rT [oF
 84 3 4,oL 85 84,o 86 (.iaddrS 7 (.s 85) (ci 0)),oG 87 4 86,oR 88 87,o 89 (.iaddrS 11 (.s 88) (ci 0)),oG 90 7 89,oR 91 90,o 92 (.call
 false (cf 61) [(ci 1),(ci 2)]),o 93 (.iaddrS 5 (.s 91) (ci 0)),oG 94 1 93,oO 4 94 92]) (.seq (rF [oM 95 2,oM 96 95,gK 96 true 97 4 4,og
 96 true 98 (.call false (cf 235) [(.s 97),(ci 70),(ci 0),(ci 0)]),oW 99 96 98,oM 2 99]) (.seq (rT [oF 100 3 4,oL 101 100,o 102 (.iaddrS
 7 (.s 101) (ci 0)),oG 103 4 102,oR 104 103,o 105 (.iaddrS 11 (.s 104) (ci 0)),oG 106 7 105,oR 107 106,o 108 (.call false (cf 61) [(ci 1),
 (ci 1)]),o 109 (.iaddrS 5 (.s 107) (ci 0)),oG 110 1 109,oO 4 110 108]) (.seq (rF [oM 111 2,oM 112 111,gK 112 true 113 4 4,og 112 true 114
 (.call false (cf 235) [(.s 113),(ci 60),(ci 0),(ci 0)]),oW 115 112 114,oM 2 115]) (.seq (rF [o 116 (.call true (cf 236) []),oP 4 4 116])
 (.seq (rT [oF 117 3 4,oL 118 117,o 119 (.iaddrS 7 (.s 118) (ci 0)),oG 120 2 119,oR 121 120,o 122 (.call false (cf 238) [(ci 0),(ci 2)]),
 o 123 (.call false (cf 237) [(ci 0),(ci 2)]),o 124 (.call false (cf 63) [(ci 11),(ci 1),(.s 122),(.s 123)]),o 125 (.iaddrS 4 (.s 121) (ci
 1)),oO 4 125 124]) (.seq (rF [oM 126 2,oM 127 126,gK 127 true 128 4 4,og 127 true 129 (.call false (cf 235) [(.s 128),(ci 60),(ci 0),(ci
 (-1))]),oW 130 127 129,oM 2 130]) (.seq (rF [o 131 (.call true (cf 236) []),oP 4 4 131]) (.seq (rF [oF 132 0 4,oL 133 132,o 134 (.iaddrS
 6 (.s 133) (ci 0)),oG 135 0 134,on (.store 1 (.s 135) (.c (.t (.str (bs [114])))))]) (.seq (rF [oM 136 2,oM 137 136,gK 137 true 138 4 4,
 og 137 true 139 (.call false (cf 235) [(.s 138),(ci 41),(ci (-1)),(ci (-1))]),oW 140 137 139,oM 0 140]) .ret)))))))))))))))))))))⟩
def f217:F:=⟨92,false,[.s 4],(.seq (rF [oQ 2 4 0,oB 4 false]) (.seq (.seq (rF [oF 9 0 2,oL 10 9,oN 11 10,oD 12 .gtr 11 40,oM 13 12,
 gF 13 false 14 1 2,gL 13 false 15 14,gN 13 false 16 15,gD 13 false 17 .gtr 16 10,oV 18 13 17,oM 19 18,gF 19 false 20 2 2,gL 19 false 21
 20,gN 19 false 22 21,gD 19 false 23 .gtr 22 10,oV 24 19 23,oM 25 24,gF 25 false 26 3 2,gL 25 false 27 26,gN 25 false 28 27,gD 25 false
 29 .gtr 28 8,oV 30 25 29]) (.cond (.s 30) (.seq (rF [oB 4 false]) .ret) .skip)) (.seq (.seq (rF [oI 5 0]) (.block 0 (.loop (.seq (.seq (rF [oM
 31 5,oF 32 1 2,oL 33 32,oN 34 33,oC 35 .lss 31 34]) (.cond (.s 35) .skip (.exit 0))) (.seq (.block 1 (.seq (rF [oF 38 1 2,oL 39 38,oM 40
 5,oA 41 11 39 40,oS 42 11 41,o 6 (.allocL [ze,ze,zi,zi,zi,zn,zi,zi,zi,zn,zn]),oP 11 6 42]) (.seq (rF [oF 43 2 6,oK 44 4 43,oM
 45 1,o 46 (.call false (cf 23) [(.s 44),(.s 45)]),oT 47 46,oM 48 47,gF 48 false 49 6 6,gK 48 false 50 4 49,gM 48 false 51 1,og 48 false
 52 (.call false (cf 23) [(.s 50),(.s 51)]),gT 48 false 53 52,oV 54 48 53,oM 55 54,gF 55 false 56 10 6,gL 55 false 57 56,gN 55 false 58
 57,gD 55 false 59 .gtr 58 60,oV 60 55 59]) (.cond (.s 60) (.seq (rF [oB 4 false]) .ret) .skip)))) (rF [oM 36 5,oD 37 .add 36 1,oM 5 37]))))))
 (.seq (.seq (rF [oI 7 0]) (.block 2 (.loop (.seq (.seq (rF [oM 61 7,oF 62 2 2,oL 63 62,oN 64 63,oC 65 .lss 61 64]) (.cond (.s 65) .skip (.exit
 2))) (.seq (.block 3 (.seq (rF [oF 68 2 2,oL 69 68,oM 70 7,oA 71 6 69 70,oG 72 1 71,oS 73 4 72,oM 74 1,o 75 (.call false (cf 23) [(.s
 73),(.s 74)]),oT 76 75]) (.cond (.s 76) (.seq (rF [oB 4 false]) .ret) .skip))) (rF [oM 66 7,oD 67 .add 66 1,oM 7 67])))))) (.seq (.seq (rF
 [oI 8 0]) (.block 4 (.loop (.seq (.seq (rF [oM 77 8,oF 78 3 2,oL 79 78,oN 80 79,oC 81 .lss 77 80]) (.cond (.s 81) .skip (.exit 4))) (.seq
 (.block 5 (.seq (rF [oF 84 3 2,oL 85 84,oM 86 8,oA 87 7 85 86,oS 88 7 87,oM 89 1,o 90 (.call false (cf 239) [(.s 88),(.s 89)]),oT 91
 90]) (.cond (.s 91) (.seq (rF [oB 4 false]) .ret) .skip))) (rF [oM 82 8,oD 83 .add 82 1,oM 8 83])))))) (.seq (rF [oB 4 true]) .ret))))))⟩
def f219:F:=⟨116,false,[.s 2],(.seq (rF [oQ 1 4 0,o 2 (.mv (.c ze))]) (.seq (.seq (rF [oK 18 4 1,o 19 (.call false (cf 64) [(.s 18)]),
 oM 17 19,oX 20 17 0,oX 21 17 1,oX 22 17 2,oM 3 20,oM 4 21,oM 5 22]) (.seq (rF [oM 23 3,oD 24 .neq 23 0]) (.cond (.s 24) (.seq (rF [o 2
 (.mv (.c ze))]) .ret) .skip))) (.seq (rF [o 6 (.allocB)]) (.seq (rF [o 7 (.mv (cf 240))]) (.seq (.seq (rF [oF 25 0 1,oL 26 25,oN 27 26,oI
 28 0]) (.block 0 (.loop (.seq (rF [oC 29 .lss 28 27]) (.seq (.cond (.s 29) .skip (.exit 0)) (.seq (.block 1 (.seq (rF [oA 30 6 26 28,oS 31 6
 30,o 9 (.allocL [ze,zi,zi,zi,zb,zi]),oP 6 9 31]) (rT [oF 32 0 9,oL 33 32,oM 34 7,oF 35 1 9,oL 36 35,o 37 (.call false (.s 34) [(.s
 36)]),oM 38 7,oF 39 2 9,oL 40 39,o 41 (.call false (.s 38) [(.s 40)]),oM 42 7,oF 43 3 9,oL 44 43,o 45 (.call false (.s 42) [(.s 44)]),
 oF 46 4 9,oL 47 46,o 48 (.call false (cf 242) [(.s 47)]),oM 49 7,oF 50 5 9,oL 51 50,o 52 (.call false (.s 49) [(.s 51)]),o 53 (.bslice
 1 7 [ze] [(0,(.c (.t (.str (bs [99,101,108,108]))))),(1,(.s 33)),(2,(.s 37)),(3,(.s 41)),(4,(.s 45)),(5,(.s 48)),(6,(.s 52))]),
 o 54 (.call true (cf 241) [(.s 6),(.s 53)])]))) (rF [oD 55 .add 28 1,oM 28 55]))))))) (.seq (.seq (rF [oF 56 1 1,oL 57 56,oN 58 57,oI 59
 0]) (.block 2 (.loop (.seq (rF [oC 60 .lss 59 58]) (.seq (.cond (.s 60) .skip (.exit 2)) (.seq (.block 3 (.seq (rF [oA 61 11 57 59,oS 62 11
 61,o 11 (.allocL [ze,ze,zi,zi,zi,zn,zi,zi,zi,zn,zn]),oP 11 11 62]) (.seq (rF [o 12 (.mv (.c (.t (.str (bs [110,111,110,101])))))])
 (.seq (.seq (rF [oF 63 2 11,oK 64 4 63,o 65 (.call false (cf 98) [(.s 64)]),oT 66 65]) (.cond (.s 66) (rF [oF 67 2 11,oK 68 4 67,o 69 (.call
 false (cf 243) [(.s 68)]),oM 12 69]) .skip)) (rT [oF 70 0 11,oL 71 70,oF 72 1 11,oL 73 72,oM 74 12,oF 75 6 11,oK 76 4 75,o 77 (.call
 false (cf 243) [(.s 76)]),o 78 (.bslice 1 5 [ze] [(0,(.c (.t (.str (bs [109,111,100,117,108,101]))))),(1,(.s 71)),(2,(.s 73)),(3,
 (.s 74)),(4,(.s 77))]),oF 79 10 11,oL 80 79,o 81 (.call true (cf 244) [(.s 78),(.s 80)]),o 82 (.call true (cf 241) [(.s 6),(.s 81)])])))))
 (rF [oD 83 .add 59 1,oM 59 83]))))))) (.seq (.seq (rF [oF 84 2 1,oL 85 84,oN 86 85,oI 87 0]) (.block 4 (.loop (.seq (rF [oC 88 .lss 87 86])
 (.seq (.cond (.s 88) .skip (.exit 4)) (.seq (.block 5 (.seq (rF [oA 89 6 85 87,oS 90 6 89,o 14 (.allocL [zi,zi,zi,zi,zn,zi]),oP 6 14
 90]) (rT [oM 91 7,oF 92 0 14,oL 93 92,o 94 (.call false (.s 91) [(.s 93)]),oF 95 1 14,oK 96 4 95,o 97 (.call false (cf 243) [(.s 96)]),
 oM 98 7,oF 99 5 14,oL 100 99,o 101 (.call false (.s 98) [(.s 100)]),o 102 (.bslice 1 4 [ze] [(0,(.c (.t (.str (bs [108,111,99,107]))))),
 (1,(.s 94)),(2,(.s 97)),(3,(.s 101))]),o 103 (.call true (cf 241) [(.s 6),(.s 102)])]))) (rF [oD 104 .add 87 1,oM 87 104]))))))) (.seq
 (.seq (rF [oF 105 3 1,oL 106 105,oN 107 106,oI 108 0]) (.block 6 (.loop (.seq (rF [oC 109 .lss 108 107]) (.seq (.cond (.s 109) .skip (.exit
 6)) (.seq (.block 7 (.seq (rF [oA 110 7 106 108,oS 111 7 110,o 16 (.allocL [ze,zi,zn,zn,zn,zn,zb]),oP 7 16 111]) (rF [oK 112 7 16,o
 113 (.call true (cf 245) [(.s 6),(.s 112)])]))) (rF [oD 114 .add 108 1,oM 108 114]))))))) (.seq (rF [o 115 (.call true (cf 246) [(.s 6)]),oM 2 115]) .ret)))))))))⟩
def f221:F:=⟨26,false,[.s 4],(.seq (rF [oB 4 false]) (.seq (.seq (rF [oM 6 0,oN 7 6,oM 8 1,oN 9 8,oC 10 .neq 7 9]) (.cond (.s 10)
 (.seq (rF [oB 4 false]) .ret) .skip)) (.seq (.seq (rF [oI 5 0]) (.block 0 (.loop (.seq (.seq (rF [oM 11 5,oM 12 0,oN 13 12,oC 14 .lss 11 13])
 (.cond (.s 14) .skip (.exit 0))) (.seq (.block 1 (.seq (rT [oM 17 0,oM 18 5,oA 19 1 17 18,oR 20 19,oM 21 1,oM 22 5,oA 23 1 21 22,oR 24
 23,oC 25 .neq 20 24]) (.cond (.s 25) (.seq (rF [oB 4 false]) .ret) .skip))) (rF [oM 15 5,oD 16 .add 15 1,oM 5 16])))))) (.seq (rF [oB 4 true]) .ret))))⟩
def f224:F:=⟨38,false,[.s 6],(.seq (rF [oQ 3 4 0,o 6 (.mv (.c zn))]) (.seq (.seq (rF [oM 10 1,oF 11 3 3,oL 12 11,oN 13 12,o 14 (.call
 false (cf 96) [(.s 10),(.s 13)]),oT 15 14]) (.cond (.s 15) (.seq (rF [o 6 (.mv (.c zn))]) .ret) .skip)) (.seq (rF [o 7 (.mv (.c zn))]) (.seq
 (.seq (rF [oF 16 3 3,oL 17 16,oM 18 1,oA 19 7 17 18,oG 20 4 19,oR 21 20,oN 22 21,oI 23 0]) (.block 0 (.loop (.seq (rF [oC 24 .lss 23 22])
 (.seq (.cond (.s 24) .skip (.exit 0)) (.seq (.block 1 (.seq (rF [oM 25 23,oA 26 11 21 23,oS 27 11 26,o 9 (.allocL [zi,zi,zi,zi,zi,zi,
 zn,zn,zb,zi,zi]),oM 8 25,oP 11 9 27]) (.seq (rF [oF 28 1 9,oL 29 28,oM 30 2,oC 31 .eql 29 30]) (.cond (.s 31) (rF [oM 32 7,oM 33 8,
 o 34 (.bslice 1 1 [zi] [(0,(.s 33))]),o 35 (.append 1 8 (.s 32) (.s 34)),oM 7 35]) .skip)))) (rF [oD 36 .add 23 1,oM 23 36]))))))) (.seq (rF [oM 37 7,oM 6 37]) .ret)))))⟩
def f226:F:=⟨10,false,[.s 4],(.seq (rF [oQ 2 4 0,o 4 (.mv (.c zn))]) (.seq (.seq (rF [oM 5 1,oD 6 .lss 5 0]) (.cond (.s 6) (.seq (rF
 [o 4 (.mv (.c zn))]) .ret) .skip)) (.seq (rF [oK 7 4 2,oM 8 1,o 9 (.call false (cf 253) [(.s 7),(.s 8)]),oM 4 9]) .ret)))⟩
def f228:F:=⟨5,false,[.s 2],(.seq (rF [oQ 1 4 0,o 2 (.mv (.c zn))]) (.seq (rF [oK 3 4 1,o 4 (.call false (cf 253) [(.s 3),(ci (-1))]),oM 2 4]) .ret))⟩
def f230:F:=⟨20,false,[.s 4],(.seq (rF [oQ 2 4 0,oB 4 false]) (.seq (.seq (rF [oK 8 4 2,oM 9 1,o 10 (.call false (cf 217) [(.s 8),
 (.s 9)]),oT 11 10]) (.cond (.s 11) (.seq (rF [oB 4 false]) .ret) .skip)) (.seq (rF [oK 13 4 2,o 14 (.call false (cf 64) [(.s 13)]),oM 12 14,
 oX 15 12 0,oX 16 12 1,oX 17 12 2,oM 5 15,oM 6 16,oM 7 17]) (.seq (rF [oM 18 5,oD 19 .eql 18 0,oM 4 19]) .ret))))⟩
def f231:F:=⟨22,false,[.s 4],(.seq (rF [oI 4 0]) (.seq (rF [oI 5 0]) (.seq (.seq (rF [oI 6 0]) (.block 0 (.loop (.seq (.seq (rF [oM 7
 6,oM 8 0,oN 9 8,oC 10 .lss 7 9]) (.cond (.s 10) .skip (.exit 0))) (.seq (.block 1 (.seq (rF [oM 13 0,oM 14 6,oA 15 1 13 14,oR 16 15,oM
 17 1,oC 18 .eql 16 17]) (.cond (.s 18) (rF [oM 19 5,oD 20 .add 19 1,oM 5 20]) .skip))) (rF [oM 11 6,oD 12 .add 11 1,oM 6 12])))))) (.seq (rF [oM 21 5,oM 4 21]) .ret))))⟩
def f232:F:=⟨174,false,[.s 4],(.seq (rF [oQ 2 4 0,oQ 3 4 1,oB 4 false]) (.seq (.seq (rF [oF 13 0 2,oL 14 13,oN 15 14,oF 16 0 3,oL
 17 16,oN 18 17,oC 19 .neq 15 18,oM 20 19,gF 20 false 21 1 2,gL 20 false 22 21,gN 20 false 23 22,gF 20 false 24 1 3,gL 20 false 25 24,
 gN 20 false 26 25,gC 20 false 27 .neq 23 26,oV 28 20 27,oM 29 28,gF 29 false 30 2 2,gL 29 false 31 30,gN 29 false 32 31,gF 29 false 33
 2 3,gL 29 false 34 33,gN 29 false 35 34,gC 29 false 36 .neq 32 35,oV 37 29 36,oM 38 37,gF 38 false 39 3 2,gL 38 false 40 39,gN 38 false
 41 40,gF 38 false 42 3 3,gL 38 false 43 42,gN 38 false 44 43,gC 38 false 45 .neq 41 44,oV 46 38 45]) (.cond (.s 46) (.seq (rF [oB 4 false])
 .ret) .skip)) (.seq (.seq (rF [oI 5 0]) (.block 0 (.loop (.seq (.seq (rF [oM 47 5,oF 48 0 2,oL 49 48,oN 50 49,oC 51 .lss 47 50]) (.cond (.s
 51) .skip (.exit 0))) (.seq (.block 1 (.seq (rT [oF 54 0 2,oL 55 54,oM 56 5,oA 57 6 55 56,oS 58 6 57,oF 59 0 3,oL 60 59,oM 61 5,oA 62
 6 60 61,oS 63 6 62,o 64 (.eqa true [2,0,0,0,1,0] (.s 58) (.s 63))]) (.cond (.s 64) (.seq (rF [oB 4 false]) .ret) .skip))) (rF [oM 52 5,
 oD 53 .add 52 1,oM 5 53])))))) (.seq (.seq (rF [oI 6 0]) (.block 2 (.loop (.seq (.seq (rF [oM 65 6,oF 66 1 2,oL 67 66,oN 68 67,oC 69 .lss
 65 68]) (.cond (.s 69) .skip (.exit 2))) (.seq (.block 3 (.seq (rF [oF 72 1 2,oL 73 72,oM 74 6,oA 75 11 73 74,oS 76 11 75,o 7 (.allocL [ze,
 ze,zi,zi,zi,zn,zi,zi,zi,zn,zn]),oP 11 7 76]) (.seq (rF [oF 77 1 3,oL 78 77,oM 79 6,oA 80 11 78 79,oS 81 11 80,o 8 (.allocL [ze,
 ze,zi,zi,zi,zn,zi,zi,zi,zn,zn]),oP 11 8 81]) (.seq (rF [oF 82 0 7,oL 83 82,oF 84 0 8,oL 85 84,oC 86 .neq 83 85,oM 87 86,gF 87
 false 88 1 7,gL 87 false 89 88,gF 87 false 90 1 8,gL 87 false 91 90,gC 87 false 92 .neq 89 91,oV 93 87 92,oM 94 93,gF 94 false 95 2 7,
 gK 94 false 96 4 95,gF 94 false 97 2 8,gK 94 false 98 4 97,og 94 false 99 (.call false (cf 156) [(.s 96),(.s 98)]),gT 94 false 100 99,oV
 101 94 100,oM 102 101,gF 102 false 103 6 7,gK 102 false 104 4 103,gF 102 false 105 6 8,gK 102 false 106 4 105,og 102 false 107 (.call false
 (cf 156) [(.s 104),(.s 106)]),gT 102 false 108 107,oV 109 102 108,oM 110 109,gF 110 false 111 10 7,gL 110 false 112 111,gF 110 false 113
 10 8,gL 110 false 114 113,og 110 false 115 (.call false (cf 221) [(.s 112),(.s 114)]),gT 110 false 116 115,oV 117 110 116]) (.cond (.s 117)
 (.seq (rF [oB 4 false]) .ret) .skip))))) (rF [oM 70 6,oD 71 .add 70 1,oM 6 71])))))) (.seq (.seq (rF [oI 9 0]) (.block 4 (.loop (.seq (.seq
 (rF [oM 118 9,oF 119 2 2,oL 120 119,oN 121 120,oC 122 .lss 118 121]) (.cond (.s 122) .skip (.exit 4))) (.seq (.block 5 (.seq (rF [oF 125
 2 2,oL 126 125,oM 127 9,oA 128 6 126 127,oS 129 6 128,o 10 (.allocL [zi,zi,zi,zi,zn,zi]),oP 6 10 129]) (.seq (rF [oF 130 2 3,oL 131
 130,oM 132 9,oA 133 6 131 132,oS 134 6 133,o 11 (.allocL [zi,zi,zi,zi,zn,zi]),oP 6 11 134]) (.seq (rF [oF 135 0 10,oL 136 135,oF
 137 0 11,oL 138 137,oC 139 .neq 136 138,oM 140 139,gF 140 false 141 5 10,gL 140 false 142 141,gF 140 false 143 5 11,gL 140 false 144 143,
 gC 140 false 145 .neq 142 144,oV 146 140 145,oM 147 146,gF 147 false 148 1 10,gK 147 false 149 4 148,gF 147 false 150 1 11,gK 147 false
 151 4 150,og 147 false 152 (.call false (cf 156) [(.s 149),(.s 151)]),gT 147 false 153 152,oV 154 147 153]) (.cond (.s 154) (.seq (rF [oB
 4 false]) .ret) .skip))))) (rF [oM 123 9,oD 124 .add 123 1,oM 9 124])))))) (.seq (.seq (rF [oI 12 0]) (.block 6 (.loop (.seq (.seq (rF [oM
 155 12,oF 156 3 2,oL 157 156,oN 158 157,oC 159 .lss 155 158]) (.cond (.s 159) .skip (.exit 6))) (.seq (.block 7 (.seq (rT [oF 162 3 2,oL
 163 162,oM 164 12,oA 165 7 163 164,oS 166 7 165,oF 167 3 3,oL 168 167,oM 169 12,oA 170 7 168 169,oS 171 7 170,o 172 (.call false (cf
 255) [(.s 166),(.s 171)]),oT 173 172]) (.cond (.s 173) (.seq (rF [oB 4 false]) .ret) .skip))) (rF [oM 160 12,oD 161 .add 160 1,oM 12 161]))))))
 (.seq (rF [oB 4 true]) .ret)))))))⟩
def f235:F:=⟨31,false,[.s 8],(.seq (rF [oQ 4 4 0,oB 8 false]) (.seq (rF [oK 13 4 4,o 14 (.call false (cf 64) [(.s 13)]),oM 12 14,oX
 15 12 0,oX 16 12 1,oX 17 12 2,oM 9 15,oM 10 16,oM 11 17]) (.seq (rF [oM 18 9,oM 19 1,oC 20 .eql 18 19,oM 21 20,gM 21 true 22 10,gM
 21 true 23 2,gC 21 true 24 .eql 22 23,oW 25 21 24,oM 26 25,gM 26 true 27 11,gM 26 true 28 3,gC 26 true 29 .eql 27 28,oW 30 26 29,oM 8 30]) .ret)))⟩
def f236:F:=⟨25,true,[.l 0 true 4],(.seq (rF [o 0 (.allocL [zn,zn,zn,zn])]) (.seq (rF [o 3 (.call false (cf 157) []),o 1 (.allocL
 [zi,zi,zi,zn]),oP 4 1 3]) (.seq (rT [oK 4 4 1,o 5 (.call false (cf 237) [(ci 0),(ci 2)]),o 6 (.build [zi,zi,zi,zi,zn] [(0,1,(ci
 1)),(1,4,(.s 5))]),o 7 (.bslice 5 1 [zi,zi,zi,zi,zn] [(0,(.s 6))]),o 8 (.build [zi,zi,zi,zi,zi,zi,zn,zn,zb,zi,zi] [(0,1,
 (ci 2)),(1,1,(ci 0)),(2,1,(ci 1)),(3,4,(.s 4)),(7,1,(.s 7))]),o 2 (.allocL [zi,zi,zi,zi,zi,zi,zn,zn,zb,zi,zi]),oP 11
 2 8]) (.seq (rF [o 9 (.build [ze,zi,zi,zi,zb,zi] [(0,1,(.c (.t (.str (bs [120]))))),(1,1,(ci 2)),(3,1,(ci (-1)))]),o 10 (.build
 [ze,zi,zi,zi,zb,zi] [(0,1,(.c (.t (.str (bs [114]))))),(1,1,(ci 2)),(3,1,(ci 0))]),o 11 (.bslice 6 2 [ze,zi,zi,zi,zb,zi] [(0,
 (.s 9)),(1,(.s 10))]),oK 12 4 1,o 13 (.bslice 1 1 [zi] [(0,(ci 0))]),o 14 (.build [ze,ze,zi,zi,zi,zn,zi,zi,zi,zn,zn] [(0,1,
 (.c (.t (.str (bs [77]))))),(1,1,(.c (.t (.str (bs [65,110,110]))))),(6,4,(.s 12)),(10,1,(.s 13))]),o 15 (.bslice 11 1 [ze,ze,zi,
 zi,zi,zn,zi,zi,zi,zn,zn] [(0,(.s 14))]),oK 16 4 1,oK 17 4 1,o 18 (.bslice 4 2 [zi,zi,zi,zn] [(0,(.s 16)),(1,(.s 17))]),o 19
 (.bslice 1 2 [zi] [(0,(ci 0)),(1,(ci 0))]),oK 20 11 2,o 21 (.bslice 11 1 [zi,zi,zi,zi,zi,zi,zn,zn,zb,zi,zi] [(0,(.s 20))]),o
 22 (.build [ze,zi,zn,zn,zn,zn,zb] [(0,1,(.c (.t (.str (bs [116]))))),(1,1,(ci 2)),(2,1,(.s 18)),(3,1,(.s 19)),(4,1,(.s 21))]),
 o 23 (.bslice 7 1 [ze,zi,zn,zn,zn,zn,zb] [(0,(.s 22))]),o 24 (.build [zn,zn,zn,zn] [(0,1,(.s 11)),(1,1,(.s 15)),(3,1,(.s 23))]),oP 4 0 24]) .ret))))⟩
def f237:F:=⟨8,false,[.l 4 true 4],(.seq (rF [o 4 (.allocL [zi,zi,zi,zn])]) (.seq (rF [oM 5 0,oM 6 1,o 7 (.call false (cf 62) [(.s 5),(.s 6)]),oP 4 4 7]) .ret))⟩
def f238:F:=⟨8,false,[.l 4 true 4],(.seq (rF [o 4 (.allocL [zi,zi,zi,zn])]) (.seq (rF [oM 5 1,oM 6 0,o 7 (.build [zi,zi,zi,zn]
 [(0,1,(ci 3)),(1,1,(.s 5)),(2,1,(.s 6))]),oP 4 4 7]) .ret))⟩
def f239:F:=⟨122,false,[.s 4],(.seq (rF [oQ 2 7 0,oB 4 false]) (.seq (.seq (rF [oF 9 2 2,oL 10 9,oN 11 10,oD 12 .gtr 11 60,oM 13
 12,gF 13 false 14 3 2,gL 13 false 15 14,gN 13 false 16 15,gD 13 false 17 .gtr 16 60,oV 18 13 17,oM 19 18,gF 19 false 20 4 2,gL 19 false
 21 20,gN 19 false 22 21,gD 19 false 23 .gtr 22 80,oV 24 19 23,oM 25 24,gF 25 false 26 5 2,gL 25 false 27 26,gN 25 false 28 27,gD 25 false
 29 .gtr 28 12,oV 30 25 29]) (.cond (.s 30) (.seq (rF [oB 4 false]) .ret) .skip)) (.seq (.seq (rF [oI 5 0]) (.block 0 (.loop (.seq (.seq (rF
 [oM 31 5,oF 32 2 2,oL 33 32,oN 34 33,oC 35 .lss 31 34]) (.cond (.s 35) .skip (.exit 0))) (.seq (.block 1 (.seq (rF [oF 38 2 2,oL 39 38,
 oM 40 5,oA 41 4 39 40,oS 42 4 41,oM 43 1,o 44 (.call false (cf 23) [(.s 42),(.s 43)]),oT 45 44]) (.cond (.s 45) (.seq (rF [oB 4 false])
 .ret) .skip))) (rF [oM 36 5,oD 37 .add 36 1,oM 5 37])))))) (.seq (.seq (rF [oI 6 0]) (.block 2 (.loop (.seq (.seq (rF [oM 46 6,oF 47 4 2,
 oL 48 47,oN 49 48,oC 50 .lss 46 49]) (.cond (.s 50) .skip (.exit 2))) (.seq (.block 3 (.seq (.seq (rF [oF 53 4 2,oL 54 53,oM 55 6,oA 56
 11 54 55,oG 57 7 56,oR 58 57,oN 59 58,oD 60 .gtr 59 40,oM 61 60,gF 61 false 62 4 2,gL 61 false 63 62,gM 61 false 64 6,gI 61 false 65
 11 63 64,gG 61 false 66 3 65,og 61 false 67 (.load true 4 (.s 66)),gM 61 false 68 1,og 61 false 69 (.call false (cf 23) [(.s 67),(.s 68)]),
 gT 61 false 70 69,oV 71 61 70]) (.cond (.s 71) (.seq (rF [oB 4 false]) .ret) .skip)) (.seq (rF [oI 7 0]) (.block 4 (.loop (.seq (.seq (rF [oM
 72 7,oF 73 4 2,oL 74 73,oM 75 6,oA 76 11 74 75,oG 77 7 76,oR 78 77,oN 79 78,oC 80 .lss 72 79]) (.cond (.s 80) .skip (.exit 4))) (.seq
 (.block 5 (.seq (rF [oF 83 4 2,oL 84 83,oM 85 6,oA 86 11 84 85,oG 87 7 86,oR 88 87,oM 89 7,oA 90 5 88 89,oG 91 1 90,oS 92 4 91,oM 93
 1,o 94 (.call false (cf 23) [(.s 92),(.s 93)]),oT 95 94]) (.cond (.s 95) (.seq (rF [oB 4 false]) .ret) .skip))) (rF [oM 81 7,oD 82 .add 81
 1,oM 7 82])))))))) (rF [oM 51 6,oD 52 .add 51 1,oM 6 52])))))) (.seq (.seq (rF [oI 8 0]) (.block 6 (.loop (.seq (.seq (rF [oM 96 8,oF 97
 5 2,oL 98 97,oN 99 98,oC 100 .lss 96 99]) (.cond (.s 100) .skip (.exit 6))) (.seq (.block 7 (.seq (rF [oF 103 5 2,oL 104 103,oM 105 8,oA
 106 6 104 105,oG 107 1 106,oR 108 107,oN 109 108,oD 110 .gtr 109 60,oM 111 110,gF 111 false 112 5 2,gL 111 false 113 112,gM 111 false
 114 8,gI 111 false 115 6 113 114,gG 111 false 116 2 115,og 111 false 117 (.load true 4 (.s 116)),gM 111 false 118 1,og 111 false 119 (.call
 false (cf 23) [(.s 117),(.s 118)]),gT 111 false 120 119,oV 121 111 120]) (.cond (.s 121) (.seq (rF [oB 4 false]) .ret) .skip))) (rF [oM 101
 8,oD 102 .add 101 1,oM 8 102])))))) (.seq (rF [oB 4 true]) .ret))))))⟩
def f240:F:=⟨1,false,[], .ext .itoa⟩
def f241:F:=⟨10,true,[],(.seq (rF [oM 4 0,oM 5 1,o 6 (.call false (cf 259) [(.s 5),(.c (.t (.str (bs [32]))))]),o 7 (.call true (cf
 258) [(.s 4),(.s 6)])]) (rF [oM 8 0,o 9 (.call true (cf 260) [(.s 8),(.c (.t (.int .u8 10)))])]))⟩
def f242:F:=⟨4,false,[.s 2],(.seq (rF [o 2 (.mv (.c ze))]) (.seq (.seq (rF [oM 3 0]) (.cond (.s 3) (.seq (rF [o 2 (.mv (.c (.t (.str (bs
 [49])))))]) .ret) .skip)) (.seq (rF [o 2 (.mv (.c (.t (.str (bs [48])))))]) .ret)))⟩
def f243:F:=⟨12,false,[.s 2],(.seq (rF [o 1 (.boxH 4 (.s 0)),o 2 (.mv (.c ze))]) (.seq (.seq (rF [oS 5 4 1,o 6 (.call false (cf 51)
 [(.s 5)]),oT 7 6]) (.cond (.s 7) (.seq (rF [o 2 (.mv (.c ze))]) .ret) .skip)) (.seq (rF [o 3 (.allocB)]) (.seq (rF [o 4 (.allocH [(.t .nilf)])])
 (.seq (rF [o 8 (.mkfn 261 [] [(.s 3),(.s 4)]),oO 1 4 8]) (.seq (rF [oR 9 4,o 10 (.call true (.s 9) [(.s 1)])]) (.seq (rF [o 11 (.call true
 (cf 246) [(.s 3)]),oM 2 11]) .ret)))))))⟩
def f244:F:=⟨20,true,[.s 4],(.seq (rF [o 4 (.mv (.c zn))]) (.seq (.seq (rF [oM 7 1,oN 8 7,oI 9 0]) (.block 0 (.loop (.seq (rF [oC 10
 .lss 9 8]) (.seq (.cond (.s 10) .skip (.exit 0)) (.seq (.block 1 (.seq (rF [oA 11 1 7 9,oR 12 11,oM 6 12]) (rF [oM 13 0,oM 14 6,o 15 (.call
 false (cf 240) [(.s 14)]),o 16 (.bslice 1 1 [ze] [(0,(.s 15))]),o 17 (.append 1 16 (.s 13) (.s 16)),oM 0 17]))) (rF [oD 18 .add 9 1,oM 9
 18]))))))) (.seq (rF [oM 19 0,oM 4 19]) .ret)))⟩
def f245:F:=⟨120,true,[],(.seq (rF [oQ 3 7 1]) (.seq (rF [o 4 (.mv (cf 240))]) (.seq (rT [oM 14 0,oF 15 0 3,oL 16 15,oF 17 6 3,oL
 18 17,o 19 (.call false (cf 242) [(.s 18)]),o 20 (.bslice 1 3 [ze] [(0,(.c (.t (.str (bs [116,104,114,101,97,100]))))),(1,(.s 16)),
 (2,(.s 19))]),o 21 (.call true (cf 241) [(.s 14),(.s 20)])]) (.seq (.seq (rF [oF 22 2 3,oL 23 22,oN 24 23,oI 25 0]) (.block 0 (.loop (.seq
 (rF [oC 26 .lss 25 24]) (.seq (.cond (.s 26) .skip (.exit 0)) (.seq (.block 1 (.seq (rF [oM 27 25,oA 28 4 23 25,oS 29 4 28,o 6 (.allocL [zi,
 zi,zi,zn]),oM 5 27,oP 4 6 29]) (rT [oM 30 0,oM 31 4,oF 32 3 3,oL 33 32,oM 34 5,oA 35 1 33 34,oR 36 35,o 37 (.call false (.s 31) [(.s
 36)]),oK 38 4 6,o 39 (.call false (cf 243) [(.s 38)]),o 40 (.bslice 1 3 [ze] [(0,(.c (.t (.str (bs [112,111,105,110,116]))))),(1,(.s
 37)),(2,(.s 39))]),o 41 (.call true (cf 241) [(.s 30),(.s 40)])]))) (rF [oD 42 .add 25 1,oM 25 42]))))))) (.seq (.seq (rF [oF 43 4 3,oL
 44 43,oN 45 44,oI 46 0]) (.block 2 (.loop (.seq (rF [oC 47 .lss 46 45]) (.seq (.cond (.s 47) .skip (.exit 2)) (.seq (.block 3 (.seq (rF [oA
 48 11 44 46,oS 49 11 48,o 8 (.allocL [zi,zi,zi,zi,zi,zi,zn,zn,zb,zi,zi]),oP 11 8 49]) (.seq (rT [oM 50 4,oF 51 0 8,oL 52 51,o
 53 (.call false (.s 50) [(.s 52)]),oM 54 4,oF 55 1 8,oL 56 55,o 57 (.call false (.s 54) [(.s 56)]),oM 58 4,oF 59 2 8,oL 60 59,o 61 (.call
 false (.s 58) [(.s 60)]),oF 62 3 8,oK 63 4 62,o 64 (.call false (cf 243) [(.s 63)]),oF 65 8 8,oL 66 65,o 67 (.call false (cf 242) [(.s
 66)]),oM 68 4,oF 69 9 8,oL 70 69,o 71 (.call false (.s 68) [(.s 70)]),oM 72 4,oF 73 10 8,oL 74 73,o 75 (.call false (.s 72) [(.s 74)]),
 o 76 (.bslice 1 8 [ze] [(0,(.c (.t (.str (bs [115,116,101,112]))))),(1,(.s 53)),(2,(.s 57)),(3,(.s 61)),(4,(.s 64)),(5,(.s 67)),
 (6,(.s 71)),(7,(.s 75))]),oM 9 76]) (.seq (.seq (rF [oF 77 7 8,oL 78 77,oN 79 78,oI 80 0]) (.block 4 (.loop (.seq (rF [oC 81 .lss 80 79])
 (.seq (.cond (.s 81) .skip (.exit 4)) (.seq (.block 5 (.seq (rF [oA 82 5 78 80,oS 83 5 82,o 11 (.allocL [zi,zi,zi,zi,zn]),oP 5 11 83])
 (rT [oM 84 9,oM 85 4,oF 86 0 11,oL 87 86,o 88 (.call false (.s 85) [(.s 87)]),oF 89 1 11,oK 90 4 89,o 91 (.call false (cf 243) [(.s 90)]),
 o 92 (.bslice 1 2 [ze] [(0,(.s 88)),(1,(.s 91))]),o 93 (.append 1 16 (.s 84) (.s 92)),oM 9 93]))) (rF [oD 94 .add 80 1,oM 80 94])))))))
 (rF [oM 95 0,oM 96 9,o 97 (.call true (cf 241) [(.s 95),(.s 96)])]))))) (rF [oD 98 .add 46 1,oM 46 98]))))))) (.seq (rF [oF 99 5 3,oL 100
 99,oN 101 100,oI 102 0]) (.block 6 (.loop (.seq (rF [oC 103 .lss 102 101]) (.seq (.cond (.s 103) .skip (.exit 6)) (.seq (.block 7 (.seq (rF
 [oA 104 6 100 102,oS 105 6 104,o 13 (.allocL [zi,zn,zi,zi,zi,zn]),oP 6 13 105]) (rT [oM 106 0,oM 107 4,oF 108 0 13,oL 109 108,o 110
 (.call false (.s 107) [(.s 109)]),oF 111 2 13,oK 112 4 111,o 113 (.call false (cf 243) [(.s 112)]),o 114 (.bslice 1 3 [ze] [(0,(.c (.t (.str
 (bs [108,111,111,112]))))),(1,(.s 110)),(2,(.s 113))]),oF 115 1 13,oL 116 115,o 117 (.call true (cf 244) [(.s 114),(.s 116)]),o 118
 (.call true (cf 241) [(.s 106),(.s 117)])]))) (rF [oD 119 .add 102 1,oM 102 119]))))))))))))⟩
def f246:F:=⟨1,true,[], .ext .bldG⟩
def f253:F:=⟨26,false,[.s 4],(.seq (rF [oQ 2 4 0,o 4 (.mv (.c zn))]) (.seq (rF [o 5 (.mv (.c zn))]) (.seq (.seq (rF [oF 8 0 2,oL 9 8,
 oN 10 9,oI 11 0]) (.block 0 (.loop (.seq (rF [oC 12 .lss 11 10]) (.seq (.cond (.s 12) .skip (.exit 0)) (.seq (.block 1 (.seq (rF [oM 13 11,
 oA 14 6 9 11,oS 15 6 14,o 7 (.allocL [ze,zi,zi,zi,zb,zi]),oM 6 13,oP 6 7 15]) (.seq (rF [oF 16 3 7,oL 17 16,oM 18 1,oC 19 .eql 17
 18]) (.cond (.s 19) (rF [oM 20 5,oM 21 6,o 22 (.bslice 1 1 [zi] [(0,(.s 21))]),o 23 (.append 1 8 (.s 20) (.s 22)),oM 5 23]) .skip)))) (rF
 [oD 24 .add 11 1,oM 11 24]))))))) (.seq (rF [oM 25 5,oM 4 25]) .ret))))⟩
def f255:F:=⟨140,false,[.s 4],(.seq (rF [oQ 2 7 0,oQ 3 7 1,oB 4 false]) (.seq (.seq (rF [oF 10 0 2,oL 11 10,oF 12 0 3,oL 13 12,oC
 14 .neq 11 13,oM 15 14,gF 15 false 16 1 2,gL 15 false 17 16,gF 15 false 18 1 3,gL 15 false 19 18,gC 15 false 20 .neq 17 19,oV 21 15 20,
 oM 22 21,gF 22 false 23 6 2,gL 22 false 24 23,gF 22 false 25 6 3,gL 22 false 26 25,og 22 false 27 (.eqb true (.s 24) (.s 26)),oV 28 22
 27,oM 29 28,gF 29 false 30 3 2,gL 29 false 31 30,gF 29 false 32 3 3,gL 29 false 33 32,og 29 false 34 (.call false (cf 221) [(.s 31),(.s
 33)]),gT 29 false 35 34,oV 36 29 35,oM 37 36,gF 37 false 38 2 2,gL 37 false 39 38,gN 37 false 40 39,gF 37 false 41 2 3,gL 37 false 42
 41,gN 37 false 43 42,gC 37 false 44 .neq 40 43,oV 45 37 44,oM 46 45,gF 46 false 47 4 2,gL 46 false 48 47,gN 46 false 49 48,gF 46 false
 50 4 3,gL 46 false 51 50,gN 46 false 52 51,gC 46 false 53 .neq 49 52,oV 54 46 53,oM 55 54,gF 55 false 56 5 2,gL 55 false 57 56,gN 55
 false 58 57,gF 55 false 59 5 3,gL 55 false 60 59,gN 55 false 61 60,gC 55 false 62 .neq 58 61,oV 63 55 62]) (.cond (.s 63) (.seq (rF [oB
 4 false]) .ret) .skip)) (.seq (.seq (rF [oI 5 0]) (.block 0 (.loop (.seq (.seq (rF [oM 64 5,oF 65 2 2,oL 66 65,oN 67 66,oC 68 .lss 64 67])
 (.cond (.s 68) .skip (.exit 0))) (.seq (.block 1 (.seq (rT [oF 71 2 2,oL 72 71,oM 73 5,oA 74 4 72 73,oS 75 4 74,oF 76 2 3,oL 77 76,oM
 78 5,oA 79 4 77 78,oS 80 4 79,o 81 (.call false (cf 156) [(.s 75),(.s 80)]),oT 82 81]) (.cond (.s 82) (.seq (rF [oB 4 false]) .ret) .skip)))
 (rF [oM 69 5,oD 70 .add 69 1,oM 5 70])))))) (.seq (.seq (rF [oI 6 0]) (.block 2 (.loop (.seq (.seq (rF [oM 83 6,oF 84 4 2,oL 85 84,oN 86
 85,oC 87 .lss 83 86]) (.cond (.s 87) .skip (.exit 2))) (.seq (.block 3 (.seq (rT [oF 90 4 2,oL 91 90,oM 92 6,oA 93 11 91 92,oS 94 11 93,
 oF 95 4 3,oL 96 95,oM 97 6,oA 98 11 96 97,oS 99 11 98,o 100 (.call false (cf 264) [(.s 94),(.s 99)]),oT 101 100]) (.cond (.s 101) (.seq
 (rF [oB 4 false]) .ret) .skip))) (rF [oM 88 6,oD 89 .add 88 1,oM 6 89])))))) (.seq (.seq (rF [oI 7 0]) (.block 4 (.loop (.seq (.seq (rF [oM
 102 7,oF 103 5 2,oL 104 103,oN 105 104,oC 106 .lss 102 105]) (.cond (.s 106) .skip (.exit 4))) (.seq (.block 5 (.seq (rF [oF 109 5 2,oL
 110 109,oM 111 7,oA 112 6 110 111,oS 113 6 112,o 8 (.allocL [zi,zn,zi,zi,zi,zn]),oP 6 8 113]) (.seq (rF [oF 114 5 3,oL 115 114,oM
 116 7,oA 117 6 115 116,oS 118 6 117,o 9 (.allocL [zi,zn,zi,zi,zi,zn]),oP 6 9 118]) (.seq (rF [oF 119 0 8,oL 120 119,oF 121 0 9,oL
 122 121,oC 123 .neq 120 122,oM 124 123,gF 124 false 125 1 8,gL 124 false 126 125,gF 124 false 127 1 9,gL 124 false 128 127,og 124 false
 129 (.call false (cf 221) [(.s 126),(.s 128)]),gT 124 false 130 129,oV 131 124 130,oM 132 131,gF 132 false 133 2 8,gK 132 false 134 4 133,
 gF 132 false 135 2 9,gK 132 false 136 4 135,og 132 false 137 (.call false (cf 156) [(.s 134),(.s 136)]),gT 132 false 138 137,oV 139 132
 138]) (.cond (.s 139) (.seq (rF [oB 4 false]) .ret) .skip))))) (rF [oM 107 7,oD 108 .add 107 1,oM 7 108])))))) (.seq (rF [oB 4 true]) .ret))))))⟩
def f258:F:=⟨1,true,[], .ext .bldS⟩
def f259:F:=⟨1,false,[], .ext .joinS⟩
def f260:F:=⟨1,true,[], .ext .bldB⟩
def f261:F:=⟨61,true,[],(.seq (.seq (rF [oM 6 0,o 7 (.nilchk (.s 6)),oG 8 0 7,oR 9 8]) (.block 0 (.seq (.seq (rF [oD 11 .eql 9 1,oM
 10 11]) (.cond (.s 10) .skip (.seq (rF [oD 12 .eql 9 2,oM 10 12]) (.cond (.s 10) .skip (rF [oD 13 .eql 9 3,oM 10 13]))))) (.cond (.s 10) (.seq
 (rT [oM 14 0,o 15 (.nilchk (.s 14)),oG 16 0 15,oR 17 16,o 18 (.call false (cf 262) [(.s 17)]),oM 19 0,o 20 (.nilchk (.s 19)),oG 21 2 20,
 oR 22 21,o 23 (.call false (cf 240) [(.s 22)]),oC 24 .add 18 23,o 25 (.bin .add (.s 24) (.c (.t (.str (bs [58]))))),oM 26 0,o 27 (.nilchk
 (.s 26)),oG 28 1 27,oR 29 28,o 30 (.call false (cf 240) [(.s 29)]),oC 31 .add 25 30,o 32 (.call true (cf 258) [(.s 1),(.s 31)])]) .ret)
 .skip)))) (.seq (rF [oM 33 0,o 34 (.nilchk (.s 33)),oG 35 0 34,oR 36 35,oD 37 .sub 36 4,o 38 (.iaddrA 11 1 (.g 1) (.s 37)),oR 39 38,o
 40 (.call true (cf 258) [(.s 1),(.s 39)])]) (.seq (rF [o 4 (.mv (.c (.t (.str (bs [40])))))]) (.seq (.seq (rF [oM 41 0,o 42 (.nilchk (.s 41)),
 oG 43 3 42,oR 44 43,oN 45 44,oI 46 0]) (.block 1 (.loop (.seq (rF [oC 47 .lss 46 45]) (.seq (.cond (.s 47) .skip (.exit 1)) (.seq (.block
 2 (.seq (rF [oM 48 46,oM 5 48]) (.seq (rF [oM 49 4,o 50 (.call true (cf 258) [(.s 1),(.s 49)])]) (.seq (rT [oR 51 2,oM 52 0,o 53 (.nilchk
 (.s 52)),oG 54 3 53,oR 55 54,oM 56 5,oA 57 4 55 56,o 58 (.call true (.s 51) [(.s 57)])]) (rF [o 4 (.mv (.c (.t (.str (bs [44])))))])))))
 (rF [oD 59 .add 46 1,oM 46 59]))))))) (rF [o 60 (.call true (cf 258) [(.s 1),(.c (.t (.str (bs [41]))))])])))))⟩
def f262:F:=⟨8,false,[.s 2],(.seq (rF [o 2 (.mv (.c ze))]) (.seq (.seq (rF [oM 3 0]) (.block 0 (.seq (rF [oD 5 .eql 3 2,oM 4 5]) (.cond
 (.s 4) (.seq (rF [o 2 (.mv (.c (.t (.str (bs [99])))))]) .ret) (.seq (rF [oD 7 .eql 3 3,oM 6 7]) (.cond (.s 6) (.seq (rF [o 2 (.mv (.c (.t (.str
 (bs [111])))))]) .ret) .skip)))))) (.seq (rF [o 2 (.mv (.c ze))]) .ret)))⟩
def f264:F:=⟨99,false,[.s 4],(.seq (rF [oQ 2 11 0,oQ 3 11 1,oB 4 false]) (.seq (.seq (rF [oF 6 0 2,oL 7 6,oF 8 0 3,oL 9 8,oC 10
 .neq 7 9,oM 11 10,gF 11 false 12 1 2,gL 11 false 13 12,gF 11 false 14 1 3,gL 11 false 15 14,gC 11 false 16 .neq 13 15,oV 17 11 16,oM
 18 17,gF 18 false 19 2 2,gL 18 false 20 19,gF 18 false 21 2 3,gL 18 false 22 21,gC 18 false 23 .neq 20 22,oV 24 18 23,oM 25 24,gF 25
 false 26 8 2,gL 25 false 27 26,gF 25 false 28 8 3,gL 25 false 29 28,og 25 false 30 (.eqb true (.s 27) (.s 29)),oV 31 25 30,oM 32 31,gF
 32 false 33 9 2,gL 32 false 34 33,gF 32 false 35 9 3,gL 32 false 36 35,gC 32 false 37 .neq 34 36,oV 38 32 37,oM 39 38,gF 39 false 40 10
 2,gL 39 false 41 40,gF 39 false 42 10 3,gL 39 false 43 42,gC 39 false 44 .neq 41 43,oV 45 39 44,oM 46 45,gF 46 false 47 3 2,gK 46 false
 48 4 47,gF 46 false 49 3 3,gK 46 false 50 4 49,og 46 false 51 (.call false (cf 156) [(.s 48),(.s 50)]),gT 46 false 52 51,oV 53 46 52,oM
 54 53,gF 54 false 55 7 2,gL 54 false 56 55,gN 54 false 57 56,gF 54 false 58 7 3,gL 54 false 59 58,gN 54 false 60 59,gC 54 false 61 .neq
 57 60,oV 62 54 61]) (.cond (.s 62) (.seq (rF [oB 4 false]) .ret) .skip)) (.seq (.seq (rF [oI 5 0]) (.block 0 (.loop (.seq (.seq (rF [oM 63 5,
 oF 64 7 2,oL 65 64,oN 66 65,oC 67 .lss 63 66]) (.cond (.s 67) .skip (.exit 0))) (.seq (.block 1 (.seq (rT [oF 70 7 2,oL 71 70,oM 72 5,oA
 73 5 71 72,oG 74 0 73,oR 75 74,oF 76 7 3,oL 77 76,oM 78 5,oA 79 5 77 78,oG 80 0 79,oR 81 80,oC 82 .neq 75 81,oM 83 82,gF 83 false
 84 7 2,gL 83 false 85 84,gM 83 false 86 5,gI 83 false 87 5 85 86,gG 83 false 88 1 87,og 83 false 89 (.load true 4 (.s 88)),gF 83 false
 90 7 3,gL 83 false 91 90,gM 83 false 92 5,gI 83 false 93 5 91 92,gG 83 false 94 1 93,og 83 false 95 (.load true 4 (.s 94)),og 83 false
 96 (.call false (cf 156) [(.s 89),(.s 95)]),gT 83 false 97 96,oV 98 83 97]) (.cond (.s 98) (.seq (rF [oB 4 false]) .ret) .skip))) (rF [oM
 68 5,oD 69 .add 68 1,oM 5 69])))))) (.seq (rF [oB 4 true]) .ret))))⟩
end Rg
end

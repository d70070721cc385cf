/- Part of the proof of the laws of the package relyguardlaw12: an abstract machine for the program's functions, what they compute, and that the machine is the program's. No condition. (Fn2) -/
import Derived.Test.YtadooimmjnipcaaGreatDoorPartAL
section
namespace Rg
open Go
def f173:F:=⟨193,false,[.s 6],(.seq (rF [oQ 3 4 0,oB 6 false]) (.seq (rF [o 23 (.call false (cf 175) []),oM 7 23]) (.seq (.seq (rF [oK
 24 4 3,o 25 (.call false (cf 9) [(.s 24)]),oT 26 25,oM 27 26,gK 27 false 28 4 3,og 27 false 29 (.call false (cf 176) [(.s 28)]),gT 27 false
 30 29,oV 31 27 30]) (.cond (.s 31) (.seq (rF [oM 32 7,oM 6 32]) .ret) .skip)) (.seq (rF [oM 33 1,o 34 (.conv .i64 (.s 33)),oD 35 .rem 34
 2,o 36 (.bin .add (ci 1) (.s 35)),oM 8 36]) (.seq (rF [oK 38 4 3,oM 39 8,oM 40 2,o 41 (.call false (cf 178) [(.s 38),(.s 39),(.s 40)]),
 oM 37 41,oX 42 37 0,oX 43 37 1,o 9 (.allocL [zn,zn,zn]),oP 3 9 42,oM 10 43]) (.seq (rF [oK 44 4 3,oM 45 8,oK 46 3 9,o 47 (.call false
 (cf 179) [(.s 44),(.s 45),(.s 46)]),oM 11 47]) (.seq (.seq (rF [oI 12 0]) (.block 0 (.loop (.seq (.seq (rF [oM 48 12,oM 49 11,oN 50 49,
 oC 51 .lss 48 50,oM 52 51,gM 52 true 53 12,gD 52 true 54 .lss 53 40,oW 55 52 54]) (.cond (.s 55) .skip (.exit 0))) (.seq (.block 1 (.seq
 (rF [oM 58 11,oM 59 12,oA 60 3 58 59,oS 61 3 60,o 13 (.allocL [zi,zi,zi]),oP 3 13 61]) (.seq (.seq (rT [oF 62 1 13,oL 63 62,oD 64 .lss
 63 0,oM 65 64,gF 65 false 66 0 13,gL 65 false 67 66,gD 65 false 68 .lss 67 0,oV 69 65 68,oM 70 69,gF 70 false 71 0 13,gL 70 false 72
 71,gF 70 false 73 3 3,gL 70 false 74 73,gN 70 false 75 74,gC 70 false 76 .geq 72 75,oV 77 70 76,oM 78 77,gF 78 false 79 1 13,gL 78 false
 80 79,gF 78 false 81 3 3,gL 78 false 82 81,gF 78 false 83 0 13,gL 78 false 84 83,gI 78 false 85 7 82 84,gG 78 false 86 4 85,gR 78 false
 87 86,gN 78 false 88 87,gC 78 false 89 .geq 80 88,oV 90 78 89]) (.cond (.s 90) (.exit 1) .skip)) (.seq (rT [oF 91 3 3,oL 92 91,oF 93 0 13,
 oL 94 93,oA 95 7 92 94,oG 96 4 95,oR 97 96,oF 98 1 13,oL 99 98,oA 100 11 97 99,oG 101 0 100,oR 102 101,oM 14 102]) (.seq (.seq (rF [oM
 103 14,oD 104 .neq 103 3,oM 105 104,gM 105 true 106 14,gD 105 true 107 .neq 106 1,oW 108 105 107,oM 109 108,gM 109 true 110 14,gD 109
 true 111 .neq 110 5,oW 112 109 111]) (.cond (.s 112) (.exit 1) .skip)) (.seq (rF [oI 15 0]) (.block 2 (.loop (.seq (.seq (rF [oM 113 15,oM
 114 11,oN 115 114,oC 116 .lss 113 115,oM 117 116,gM 117 true 118 15,gD 117 true 119 .lss 118 40,oW 120 117 119]) (.cond (.s 120) .skip
 (.exit 2))) (.seq (.block 3 (.seq (rF [oM 123 11,oM 124 15,oA 125 3 123 124,oS 126 3 125,o 16 (.allocL [zi,zi,zi]),oP 3 16 126]) (.seq
 (.seq (rF [oF 127 1 16,oL 128 127,oD 129 .geq 128 0,oM 130 129,gF 130 false 131 0 16,gL 130 false 132 131,gF 130 false 133 0 13,gL 130
 false 134 133,gC 130 false 135 .eql 132 134,oV 136 130 135]) (.cond (.s 136) (.exit 3) .skip)) (.seq (rF [oK 138 4 3,oM 139 8,oK 140 3 9,
 oK 141 3 13,o 142 (.call false (cf 180) [(.s 138),(.s 139),(.s 140),(.s 141)]),oM 137 142,oX 143 137 0,oX 144 137 1,o 17 (.allocL [zn,
 zn,zn]),oP 3 17 143,oM 18 144]) (.seq (rF [oK 146 4 3,oM 147 8,oK 148 3 9,oK 149 3 16,o 150 (.call false (cf 180) [(.s 146),(.s 147),
 (.s 148),(.s 149)]),oM 145 150,oX 151 145 0,oX 152 145 1,o 19 (.allocL [zn,zn,zn]),oP 3 19 151,oM 20 152]) (.seq (rF [oK 154 4 3,oM
 155 8,oK 156 3 17,oK 157 3 16,o 158 (.call false (cf 180) [(.s 154),(.s 155),(.s 156),(.s 157)]),oM 153 158,oX 159 153 0,oX 160 153
 1,oP 3 17 159,oM 21 160]) (.seq (rF [oK 162 4 3,oM 163 8,oK 164 3 19,oK 165 3 13,o 166 (.call false (cf 180) [(.s 162),(.s 163),(.s 164),
 (.s 165)]),oM 161 166,oX 167 161 0,oX 168 161 1,oP 3 19 167,oM 22 168]) (.seq (rF [oM 169 18,oD 170 .neq 169 0,oM 171 170,gM 171 false
 172 20,gD 171 false 173 .neq 172 0,oV 174 171 173,oM 175 174,gM 175 false 176 21,gD 175 false 177 .neq 176 0,oV 178 175 177,oM 179 178,
 gM 179 false 180 22,gD 179 false 181 .neq 180 0,oV 182 179 181,oM 183 182,gK 183 false 184 3 17,gK 183 false 185 3 19,og 183 false 186
 (.call false (cf 11) [(.s 184),(.s 185)]),gT 183 false 187 186,oV 188 183 187]) (.cond (.s 188) (.seq (rF [oB 6 false]) .ret) .skip)))))))))
 (rF [oM 121 15,oD 122 .add 121 1,oM 15 122]))))))))))) (rF [oM 56 12,oD 57 .add 56 1,oM 12 57])))))) (.seq (rF [oM 189 7,oM 190 189,gM
 190 true 191 10,oW 192 190 191,oM 6 192]) .ret))))))))⟩
def f174:F:=⟨290,false,[.s 8],(.seq (rF [oQ 4 4 0,oB 8 false]) (.seq (rF [o 26 (.call false (cf 175) []),oM 9 26]) (.seq (.seq (rF [oK
 27 4 4,o 28 (.call false (cf 9) [(.s 27)]),oT 29 28,oM 30 29,gK 30 false 31 4 4,og 30 false 32 (.call false (cf 176) [(.s 31)]),gT 30 false
 33 32,oV 34 30 33]) (.cond (.s 34) (.seq (rF [oM 35 9,oM 8 35]) .ret) .skip)) (.seq (rF [oM 36 1,o 37 (.call false (cf 177) [(.s 36)]),oM
 10 37]) (.seq (rF [oK 39 4 4,oM 40 10,oM 41 2,o 42 (.call false (cf 178) [(.s 39),(.s 40),(.s 41)]),oM 38 42,oX 43 38 0,oX 44 38 1,o
 11 (.allocL [zn,zn,zn]),oP 3 11 43,oM 12 44]) (.seq (rF [oK 45 4 4,oM 46 10,oK 47 3 11,o 48 (.call false (cf 179) [(.s 45),(.s 46),(.s
 47)]),oM 13 48]) (.seq (.seq (rF [oM 49 12,oT 50 49,oM 51 50,gM 51 false 52 13,gN 51 false 53 52,gD 51 false 54 .eql 53 0,oV 55 51 54,
 oM 56 55,gM 56 false 57 13,gN 56 false 58 57,gD 56 false 59 .gtr 58 200,oV 60 56 59]) (.cond (.s 60) (.seq (rF [oM 61 9,oM 62 61,gM 62
 true 63 12,oW 64 62 63,oM 8 64]) .ret) .skip)) (.seq (rF [oM 65 13,oM 66 3,o 67 (.conv .i64 (.s 66)),oM 68 13,oN 69 68,oC 70 .rem 67 69,
 oA 71 3 65 70,oS 72 3 71,o 14 (.allocL [zi,zi,zi]),oP 3 14 72]) (.seq (rF [oK 74 4 4,oM 75 10,oK 76 3 11,oK 77 3 14,o 78 (.call false
 (cf 180) [(.s 74),(.s 75),(.s 76),(.s 77)]),oM 73 78,oX 79 73 0,oX 80 73 1,o 15 (.allocL [zn,zn,zn]),oP 3 15 79,oM 16 80]) (.seq (.seq
 (rT [oM 81 16,oD 82 .neq 81 0,oM 83 82,gK 83 false 84 3 15,og 83 false 85 (.call false (cf 181) [(.s 84)]),gT 83 false 86 85,oV 87 83 86,
 oM 88 87,gK 88 false 89 4 4,gM 88 false 90 10,gK 88 false 91 3 15,og 88 false 92 (.call false (cf 182) [(.s 89),(.s 90),(.s 91)]),gT 88
 false 93 92,oV 94 88 93,oM 95 94,gF 95 false 96 0 14,gL 95 false 97 96,gD 95 false 98 .lss 97 0,oV 99 95 98,oM 100 99,gF 100 false 101
 0 14,gL 100 false 102 101,gF 100 false 103 3 4,gL 100 false 104 103,gN 100 false 105 104,gC 100 false 106 .geq 102 105,oV 107 100 106,
 oM 108 107,gF 108 false 109 1 14,gL 108 false 110 109,gF 108 false 111 3 4,gL 108 false 112 111,gF 108 false 113 0 14,gL 108 false 114
 113,gI 108 false 115 7 112 114,gG 108 false 116 4 115,gR 108 false 117 116,gN 108 false 118 117,gC 108 false 119 .geq 110 118,oV 120 108
 119]) (.cond (.s 120) (.seq (rF [oB 8 false]) .ret) .skip)) (.seq (rF [oI 17 (-1)]) (.seq (rF [oF 121 0 4,oL 122 121,oN 123 122,o 124 (.mkslice
 1 1 [zb] (.s 123) (.s 123)),oM 18 124]) (.seq (.seq (rF [oF 125 1 14,oL 126 125,oD 127 .geq 126 0]) (.cond (.s 127) (.seq (rT [oF 128 3 4,
 oL 129 128,oF 130 0 14,oL 131 130,oA 132 7 129 131,oG 133 4 132,oR 134 133,oF 135 1 14,oL 136 135,oA 137 11 134 136,oS 138 11 137,o
 19 (.allocL [zi,zi,zi,zi,zi,zi,zn,zn,zb,zi,zi]),oP 11 19 138]) (.seq (.seq (rF [oF 139 0 19,oL 140 139,oD 141 .eql 140 6]) (.cond
 (.s 141) (rF [oF 142 9 19,oL 143 142,oM 17 143]) .skip)) (.seq (rF [oK 144 11 19,o 145 (.call false (cf 28) [(.s 144)]),oM 20 145]) (.seq
 (rF [oI 21 0]) (.block 0 (.loop (.seq (.seq (rF [oM 146 21,oM 147 20,oN 148 147,oC 149 .lss 146 148]) (.cond (.s 149) .skip (.exit 0))) (.seq
 (.block 1 (.seq (.seq (rF [oM 152 20,oM 153 21,oA 154 1 152 153,oR 155 154,oD 156 .lss 155 0,oM 157 156,gM 157 false 158 20,gM 157 false
 159 21,gI 157 false 160 1 158 159,gR 157 false 161 160,gM 157 false 162 18,gN 157 false 163 162,gC 157 false 164 .geq 161 163,oV 165 157
 164]) (.cond (.s 165) (.seq (rF [oB 8 false]) .ret) .skip)) (rF [oM 166 18,oM 167 20,oM 168 21,oA 169 1 167 168,oR 170 169,oA 171 1 166
 170,on (.store 1 (.s 171) (cb true))]))) (rF [oM 150 21,oD 151 .add 150 1,oM 21 151]))))))))) (.seq (rF [oI 22 0]) (.block 2 (.loop (.seq
 (.seq (rF [oM 172 22,oF 173 2 11,oL 174 173,oF 175 0 14,oL 176 175,oA 177 1 174 176,oR 178 177,oN 179 178,oC 180 .lss 172 179]) (.cond
 (.s 180) .skip (.exit 2))) (.seq (.block 3 (.seq (rF [oI 23 0]) (.block 4 (.loop (.seq (.seq (rF [oM 183 23,oF 184 2 11,oL 185 184,oF 186
 0 14,oL 187 186,oA 188 1 185 187,oR 189 188,oM 190 22,oA 191 2 189 190,oG 192 0 191,oR 193 192,oN 194 193,oC 195 .lss 183 194]) (.cond
 (.s 195) .skip (.exit 4))) (.seq (.block 5 (rF [oM 198 18,oF 199 2 11,oL 200 199,oF 201 0 14,oL 202 201,oA 203 1 200 202,oR 204 203,oM
 205 22,oA 206 2 204 205,oG 207 0 206,oR 208 207,oM 209 23,oA 210 1 208 209,oR 211 210,oA 212 1 198 211,on (.store 1 (.s 212) (cb true))]))
 (rF [oM 196 23,oD 197 .add 196 1,oM 23 197]))))))) (rF [oM 181 22,oD 182 .add 181 1,oM 22 182])))))))) (.seq (.seq (rF [oI 24 0]) (.block
 6 (.loop (.seq (.seq (rF [oM 213 24,oF 214 0 4,oL 215 214,oN 216 215,oC 217 .lss 213 216]) (.cond (.s 217) .skip (.exit 6))) (.seq (.block
 7 (.seq (rT [oM 220 18,oM 221 24,oA 222 1 220 221,oR 223 222,oT 224 223,oM 225 224,gF 225 true 226 0 15,gL 225 true 227 226,gM 225 true
 228 24,gI 225 true 229 1 227 228,gR 225 true 230 229,gF 225 true 231 0 11,gL 225 true 232 231,gM 225 true 233 24,gI 225 true 234 1 232
 233,gR 225 true 235 234,gC 225 true 236 .neq 230 235,oW 237 225 236]) (.cond (.s 237) (.seq (rF [oB 8 false]) .ret) .skip))) (rF [oM 218 24,
 oD 219 .add 218 1,oM 24 219])))))) (.seq (.seq (rF [oI 25 0]) (.block 8 (.loop (.seq (.seq (rF [oM 238 25,oF 239 3 4,oL 240 239,oN 241 240,
 oC 242 .lss 238 241]) (.cond (.s 242) .skip (.exit 8))) (.seq (.block 9 (.seq (.seq (rT [oM 245 25,oF 246 0 14,oL 247 246,oC 248 .neq 245
 247,oM 249 248,gM 249 true 250 25,gM 249 true 251 17,gC 249 true 252 .neq 250 251,oW 253 249 252,oM 254 253,gF 254 true 255 1 15,gL 254
 true 256 255,gM 254 true 257 25,gI 254 true 258 1 256 257,gR 254 true 259 258,gF 254 true 260 1 11,gL 254 true 261 260,gM 254 true 262
 25,gI 254 true 263 1 261 262,gR 254 true 264 263,gC 254 true 265 .neq 259 264,oW 266 254 265]) (.cond (.s 266) (.seq (rF [oB 8 false]) .ret)
 .skip)) (.seq (rT [oM 267 25,oF 268 0 14,oL 269 268,oC 270 .neq 267 269,oM 271 270,gF 271 true 272 2 15,gL 271 true 273 272,gM 271 true
 274 25,gI 271 true 275 1 273 274,gR 271 true 276 275,og 271 true 277 (.bslice 1 1 [zn] [(0,(.s 276))]),og 271 true 278 (.build [zn,zn,
 zn] [(2,1,(.s 277))]),gF 271 true 279 2 11,gL 271 true 280 279,gM 271 true 281 25,gI 271 true 282 1 280 281,gR 271 true 283 282,og 271
 true 284 (.bslice 1 1 [zn] [(0,(.s 283))]),og 271 true 285 (.build [zn,zn,zn] [(2,1,(.s 284))]),og 271 true 286 (.call false (cf 11) [(.s
 278),(.s 285)]),gT 271 true 287 286,oW 288 271 287]) (.cond (.s 288) (.seq (rF [oB 8 false]) .ret) .skip)))) (rF [oM 243 25,oD 244 .add 243
 1,oM 25 244])))))) (.seq (rF [oM 289 9,oM 8 289]) .ret))))))))))))))))⟩
def f175:F:=⟨123,false,[.s 0],(.seq (rF [oB 0 false]) (.seq (rF [o 14 (.call false (cf 184) []),o 1 (.allocL [zn,zn,zn,zn]),oP 4
 1 14]) (.seq (rF [oK 16 4 1,o 17 (.call false (cf 64) [(.s 16)]),oM 15 17,oX 18 15 0,oX 19 15 1,oX 20 15 2,oM 2 18,oM 3 19,oM 4 20])
 (.seq (rF [oM 21 2,oD 22 .eql 21 0,oM 23 22,og 23 true 24 (.call false (cf 61) [(ci 1),(ci 1)]),og 23 true 25 (.call false (cf 27) [(.s
 24),(.c zn),(.c zn)]),gD 23 true 26 .eql 25 1,oW 27 23 26,oM 5 27]) (.seq (rF [o 28 (.build [zi,zi,zi] [(1,1,(ci (-1)))]),o 29 (.build
 [zi,zi,zi] [(1,1,(ci (-1))),(2,1,(ci 1))]),o 6 (.allocL [zi,zi,zi]),o 7 (.allocL [zi,zi,zi]),oP 3 6 28,oP 3 7 29]) (.seq (rF [oK
 31 4 1,o 32 (.build [zi,zi,zi] []),o 33 (.build [zi,zi,zi] [(1,1,(ci 1))]),o 34 (.bslice 3 2 [zi,zi,zi] [(0,(.s 32)),(1,(.s 33))]),
 o 35 (.call false (cf 185) [(.s 31),(ci 1),(.s 34)]),oM 30 35,oX 36 30 0,oX 37 30 1,o 8 (.allocL [zn,zn,zn]),oP 3 8 36,oM 9 37]) (.seq
 (rT [oM 38 5,oM 39 38,gM 39 true 40 9,oW 41 39 40,oM 42 41,gK 42 true 43 4 1,gK 42 true 44 3 8,og 42 true 45 (.call false (cf 179) [(.s
 43),(ci 1),(.s 44)]),gK 42 true 46 3 6,og 42 true 47 (.bslice 3 1 [zi,zi,zi] [(0,(.s 46))]),og 42 true 48 (.call false (cf 40) [(.s 45),
 (.s 47)]),oW 49 42 48,oM 50 49,gK 50 true 51 4 1,gK 50 true 52 3 8,og 50 true 53 (.call false (cf 179) [(.s 51),(ci 2),(.s 52)]),gK 50
 true 54 3 6,gK 50 true 55 3 7,og 50 true 56 (.bslice 3 2 [zi,zi,zi] [(0,(.s 54)),(1,(.s 55))]),og 50 true 57 (.call false (cf 40) [(.s
 53),(.s 56)]),oW 58 50 57,oM 59 58,gK 59 true 60 3 8,og 59 true 61 (.call false (cf 186) [(.s 60)]),gT 59 true 62 61,oW 63 59 62,oM 5
 63]) (.seq (rF [oK 65 4 1,o 66 (.build [zi,zi,zi] []),o 67 (.build [zi,zi,zi] [(1,1,(ci 1))]),oK 68 3 7,o 69 (.bslice 3 3 [zi,zi,
 zi] [(0,(.s 66)),(1,(.s 67)),(2,(.s 68))]),o 70 (.call false (cf 185) [(.s 65),(ci 2),(.s 69)]),oM 64 70,oX 71 64 0,oX 72 64 1,o
 10 (.allocL [zn,zn,zn]),oP 3 10 71,oM 9 72]) (.seq (rF [oM 73 5,oM 74 73,gM 74 true 75 9,oW 76 74 75,oM 77 76,gF 77 true 78 0 10,gL
 77 true 79 78,og 77 true 80 (.bslice 1 2 [zi] [(0,(ci 0)),(1,(ci 1))]),og 77 true 81 (.call false (cf 34) [(.s 79),(.s 80)]),oW 82 77
 81,oM 83 82,gK 83 true 84 4 1,gK 83 true 85 3 10,og 83 true 86 (.call false (cf 183) [(.s 84),(.s 85),(ci 0)]),og 83 true 87 (.bslice
 1 2 [zi] [(0,(ci 1)),(1,(ci 1))]),og 83 true 88 (.call false (cf 34) [(.s 86),(.s 87)]),oW 89 83 88,oM 5 89]) (.seq (rF [oK 91 4 1,o
 92 (.build [zi,zi,zi] []),o 93 (.build [zi,zi,zi] [(1,1,(ci 1))]),o 94 (.bslice 3 2 [zi,zi,zi] [(0,(.s 92)),(1,(.s 93))]),o 95
 (.call false (cf 185) [(.s 91),(ci 0),(.s 94)]),oM 90 95,oX 96 90 0,oX 97 90 1,o 11 (.allocL [zn,zn,zn]),oP 3 11 96,oM 9 97]) (.seq
 (rF [oK 99 4 1,oK 100 3 8,oK 101 3 7,o 102 (.call false (cf 180) [(.s 99),(ci 1),(.s 100),(.s 101)]),oM 98 102,oX 103 98 0,oX 104 98
 1,o 12 (.allocL [zn,zn,zn]),oP 3 12 103,oM 13 104]) (.seq (rF [oM 105 5,oM 106 105,gM 106 true 107 9,oW 108 106 107,oM 109 108,gF 109
 true 110 0 11,gL 109 true 111 110,og 109 true 112 (.bslice 1 2 [zi] [(0,(ci 1)),(1,(ci 1))]),og 109 true 113 (.call false (cf 34) [(.s
 111),(.s 112)]),oW 114 109 113,oM 115 114,gK 115 true 116 3 11,og 115 true 117 (.call false (cf 186) [(.s 116)]),oW 118 115 117,oM 119
 118,gM 119 true 120 13,gD 119 true 121 .eql 120 110,oW 122 119 121,oM 0 122]) .ret))))))))))))⟩
def f176:F:=⟨14,false,[.s 2],(.seq (rF [oQ 1 4 0,oB 2 false]) (.seq (rF [oK 7 4 1,o 8 (.call false (cf 65) [(.s 7)]),oM 6 8,oX 9 6
 0,oX 10 6 1,oX 11 6 2,oM 3 9,oM 4 10,oM 5 11]) (.seq (rF [oM 12 3,oD 13 .eql 12 0,oM 2 13]) .ret)))⟩
def f177:F:=⟨6,false,[.s 2],(.seq (rF [oI 2 0]) (.seq (rF [oM 3 0,o 4 (.conv .i64 (.s 3)),oD 5 .rem 4 3,oM 2 5]) .ret))⟩
def f178:F:=⟨68,false,[.l 6 true 3, .s 7],(.seq (rF [oQ 3 4 0,o 6 (.allocL [zn,zn,zn]),oB 7 false]) (.seq (rF [oK 13 4 3,o 14 (.call
 false (cf 12) [(.s 13)]),o 8 (.allocL [zn,zn,zn]),oP 3 8 14]) (.seq (.seq (rF [oI 9 0]) (.block 0 (.loop (.seq (.seq (rF [oM 15 9,oM 16
 2,oN 17 16,oC 18 .lss 15 17,oM 19 18,gM 19 true 20 9,gD 19 true 21 .lss 20 30,oW 22 19 21]) (.cond (.s 22) .skip (.exit 0))) (.seq (.block
 1 (.seq (rF [oK 25 4 3,oM 26 1,oK 27 3 8,o 28 (.call false (cf 179) [(.s 25),(.s 26),(.s 27)]),oM 10 28]) (.seq (.seq (rF [oM 29 10,oN
 30 29,oD 31 .eql 30 0,oM 32 31,gM 32 false 33 10,gN 32 false 34 33,gD 32 false 35 .gtr 34 200,oV 36 32 35]) (.cond (.s 36) (.exit 0) .skip))
 (.seq (rT [oK 38 4 3,oM 39 1,oK 40 3 8,oM 41 10,oM 42 2,oM 43 9,oA 44 1 42 43,oR 45 44,o 46 (.conv .i64 (.s 45)),oM 47 10,oN 48 47,
 oC 49 .rem 46 48,oA 50 3 41 49,oS 51 3 50,o 52 (.call false (cf 180) [(.s 38),(.s 39),(.s 40),(.s 51)]),oM 37 52,oX 53 37 0,oX 54 37
 1,o 11 (.allocL [zn,zn,zn]),oP 3 11 53,oM 12 54]) (.seq (.seq (rF [oM 55 12,oD 56 .neq 55 0]) (.cond (.s 56) (.seq (rF [oK 57 3 8,oP 3
 6 57,oB 7 false]) .ret) .skip)) (rF [oK 58 3 11,oP 3 8 58])))))) (rF [oM 23 9,oD 24 .add 23 1,oM 9 24])))))) (.seq (rT [oK 59 3 8,oK 60
 3 8,o 61 (.call false (cf 181) [(.s 60)]),oM 62 61,gK 62 true 63 4 3,gM 62 true 64 1,gK 62 true 65 3 8,og 62 true 66 (.call false (cf 182)
 [(.s 63),(.s 64),(.s 65)]),oW 67 62 66,oP 3 6 59,oM 7 67]) .ret))))⟩
def b179_0:C:=(.round (rF [o 14 (.allocH [zn,zn]),oO 2 14 65]) (.block 5 (rT [oR 66 9,oR 67 10,oG 68 0 14,oR 69 68,o 70 (.iaddrS 1
 (.s 69) (ci 0)),oR 71 70,o 72 (.build [zi,zi,zi] [(0,1,(.s 67)),(1,1,(ci (-1))),(2,1,(.s 71))]),o 73 (.bslice 3 1 [zi,zi,zi] [(0,
 (.s 72))]),o 74 (.append 3 24 (.s 66) (.s 73)),oO 1 9 74])))
def f179:F:=⟨77,false,[.s 6],(.seq (rF [oQ 3 4 0,oQ 5 3 2,o 6 (.mv (.c zn))]) (.seq (.seq (rF [oM 15 1,oD 16 .eql 15 0]) (.cond (.s
 16) (.seq (rF [oK 17 4 3,oK 18 3 5,o 19 (.call false (cf 17) [(.s 17),(.s 18)]),oM 6 19]) .ret) .skip)) (.seq (rF [oK 21 4 3,oM 22 1,oK
 23 3 5,o 24 (.call false (cf 187) [(.s 21),(.s 22),(.s 23)]),oM 20 24,oX 25 20 0,oX 26 20 1,o 7 (.allocL [zn,zn,zn,zn,zn,zn,zn,
 zi]),oP 8 7 25,oM 8 26]) (.seq (.seq (rF [oM 27 8,oT 28 27]) (.cond (.s 28) (.seq (rF [o 6 (.mv (.c zn))]) .ret) .skip)) (.seq (rF [o 9 (.allocH
 [zn])]) (.seq (.seq (rF [oF 29 0 7,oF 30 1 29,oL 31 30,oN 32 31,oI 33 0]) (.block 0 (.loop (.seq (rF [oC 34 .lss 33 32]) (.seq (.cond (.s
 34) .skip (.exit 0)) (.seq (.block 1 (.seq (rF [oM 35 33,o 10 (.allocH [zi]),oO 1 10 35]) (.seq (rF [oK 36 3 5,oR 37 10,o 38 (.call false
 (cf 188) [(.s 36),(.s 37)]),oM 11 38]) (.seq (.seq (rF [oF 39 3 3,oL 40 39,oR 41 10,oA 42 7 40 41,oG 43 4 42,oR 44 43,oN 45 44,oI 46
 0]) (.block 2 (.loop (.seq (rF [oC 47 .lss 46 45]) (.seq (.cond (.s 47) .skip (.exit 2)) (.seq (.block 3 (.seq (rF [oM 48 46,oM 12 48]) (.seq
 (rF [oK 49 8 7,oR 50 10,oM 51 12,oM 52 11,o 53 (.call false (cf 189) [(.s 49),(.s 50),(.s 51),(.s 52)])]) (.cond (.s 53) (rF [oR 54 9,
 oR 55 10,oM 56 12,o 57 (.build [zi,zi,zi] [(0,1,(.s 55)),(1,1,(.s 56))]),o 58 (.bslice 3 1 [zi,zi,zi] [(0,(.s 57))]),o 59 (.append
 3 24 (.s 54) (.s 58)),oO 1 9 59]) .skip)))) (rF [oD 60 .add 46 1,oM 46 60]))))))) (.seq (rF [oK 61 8 7,oR 62 10,o 63 (.call false (cf 190)
 [(.s 61),(.s 62)])]) (.block 4 (.rangeF (.s 63) [64,65] b179_0))))))) (rF [oD 75 .add 33 1,oM 33 75]))))))) (.seq (rF [oR 76 9,oM 6 76]) .ret)))))))⟩
def b180_0:C:=(.round (.seq (rF [oM 12 57]) (rF [o 13 (.allocH [zn,zn]),oO 2 13 58])) (.block 1 (.seq (rT [oG 59 0 13,oR 60 59,o 61 (.iaddrS
 1 (.s 60) (ci 0)),oR 62 61,oG 63 2 7,oR 64 63,oC 65 .eql 62 64]) (.cond (.s 65) (.seq (rF [oS 66 8 10,oG 67 0 7,oR 68 67,oM 69 12,o 70
 (.call false (cf 191) [(.s 66),(.s 68),(.s 69)]),oO 3 8 70,on (.store 1 (.s 9) (ci 0))]) .ret) .skip))))
def f180:F:=⟨107,false,[.h 8 true 3, .h 9 false 1],(.seq (rF [oQ 4 4 0,oQ 6 3 2,o 7 (.boxH 3 (.s 3)),o 8 (.allocH [zn,zn,zn]),o
 9 (.allocH [zi])]) (.seq (.seq (rF [oM 15 1,oD 16 .eql 15 0]) (.cond (.s 16) (.seq (rF [oK 17 4 4,oK 18 3 6,oS 19 3 7,o 20 (.call false (cf
 18) [(.s 17),(.s 18),(.s 19)]),oX 21 20 0,oX 22 20 1,oO 3 8 21,oO 1 9 22]) .ret) .skip)) (.seq (rF [oK 24 4 4,oM 25 1,oK 26 3 6,o 27
 (.call false (cf 187) [(.s 24),(.s 25),(.s 26)]),oM 23 27,oX 28 23 0,oX 29 23 1,o 10 (.allocH [zn,zn,zn,zn,zn,zn,zn,zi]),oO 8 10
 28,oM 11 29]) (.seq (.seq (rF [oM 30 11,oT 31 30]) (.cond (.s 31) (.seq (rF [o 32 (.build [zn,zn,zn] []),oO 3 8 32,on (.store 1 (.s 9)
 (ci 1))]) .ret) .skip)) (.seq (.seq (rF [oG 33 0 7,oR 34 33,oD 35 .lss 34 0,oM 36 35,gG 36 false 37 0 7,gR 36 false 38 37,gF 36 false 39
 3 4,gL 36 false 40 39,gN 36 false 41 40,gC 36 false 42 .geq 38 41,oV 43 36 42,oM 44 43,gG 44 false 45 1 7,gR 44 false 46 45,gD 44 false
 47 .lss 46 (-1),oV 48 44 47]) (.cond (.s 48) (.seq (rF [o 49 (.build [zn,zn,zn] []),oO 3 8 49,on (.store 1 (.s 9) (ci 110))]) .ret) .skip))
 (.seq (.seq (rF [oG 50 1 7,oR 51 50,oD 52 .eql 51 (-1)]) (.cond (.s 52) (.seq (.seq (rF [oS 53 8 10,oG 54 0 7,oR 55 54,o 56 (.call false
 (cf 190) [(.s 53),(.s 55)])]) (.block 0 (.rangeF (.s 56) [57,58] b180_0))) (.seq (rF [o 71 (.build [zn,zn,zn] []),oO 3 8 71,on (.store
 1 (.s 9) (ci 110))]) .ret)) .skip)) (.seq (rF [oK 72 3 6,oG 73 0 7,oR 74 73,o 75 (.call false (cf 188) [(.s 72),(.s 74)]),oM 14 75]) (.seq
 (.seq (rT [oG 76 2 7,oR 77 76,oD 78 .neq 77 0,oM 79 78,gG 79 false 80 1 7,gR 79 false 81 80,gF 79 false 82 3 4,gL 79 false 83 82,gG 79
 false 84 0 7,gR 79 false 85 84,gI 79 false 86 7 83 85,gG 79 false 87 4 86,gR 79 false 88 87,gN 79 false 89 88,gC 79 false 90 .geq 81 89,
 oV 91 79 90,oM 92 91,og 92 false 93 (.load true 8 (.s 10)),gG 92 false 94 0 7,gR 92 false 95 94,gG 92 false 96 1 7,gR 92 false 97 96,gM
 92 false 98 14,og 92 false 99 (.call false (cf 189) [(.s 93),(.s 95),(.s 97),(.s 98)]),gT 92 false 100 99,oV 101 92 100]) (.cond (.s 101)
 (.seq (rF [o 102 (.build [zn,zn,zn] []),oO 3 8 102,on (.store 1 (.s 9) (ci 110))]) .ret) .skip)) (.seq (rF [oS 103 8 10,oS 104 3 7,oM 105
 14,o 106 (.call false (cf 192) [(.s 103),(.s 104),(.s 105)]),oO 3 8 106,on (.store 1 (.s 9) (ci 0))]) .ret)))))))))⟩
def f181:F:=⟨69,false,[.s 2],(.seq (rF [oQ 1 3 0,oB 2 false]) (.seq (.seq (rF [oF 5 0 1,oL 6 5,oN 7 6,oD 8 .gtr 7 40,oM 9 8,gF 9
 false 10 1 1,gL 9 false 11 10,gN 9 false 12 11,gD 9 false 13 .gtr 12 8,oV 14 9 13,oM 15 14,gF 15 false 16 2 1,gL 15 false 17 16,gN 15
 false 18 17,gD 15 false 19 .gtr 18 8,oV 20 15 19]) (.cond (.s 20) (.seq (rF [oB 2 false]) .ret) .skip)) (.seq (.seq (rF [oI 3 0]) (.block 0
 (.loop (.seq (.seq (rF [oM 21 3,oF 22 2 1,oL 23 22,oN 24 23,oC 25 .lss 21 24]) (.cond (.s 25) .skip (.exit 0))) (.seq (.block 1 (.seq (.seq
 (rF [oF 28 2 1,oL 29 28,oM 30 3,oA 31 1 29 30,oR 32 31,oN 33 32,oD 34 .gtr 33 6]) (.cond (.s 34) (.seq (rF [oB 2 false]) .ret) .skip))
 (.seq (rF [oI 4 0]) (.block 2 (.loop (.seq (.seq (rF [oM 35 4,oF 36 2 1,oL 37 36,oM 38 3,oA 39 1 37 38,oR 40 39,oN 41 40,oC 42 .lss 35
 41]) (.cond (.s 42) .skip (.exit 2))) (.seq (.block 3 (.seq (rF [oF 45 2 1,oL 46 45,oM 47 3,oA 48 1 46 47,oR 49 48,oM 50 4,oA 51 2 49 50,
 oG 52 0 51,oR 53 52,oN 54 53,oD 55 .gtr 54 40,oM 56 55,gF 56 false 57 2 1,gL 56 false 58 57,gM 56 false 59 3,gI 56 false 60 1 58 59,
 gR 56 false 61 60,gM 56 false 62 4,gI 56 false 63 2 61 62,gG 56 false 64 1 63,gR 56 false 65 64,gN 56 false 66 65,gD 56 false 67 .gtr 66
 40,oV 68 56 67]) (.cond (.s 68) (.seq (rF [oB 2 false]) .ret) .skip))) (rF [oM 43 4,oD 44 .add 43 1,oM 4 44])))))))) (rF [oM 26 3,oD 27 .add
 26 1,oM 3 27])))))) (.seq (rF [oB 2 true]) .ret))))⟩
def f182:F:=⟨30,false,[.s 6],(.seq (rF [oQ 3 4 0,oQ 5 3 2,oB 6 false]) (.seq (.seq (rF [oM 7 1,oD 8 .lss 7 0,oM 9 8,gM 9 false 10
 1,gD 9 false 11 .gtr 10 2,oV 12 9 11,oM 13 12,gK 13 false 14 4 3,og 13 false 15 (.call false (cf 176) [(.s 14)]),gT 13 false 16 15,oV
 17 13 16,oM 18 17,gK 18 false 19 4 3,gK 18 false 20 3 5,og 18 false 21 (.call false (cf 193) [(.s 19),(.s 20)]),gT 18 false 22 21,oV 23
 18 22]) (.cond (.s 23) (.seq (rF [oB 6 false]) .ret) .skip)) (.seq (rF [oM 24 1,oD 25 .neq 24 0,oM 26 25,gK 26 false 27 3 5,og 26 false 28
 (.call false (cf 194) [(.s 27)]),oV 29 26 28,oM 6 29]) .ret)))⟩
def f183:F:=⟨30,false,[.s 6],(.seq (rF [oQ 3 4 0,oQ 4 3 1,o 6 (.mv (.c zn))]) (.seq (.seq (rF [oK 7 4 3,o 8 (.call false (cf 195) [(.s
 7)]),oT 9 8,oM 10 9,gK 10 false 11 4 3,gK 10 false 12 3 4,og 10 false 13 (.call false (cf 196) [(.s 11),(.s 12)]),gT 10 false 14 13,oV
 15 10 14,oM 16 15,gM 16 false 17 2,gD 16 false 18 .lss 17 0,oV 19 16 18,oM 20 19,gM 20 false 21 2,gF 20 false 22 3 3,gL 20 false 23 22,
 gN 20 false 24 23,gC 20 false 25 .geq 21 24,oV 26 20 25]) (.cond (.s 26) (.seq (rF [o 6 (.mv (.c zn))]) .ret) .skip)) (.seq (rF [oK 27 3 4,
 oM 28 2,o 29 (.call false (cf 188) [(.s 27),(.s 28)]),oM 6 29]) .ret)))⟩
def f184:F:=⟨25,false,[.l 0 true 4],(.seq (rF [o 0 (.allocL [zn,zn,zn,zn])]) (.seq (rF [o 3 (.call false (cf 157) []),o 1 (.allocH
 [zi,zi,zi,zn]),oO 4 1 3]) (.seq (rF [o 4 (.mkfnT 197 (.s 1)),oM 2 4]) (.seq (rT [o 5 (.build [ze,zi,zi,zi,zb,zi] [(0,1,(.c (.t (.str
 (bs [120]))))),(1,1,(ci 1)),(3,1,(ci (-1)))]),o 6 (.build [ze,zi,zi,zi,zb,zi] [(0,1,(.c (.t (.str (bs [121]))))),(1,1,(ci 1)),
 (3,1,(ci (-1)))]),o 7 (.bslice 6 2 [ze,zi,zi,zi,zb,zi] [(0,(.s 5)),(1,(.s 6))]),oS 8 4 1,o 9 (.bslice 1 2 [zi] [(0,(ci 0)),(1,
 (ci 1))]),o 10 (.build [ze,ze,zi,zi,zi,zn,zi,zi,zi,zn,zn] [(0,1,(.c (.t (.str (bs [77]))))),(1,1,(.c (.t (.str (bs [65,110,
 110]))))),(6,4,(.s 8)),(10,1,(.s 9))]),o 11 (.bslice 11 1 [ze,ze,zi,zi,zi,zn,zi,zi,zi,zn,zn] [(0,(.s 10))]),oS 12 4 1,oS
 13 4 1,oS 14 4 1,o 15 (.bslice 4 3 [zi,zi,zi,zn] [(0,(.s 12)),(1,(.s 13)),(2,(.s 14))]),o 16 (.bslice 1 3 [zi] [(0,(ci 0)),(1,(ci
 0)),(2,(ci 0))]),oM 17 2,o 18 (.call false (.s 17) [(ci 0),(ci 0)]),oM 19 2,o 20 (.call false (.s 19) [(ci 1),(ci 1)]),o 21 (.bslice
 11 2 [zi,zi,zi,zi,zi,zi,zn,zn,zb,zi,zi] [(0,(.s 18)),(1,(.s 20))]),o 22 (.build [ze,zi,zn,zn,zn,zn,zb] [(0,1,(.c (.t (.str
 (bs [116]))))),(1,1,(ci 3)),(2,1,(.s 15)),(3,1,(.s 16)),(4,1,(.s 21))]),o 23 (.bslice 7 1 [ze,zi,zn,zn,zn,zn,zb] [(0,(.s
 22))]),o 24 (.build [zn,zn,zn,zn] [(0,1,(.s 7)),(1,1,(.s 11)),(3,1,(.s 23))]),oP 4 0 24]) .ret))))⟩
def f185:F:=⟨36,false,[.l 6 true 3, .s 7],(.seq (rF [oQ 3 4 0,o 6 (.allocL [zn,zn,zn]),oB 7 false]) (.seq (rF [oK 12 4 3,o 13 (.call
 false (cf 12) [(.s 12)]),o 8 (.allocL [zn,zn,zn]),oP 3 8 13]) (.seq (.seq (rF [oI 9 0]) (.block 0 (.loop (.seq (.seq (rF [oM 14 9,oM 15
 2,oN 16 15,oC 17 .lss 14 16]) (.cond (.s 17) .skip (.exit 0))) (.seq (.block 1 (.seq (rT [oK 21 4 3,oM 22 1,oK 23 3 8,oM 24 2,oM 25 9,
 oA 26 3 24 25,oS 27 3 26,o 28 (.call false (cf 180) [(.s 21),(.s 22),(.s 23),(.s 27)]),oM 20 28,oX 29 20 0,oX 30 20 1,o 10 (.allocL
 [zn,zn,zn]),oP 3 10 29,oM 11 30]) (.seq (.seq (rF [oM 31 11,oD 32 .neq 31 0]) (.cond (.s 32) (.seq (rF [o 33 (.build [zn,zn,zn] []),oP
 3 6 33,oB 7 false]) .ret) .skip)) (rF [oK 34 3 10,oP 3 8 34])))) (rF [oM 18 9,oD 19 .add 18 1,oM 9 19])))))) (.seq (rF [oK 35 3 8,oP 3 6 35,oB 7 true]) .ret))))⟩
def f186:F:=⟨16,false,[.s 2],(.seq (rF [oQ 1 3 0,oB 2 false]) (.seq (.seq (rF [oF 5 2 1,oL 6 5,oN 7 6,oI 8 0]) (.block 0 (.loop (.seq
 (rF [oC 9 .lss 8 7]) (.seq (.cond (.s 9) .skip (.exit 0)) (.seq (.block 1 (.seq (rF [oA 10 1 6 8,oR 11 10,oM 4 11]) (.seq (rF [oM 12 4,oN
 13 12,oD 14 .gtr 13 0]) (.cond (.s 14) (.seq (rF [oB 2 false]) .ret) .skip)))) (rF [oD 15 .add 8 1,oM 8 15]))))))) (.seq (rF [oB 2 true]) .ret)))⟩
def f187:F:=⟨30,false,[.l 6 true 8, .s 7],(.seq (rF [oQ 3 4 0,oQ 5 3 2,o 6 (.allocL [zn,zn,zn,zn,zn,zn,zn,zi]),oB 7 false])
 (.seq (.seq (rF [oM 8 1,oD 9 .neq 8 1,oM 10 9,gM 10 true 11 1,gD 10 true 12 .neq 11 2,oW 13 10 12,oM 14 13,gK 14 false 15 4 3,og 14 false
 16 (.call false (cf 195) [(.s 15)]),gT 14 false 17 16,oV 18 14 17,oM 19 18,gK 19 false 20 4 3,gK 19 false 21 3 5,og 19 false 22 (.call
 false (cf 196) [(.s 20),(.s 21)]),gT 19 false 23 22,oV 24 19 23]) (.cond (.s 24) (.seq (rF [o 25 (.build [zn,zn,zn,zn,zn,zn,zn,zi]
 []),oP 8 6 25,oB 7 false]) .ret) .skip)) (.seq (rF [oK 26 3 5,oK 27 4 3,oM 28 1,o 29 (.build [zn,zn,zn,zn,zn,zn,zn,zi] [(0,3,(.s
 26)),(3,4,(.s 27)),(7,1,(.s 28))]),oP 8 6 29,oB 7 true]) .ret)))⟩
def f188:F:=⟨26,false,[.s 4],(.seq (rF [oQ 2 3 0,o 4 (.mv (.c zn))]) (.seq (rF [oF 8 0 2,oL 9 8,o 10 (.fcall (cf 198) [(.s 9)]),oM
 5 10]) (.seq (.seq (rF [oF 11 2 2,oL 12 11,oM 13 1,oA 14 1 12 13,oR 15 14,oN 16 15,oI 17 0]) (.block 0 (.loop (.seq (rF [oC 18 .lss 17
 16]) (.seq (.cond (.s 18) .skip (.exit 0)) (.seq (.block 1 (.seq (rF [oA 19 2 15 17,oS 20 2 19,o 7 (.allocL [zn,zn]),oP 2 7 20]) (rF [oM
 21 5,oK 22 2 7,o 23 (.call true (cf 199) [(.s 21),(.s 22)])]))) (rF [oD 24 .add 17 1,oM 17 24]))))))) (.seq (rF [oM 25 5,oM 4 25]) .ret))))⟩
def f189:F:=⟨109,false,[.s 8],(.seq (rF [oQ 4 8 0,oB 8 false]) (.seq (rF [oF 12 3 4,oF 13 3 12,oL 14 13,oM 15 1,oA 16 7 14 15,oG
 17 4 16,oR 18 17,oM 19 2,oA 20 11 18 19,oS 21 11 20,o 9 (.allocL [zi,zi,zi,zi,zi,zi,zn,zn,zb,zi,zi]),oP 11 9 21]) (.seq (.seq
 (rT [oF 22 0 4,oF 23 1 22,oL 24 23,oM 25 1,oA 26 1 24 25,oR 27 26,oF 28 1 9,oL 29 28,oC 30 .neq 27 29,oM 31 30,gF 31 false 32 3 9,
 gK 31 false 33 4 32,gM 31 false 34 3,gM 31 false 35 3,og 31 false 36 (.call false (cf 27) [(.s 33),(.s 34),(.s 35)]),gD 31 false 37 .neq
 36 1,oV 38 31 37]) (.cond (.s 38) (.seq (rF [oB 8 false]) .ret) .skip)) (.seq (rF [oF 39 0 4,oF 40 2 39,oL 41 40,oM 42 1,oA 43 1 41 42,
 oR 44 43,oN 45 44,oM 10 45]) (.seq (.seq (rF [oF 46 0 9,oL 47 46]) (.block 0 (.seq (.block 4 (.seq (.block 3 (.seq (.block 2 (.seq (.block
 1 (.seq (.seq (.seq (rF [oD 49 .eql 47 3,oM 48 49]) (.cond (.s 48) (.exit 1) .skip)) (.seq (.seq (.seq (rF [oD 51 .eql 47 4,oM 50 51]) (.cond
 (.s 50) .skip (rF [oD 52 .eql 47 5,oM 50 52]))) (.cond (.s 50) (.exit 2) .skip)) (.seq (.seq (rF [oD 54 .eql 47 6,oM 53 54]) (.cond (.s 53)
 (.exit 3) .skip)) (.seq (rF [oD 56 .eql 47 7,oM 55 56]) (.cond (.s 55) (.exit 4) .skip))))) (.exit 0))) (.seq (rF [oF 57 8 9,oL 58 57,oT 59
 58]) (.cond (.s 59) (.seq (rF [oM 60 10,oD 61 .lss 60 3,oM 8 61]) .ret) .skip)))) (.seq (.seq (rF [oM 62 10,oD 63 .eql 62 0,oM 8 63]) .ret)
 (.exit 0)))) (.seq (.seq (rF [oM 64 10,oD 65 .eql 64 0,oM 66 65,gF 66 true 67 0 4,gF 66 true 68 1 67,gL 66 true 69 68,gF 66 true 70 9 9,
 gL 66 true 71 70,gI 66 true 72 1 69 71,gR 66 true 73 72,gD 66 true 74 .eql 73 (-1),oW 75 66 74,oM 8 75]) .ret) (.exit 0)))) (.seq (.seq
 (rF [oF 76 3 4,oF 77 3 76,oL 78 77,oF 79 9 9,oL 80 79,oA 81 7 78 80,oG 82 1 81,oR 83 82,oD 84 .sub 83 1,oM 11 84]) (.seq (rF [oM 85
 10,oD 86 .eql 85 0,oM 87 86,gF 87 true 88 0 4,gF 87 true 89 1 88,gL 87 true 90 89,gF 87 true 91 9 9,gL 87 true 92 91,gI 87 true 93 1
 90 92,gR 87 true 94 93,gM 87 true 95 11,gC 87 true 96 .eql 94 95,oW 97 87 96,oM 98 97,gF 98 true 99 0 4,gF 98 true 100 2 99,gL 98 true
 101 100,gF 98 true 102 9 9,gL 98 true 103 102,gI 98 true 104 1 101 103,gR 98 true 105 104,gN 98 true 106 105,gD 98 true 107 .eql 106 0,
 oW 108 98 107,oM 8 108]) .ret)) (.exit 0))))) (.seq (rF [oB 8 true]) .ret))))))⟩
def f190:F:=⟨6,false,[.s 4],(.seq (rF [o 2 (.boxH 8 (.s 0)),o 3 (.boxH 1 (.s 1)),o 4 (.mv (.c (.t .nilf)))]) (.seq (rF [o 5 (.mkfn 200
 [] [(.s 2),(.s 3)]),oM 4 5]) .ret))⟩
def f191:F:=⟨36,false,[.l 6 true 3],(.seq (rF [oQ 3 8 0,o 6 (.allocL [zn,zn,zn])]) (.seq (rF [oF 8 0 3,oK 9 3 8,o 10 (.call true
 (cf 202) [(.s 9)]),o 7 (.allocL [zn,zn,zn]),oP 3 7 10]) (.seq (rT [oF 11 0 7,oL 12 11,oF 13 2 7,oL 14 13,oM 15 1,oA 16 1 14 15,oR 17
 16,oM 18 2,oA 19 2 17 18,oS 20 2 19,o 21 (.call true (cf 199) [(.s 12),(.s 20)])]) (.seq (rT [oF 22 2 7,oL 23 22,oM 24 1,oF 25 2 7,oL
 26 25,oM 27 1,oA 28 1 26 27,oR 29 28,oM 30 2,oM 31 2,oD 32 .add 31 1,o 33 (.call true (cf 203) [(.s 29),(.s 30),(.s 32)]),oA 34 1 23
 24,oO 1 34 33]) (.seq (rF [oK 35 3 7,oP 3 6 35]) .ret)))))⟩
def f192:F:=⟨107,false,[.l 6 true 3],(.seq (rF [oQ 3 8 0,oQ 4 3 1,o 6 (.allocL [zn,zn,zn])]) (.seq (rF [oF 13 0 3,oK 14 3 13,o 15
 (.call true (cf 202) [(.s 14)]),o 7 (.allocL [zn,zn,zn]),oP 3 7 15]) (.seq (rT [oF 16 3 3,oF 17 3 16,oL 18 17,oF 19 0 4,oL 20 19,oA
 21 7 18 20,oG 22 4 21,oR 23 22,oF 24 1 4,oL 25 24,oA 26 11 23 25,oS 27 11 26,o 8 (.allocL [zi,zi,zi,zi,zi,zi,zn,zn,zb,zi,zi]),
 oP 11 8 27]) (.seq (rF [o 9 (.allocL [zn,zn])]) (.seq (.seq (rF [oF 28 7 8,oL 29 28,oN 30 29,oI 31 0]) (.block 0 (.loop (.seq (rF [oC 32
 .lss 31 30]) (.seq (.cond (.s 32) .skip (.exit 0)) (.seq (.block 1 (.seq (rF [oA 33 5 29 31,oS 34 5 33,o 11 (.allocL [zi,zi,zi,zi,zn]),
 oP 5 11 34]) (.seq (rF [oF 35 1 11,oK 36 4 35,oM 37 2,oM 38 2,o 39 (.call false (cf 27) [(.s 36),(.s 37),(.s 38)]),oM 12 39]) (.seq (rF
 [oF 40 0 8,oL 41 40,oD 42 .eql 41 3,oM 43 42,gF 43 true 44 3 3,gF 43 true 45 0 44,gL 43 true 46 45,gF 43 true 47 0 11,gL 43 true 48 47,
 gI 43 true 49 6 46 48,gG 43 true 50 3 49,gR 43 true 51 50,gD 43 true 52 .eql 51 (-1),oW 53 43 52]) (.cond (.s 53) (.seq (rF [oF 54 0 9,oL
 55 54,oF 56 0 11,oL 57 56,o 58 (.bslice 1 1 [zi] [(0,(.s 57))]),o 59 (.append 1 8 (.s 55) (.s 58)),oF 60 0 9,oP 1 60 59]) (rF [oF 61 1
 9,oL 62 61,oM 63 12,o 64 (.bslice 1 1 [zi] [(0,(.s 63))]),o 65 (.append 1 8 (.s 62) (.s 64)),oF 66 1 9,oP 1 66 65])) (rF [oF 67 0 7,oL
 68 67,oF 69 0 11,oL 70 69,oM 71 12,oA 72 1 68 70,oO 1 72 71])))))) (rF [oD 73 .add 31 1,oM 31 73]))))))) (.seq (.seq (rF [oF 74 0 8,oL
 75 74,oD 76 .eql 75 3]) (.cond (.s 76) (rT [oF 77 2 7,oL 78 77,oF 79 0 4,oL 80 79,oF 81 2 7,oL 82 81,oF 83 0 4,oL 84 83,oA 85 1 82 84,
 oR 86 85,oK 87 2 9,o 88 (.bslice 2 1 [zn,zn] [(0,(.s 87))]),o 89 (.append 2 48 (.s 86) (.s 88)),oA 90 1 78 80,oO 1 90 89]) .skip)) (.seq
 (rF [oF 91 1 7,oL 92 91,oF 93 0 4,oL 94 93,oF 95 2 8,oL 96 95,oA 97 1 92 94,oO 1 97 96]) (.seq (.seq (rF [oF 98 0 8,oL 99 98,oD 100
 .eql 99 6]) (.cond (.s 100) (rF [oF 101 1 7,oL 102 101,oF 103 9 8,oL 104 103,oA 105 1 102 104,on (.store 1 (.s 105) (ci 0))]) .skip)) (.seq
 (rF [oK 106 3 7,oP 3 6 106]) .ret)))))))))⟩
def f193:F:=⟨75,false,[.s 4],(.seq (rF [oQ 2 4 0,oQ 3 3 1,oB 4 false]) (.seq (.seq (rF [oK 7 4 2,oF 8 0 3,oL 9 8,oF 10 1 3,oL 11
 10,o 12 (.call false (cf 46) [(.s 7),(.s 9),(.s 11)]),oT 13 12,oM 14 13,gF 14 false 15 2 3,gL 14 false 16 15,gN 14 false 17 16,gF 14
 false 18 3 2,gL 14 false 19 18,gN 14 false 20 19,gC 14 false 21 .neq 17 20,oV 22 14 21]) (.cond (.s 22) (.seq (rF [oB 4 false]) .ret) .skip))
 (.seq (.seq (rF [oI 5 0]) (.block 0 (.loop (.seq (.seq (rF [oM 23 5,oF 24 2 3,oL 25 24,oN 26 25,oC 27 .lss 23 26]) (.cond (.s 27) .skip (.exit
 0))) (.seq (.block 1 (.seq (.seq (rF [oF 30 2 3,oL 31 30,oM 32 5,oA 33 1 31 32,oR 34 33,oN 35 34,oD 36 .gtr 35 3,oM 37 36,gF 37 false
 38 2 3,gL 37 false 39 38,gM 37 false 40 5,gI 37 false 41 1 39 40,gR 37 false 42 41,gN 37 false 43 42,gD 37 false 44 .gtr 43 0,gM 37 false
 45 44,gF 45 true 46 1 3,gL 45 true 47 46,gM 45 true 48 5,gI 45 true 49 1 47 48,gR 45 true 50 49,gD 45 true 51 .eql 50 (-1),og 37 false
 52 (.pick (.s 45) (.s 51) (cb false)),oV 53 37 52]) (.cond (.s 53) (.seq (rF [oB 4 false]) .ret) .skip)) (.seq (rF [oI 6 0]) (.block 2 (.loop
 (.seq (.seq (rF [oM 54 6,oF 55 2 3,oL 56 55,oM 57 5,oA 58 1 56 57,oR 59 58,oN 60 59,oC 61 .lss 54 60]) (.cond (.s 61) .skip (.exit 2)))
 (.seq (.block 3 (.seq (rT [oK 64 4 2,oF 65 2 3,oL 66 65,oM 67 5,oA 68 1 66 67,oR 69 68,oM 70 6,oA 71 2 69 70,oS 72 2 71,o 73 (.call
 false (cf 204) [(.s 64),(.s 72)]),oT 74 73]) (.cond (.s 74) (.seq (rF [oB 4 false]) .ret) .skip))) (rF [oM 62 6,oD 63 .add 62 1,oM 6 63]))))))))
 (rF [oM 28 5,oD 29 .add 28 1,oM 5 29])))))) (.seq (rF [oB 4 true]) .ret))))⟩
def f194:F:=⟨18,false,[.s 2],(.seq (rF [oQ 1 3 0,oB 2 false]) (.seq (.seq (rF [oI 3 0]) (.block 0 (.loop (.seq (.seq (rF [oM 4 3,oF
 5 2 1,oL 6 5,oN 7 6,oC 8 .lss 4 7]) (.cond (.s 8) .skip (.exit 0))) (.seq (.block 1 (.seq (rF [oF 11 2 1,oL 12 11,oM 13 3,oA 14 1 12 13,
 oR 15 14,oN 16 15,oD 17 .gtr 16 0]) (.cond (.s 17) (.seq (rF [oB 2 false]) .ret) .skip))) (rF [oM 9 3,oD 10 .add 9 1,oM 3 10])))))) (.seq (rF [oB 2 true]) .ret)))⟩
def f195:F:=⟨14,false,[.s 2],(.seq (rF [oQ 1 4 0,oB 2 false]) (.seq (rF [oK 7 4 1,o 8 (.call false (cf 64) [(.s 7)]),oM 6 8,oX 9 6
 0,oX 10 6 1,oX 11 6 2,oM 3 9,oM 4 10,oM 5 11]) (.seq (rF [oM 12 3,oD 13 .eql 12 0,oM 2 13]) .ret)))⟩
def f196:F:=⟨121,false,[.s 4],(.seq (rF [oQ 2 4 0,oQ 3 3 1,oB 4 false]) (.seq (.seq (rF [oF 12 0 3,oL 13 12,oN 14 13,oF 15 0 2,oL
 16 15,oN 17 16,oC 18 .neq 14 17,oM 19 18,gF 19 false 20 1 3,gL 19 false 21 20,gN 19 false 22 21,gF 19 false 23 3 2,gL 19 false 24 23,
 gN 19 false 25 24,gC 19 false 26 .neq 22 25,oV 27 19 26,oM 28 27,gF 28 false 29 2 3,gL 28 false 30 29,gN 28 false 31 30,gF 28 false 32
 3 2,gL 28 false 33 32,gN 28 false 34 33,gC 28 false 35 .neq 31 34,oV 36 28 35]) (.cond (.s 36) (.seq (rF [oB 4 false]) .ret) .skip)) (.seq
 (.seq (rF [oF 37 0 3,oL 38 37,oN 39 38,oI 40 0]) (.block 0 (.loop (.seq (rF [oC 41 .lss 40 39]) (.seq (.cond (.s 41) .skip (.exit 0)) (.seq
 (.block 1 (.seq (rF [oM 42 40,oA 43 1 38 40,oR 44 43,oM 5 42,oM 6 44]) (.seq (rF [oM 45 6,oD 46 .lss 45 0,oM 47 46,gM 47 false 48 6,gF
 47 false 49 0 2,gL 47 false 50 49,gM 47 false 51 5,gI 47 false 52 6 50 51,gG 47 false 53 1 52,gR 47 false 54 53,og 47 false 55 (.bin .shl
 (ci 1) (.s 54)),gC 47 false 56 .geq 48 55,oV 57 47 56]) (.cond (.s 57) (.seq (rF [oB 4 false]) .ret) .skip)))) (rF [oD 58 .add 40 1,oM 40
 58]))))))) (.seq (.seq (rF [oF 59 1 3,oL 60 59,oN 61 60,oI 62 0]) (.block 2 (.loop (.seq (rF [oC 63 .lss 62 61]) (.seq (.cond (.s 63) .skip
 (.exit 2)) (.seq (.block 3 (.seq (rF [oM 64 62,oA 65 1 60 62,oR 66 65,oM 7 64,oM 8 66]) (.seq (rF [oF 67 3 2,oL 68 67,oM 69 7,oA 70 7
 68 69,oS 71 7 70,o 9 (.allocL [ze,zi,zn,zn,zn,zn,zb]),oP 7 9 71]) (.seq (.seq (rF [oM 72 8,oD 73 .lss 72 (-1),oM 74 73,gM 74 false
 75 8,gF 74 false 76 1 9,gL 74 false 77 76,gC 74 false 78 .geq 75 77,oV 79 74 78,oM 80 79,gF 80 false 81 2 3,gL 80 false 82 81,gM 80 false
 83 7,gI 80 false 84 1 82 83,gR 80 false 85 84,gN 80 false 86 85,gD 80 false 87 .gtr 86 3,oV 88 80 87]) (.cond (.s 88) (.seq (rF [oB 4 false])
 .ret) .skip)) (.seq (.seq (rF [oM 89 8,oD 90 .eql 89 (-1),oM 91 90,gF 91 true 92 6 9,gL 91 true 93 92,gT 91 true 94 93,gM 91 true 95 94,
 gF 95 false 96 2 3,gL 95 false 97 96,gM 95 false 98 7,gI 95 false 99 1 97 98,gR 95 false 100 99,gN 95 false 101 100,gD 95 false 102 .gtr
 101 0,og 91 true 103 (.pick (.s 95) (cb true) (.s 102)),oW 104 91 103]) (.cond (.s 104) (.seq (rF [oB 4 false]) .ret) .skip)) (.seq (rF [oF
 105 2 3,oL 106 105,oM 107 7,oA 108 1 106 107,oR 109 108,oN 110 109,oI 111 0]) (.block 4 (.loop (.seq (rF [oC 112 .lss 111 110]) (.seq (.cond
 (.s 112) .skip (.exit 4)) (.seq (.block 5 (.seq (rF [oA 113 2 109 111,oS 114 2 113,o 11 (.allocL [zn,zn]),oP 2 11 114]) (.seq (rF [oK 115
 4 2,oK 116 2 11,o 117 (.call false (cf 205) [(.s 115),(.s 116)]),oT 118 117]) (.cond (.s 118) (.seq (rF [oB 4 false]) .ret) .skip)))) (rF
 [oD 119 .add 111 1,oM 111 119])))))))))))) (rF [oD 120 .add 62 1,oM 62 120]))))))) (.seq (rF [oB 4 true]) .ret)))))⟩
def f197:F:=⟨15,false,[.l 5 true 11],(.seq (rF [o 5 (.allocL [zi,zi,zi,zi,zi,zi,zn,zn,zb,zi,zi])]) (.seq (rF [oM 6 1,oM 7 1,
 oD 8 .add 7 1,oS 9 4 2,oM 10 0,oS 11 4 2,o 12 (.build [zi,zi,zi,zi,zn] [(0,1,(.s 10)),(1,4,(.s 11))]),o 13 (.bslice 5 1 [zi,zi,
 zi,zi,zn] [(0,(.s 12))]),o 14 (.build [zi,zi,zi,zi,zi,zi,zn,zn,zb,zi,zi] [(0,1,(ci 3)),(1,1,(.s 6)),(2,1,(.s 8)),(3,4,
 (.s 9)),(7,1,(.s 13))]),oP 11 5 14]) .ret))⟩
def f198:F:=⟨1,true,[], .ext .cloneI⟩
def f199:F:=⟨23,true,[],(.seq (rF [oQ 3 2 1]) (.seq (rF [oF 6 0 3,oL 7 6,oN 8 7,oI 9 0]) (.block 0 (.loop (.seq (rF [oC 10 .lss 9 8])
 (.seq (.cond (.s 10) .skip (.exit 0)) (.seq (.block 1 (.seq (rF [oM 11 9,oA 12 1 7 9,oR 13 12,oM 4 11,oM 5 13]) (rF [oM 14 0,oM 15 5,oF
 16 1 3,oL 17 16,oM 18 4,oA 19 1 17 18,oR 20 19,oA 21 1 14 15,oO 1 21 20]))) (rF [oD 22 .add 9 1,oM 9 22]))))))))⟩
def f200:F:=⟨40,true,[],(.seq (rF [oG 7 0 1,oG 8 2 7,oR 9 8,oR 10 2,oA 11 1 9 10,oR 12 11,oM 4 12]) (.seq (rF [oM 13 4,oN 14 13,
 oI 15 0]) (.block 0 (.loop (.seq (rF [oC 16 .lss 15 14]) (.seq (.cond (.s 16) .skip (.exit 0)) (.seq (.block 1 (.seq (rF [oM 17 15,oA 18 2 13
 15,oS 19 2 18,o 6 (.allocL [zn,zn]),oM 5 17,oP 2 6 19]) (.seq (.seq (rT [oM 20 5,oD 21 .gtr 20 0,oM 22 21,gG 22 true 23 7 1,gR 22 true
 24 23,gD 22 true 25 .neq 24 2,gM 22 true 26 25,gM 26 false 27 4,gM 26 false 28 5,og 26 false 29 (.slice 2 (.s 27) none (some (.s 28)) none),
 gK 26 false 30 2 6,og 26 false 31 (.call false (cf 201) [(.s 29),(.s 30)]),og 22 true 32 (.pick (.s 26) (cb true) (.s 31)),oW 33 22 32])
 (.cond (.s 33) (.exit 1) .skip)) (.seq (rF [oM 34 0,oM 35 5,oK 36 2 6,o 37 (.call true (.s 34) [(.s 35),(.s 36)]),oT 38 37]) (.cond (.s
 38) .ret .skip))))) (rF [oD 39 .add 15 1,oM 15 39]))))))))⟩
def f201:F:=⟨28,false,[.s 4],(.seq (rF [oQ 3 2 1,oB 4 false]) (.seq (.seq (rF [oM 9 0,oN 10 9,oI 11 0]) (.block 0 (.loop (.seq (rF
 [oC 12 .lss 11 10]) (.seq (.cond (.s 12) .skip (.exit 0)) (.seq (.block 1 (.seq (rF [oA 13 2 9 11,oS 14 2 13,o 6 (.allocL [zn,zn]),oP 2 6
 14]) (.seq (rF [oF 15 0 3,oL 16 15,oN 17 16,oI 18 0]) (.block 2 (.loop (.seq (rF [oC 19 .lss 18 17]) (.seq (.cond (.s 19) .skip (.exit 2))
 (.seq (.block 3 (.seq (rF [oA 20 1 16 18,oR 21 20,oM 8 21]) (.seq (rF [oF 22 0 6,oL 23 22,oM 24 8,o 25 (.call false (cf 206) [(.s 23),(.s
 24)])]) (.cond (.s 25) (.seq (rF [oB 4 true]) .ret) .skip)))) (rF [oD 26 .add 18 1,oM 18 26]))))))))) (rF [oD 27 .add 11 1,oM 11 27]))))))) (.seq (rF [oB 4 false]) .ret)))⟩
def f202:F:=⟨54,true,[.l 2 true 3],(.seq (rF [oQ 1 3 0,o 2 (.allocL [zn,zn,zn])]) (.seq (rT [oF 8 0 1,oL 9 8,o 10 (.fcall (cf 198)
 [(.s 9)]),oF 11 1 1,oL 12 11,o 13 (.fcall (cf 198) [(.s 12)]),oF 14 2 1,oL 15 14,oN 16 15,o 17 (.mkslice 1 24 [zn] (.s 16) (.s 16)),o
 18 (.build [zn,zn,zn] [(0,1,(.s 10)),(1,1,(.s 13)),(2,1,(.s 17))]),o 3 (.allocL [zn,zn,zn]),oP 3 3 18]) (.seq (.seq (rF [oF 19
 2 1,oL 20 19,oN 21 20,oI 22 0]) (.block 0 (.loop (.seq (rF [oC 23 .lss 22 21]) (.seq (.cond (.s 23) .skip (.exit 0)) (.seq (.block 1 (.seq
 (rF [oM 24 22,oA 25 1 20 22,oR 26 25,oM 4 24,oM 5 26]) (.seq (rF [oM 27 5,oN 28 27,oI 29 0]) (.block 2 (.loop (.seq (rF [oC 30 .lss 29
 28]) (.seq (.cond (.s 30) .skip (.exit 2)) (.seq (.block 3 (.seq (rF [oA 31 2 27 29,oS 32 2 31,o 7 (.allocL [zn,zn]),oP 2 7 32]) (rT [oF
 33 2 3,oL 34 33,oM 35 4,oF 36 2 3,oL 37 36,oM 38 4,oA 39 1 37 38,oR 40 39,oF 41 0 7,oL 42 41,o 43 (.fcall (cf 198) [(.s 42)]),oF 44
 1 7,oL 45 44,o 46 (.fcall (cf 198) [(.s 45)]),o 47 (.build [zn,zn] [(0,1,(.s 43)),(1,1,(.s 46))]),o 48 (.bslice 2 1 [zn,zn] [(0,(.s
 47))]),o 49 (.append 2 48 (.s 40) (.s 48)),oA 50 1 34 35,oO 1 50 49]))) (rF [oD 51 .add 29 1,oM 29 51]))))))))) (rF [oD 52 .add 22 1,oM
 22 52]))))))) (.seq (rF [oK 53 3 3,oP 3 2 53]) .ret))))⟩
def f203:F:=⟨33,true,[.s 6],(.seq (rF [o 6 (.mv (.c zn))]) (.seq (rF [oM 8 0,oM 9 1,oM 10 2,oM 11 0,oN 12 11,o 13 (.slice 2 (.s 8)
 (some (.s 9)) (some (.s 10)) (some (.s 12)))]) (.seq (.seq (rF [oM 14 1,oM 15 2,oC 16 .eql 14 15]) (.cond (.s 16) (.seq (rF [oM 17 0,oM 6
 17]) .ret) .skip)) (.seq (rF [oM 18 0,oN 19 18,oM 7 19]) (.seq (rT [oM 20 0,oM 21 1,o 22 (.slice 2 (.s 20) none (some (.s 21)) none),oM
 23 0,oM 24 2,o 25 (.slice 2 (.s 23) (some (.s 24)) none none),o 26 (.append 2 48 (.s 22) (.s 25)),oM 0 26]) (.seq (rF [oM 27 0,oM 28 0,
 oN 29 28,oM 30 7,o 31 (.slice 2 (.s 27) (some (.s 29)) (some (.s 30)) none),on (.clear 2 [zn,zn] (.s 31))]) (.seq (rF [oM 32 0,oM 6 32]) .ret)))))))⟩
def f204:F:=⟨87,false,[.s 4],(.seq (rF [oQ 2 4 0,oQ 3 2 1,oB 4 false]) (.seq (.seq (rF [oF 8 0 3,oL 9 8,oN 10 9,oD 11 .eql 10 0,
 oM 12 11,gF 12 false 13 0 3,gL 12 false 14 13,gN 12 false 15 14,gF 12 false 16 1 3,gL 12 false 17 16,gN 12 false 18 17,gC 12 false 19
 .neq 15 18,oV 20 12 19]) (.cond (.s 20) (.seq (rF [oB 4 false]) .ret) .skip)) (.seq (.seq (rF [oI 5 0]) (.block 0 (.loop (.seq (.seq (rF [oM
 21 5,oF 22 0 3,oL 23 22,oN 24 23,oC 25 .lss 21 24]) (.cond (.s 25) .skip (.exit 0))) (.seq (.block 1 (.seq (rF [oF 28 0 3,oL 29 28,oM 30
 5,oA 31 1 29 30,oR 32 31,oM 6 32]) (.seq (.seq (rT [oM 33 6,oF 34 0 2,oL 35 34,oN 36 35,o 37 (.call false (cf 110) [(.s 33),(.s 36)]),
 oT 38 37,oM 39 38,gF 39 false 40 0 2,gL 39 false 41 40,gM 39 false 42 6,gI 39 false 43 6 41 42,gG 39 false 44 3 43,gR 39 false 45 44,
 gD 39 false 46 .neq 45 (-1),oV 47 39 46,oM 48 47,gF 48 false 49 0 2,gL 48 false 50 49,gM 48 false 51 6,gI 48 false 52 6 50 51,gG 48 false
 53 4 52,gR 48 false 54 53,gM 48 false 55 5,gD 48 false 56 .gtr 55 0,og 48 false 57 (.eqb true (.s 54) (.s 56)),oV 58 48 57,oM 59 58,gF
 59 false 60 1 3,gL 59 false 61 60,gM 59 false 62 5,gI 59 false 63 1 61 62,gR 59 false 64 63,gF 59 false 65 0 2,gL 59 false 66 65,gM 59
 false 67 6,gI 59 false 68 6 66 67,gG 59 false 69 1 68,gR 59 false 70 69,og 59 false 71 (.call false (cf 33) [(.s 70)]),og 59 false 72 (.call
 false (cf 110) [(.s 64),(.s 71)]),gT 59 false 73 72,oV 74 59 73]) (.cond (.s 74) (.seq (rF [oB 4 false]) .ret) .skip)) (.seq (rF [oI 7 0])
 (.block 2 (.loop (.seq (.seq (rF [oM 75 7,oM 76 5,oC 77 .lss 75 76]) (.cond (.s 77) .skip (.exit 2))) (.seq (.block 3 (.seq (rF [oF 80 0 3,
 oL 81 80,oM 82 7,oA 83 1 81 82,oR 84 83,oM 85 6,oC 86 .eql 84 85]) (.cond (.s 86) (.seq (rF [oB 4 false]) .ret) .skip))) (rF [oM 78 7,oD
 79 .add 78 1,oM 7 79]))))))))) (rF [oM 26 5,oD 27 .add 26 1,oM 5 27])))))) (.seq (rF [oB 4 true]) .ret))))⟩
def f205:F:=⟨90,false,[.s 4],(.seq (rF [oQ 2 4 0,oQ 3 2 1,oB 4 false]) (.seq (.seq (rF [oF 8 0 3,oL 9 8,oN 10 9,oD 11 .eql 10 0,
 oM 12 11,gF 12 false 13 0 3,gL 12 false 14 13,gN 12 false 15 14,gF 12 false 16 0 2,gL 12 false 17 16,gN 12 false 18 17,gC 12 false 19
 .gtr 15 18,oV 20 12 19,oM 21 20,gF 21 false 22 1 3,gL 21 false 23 22,gN 21 false 24 23,gF 21 false 25 0 3,gL 21 false 26 25,gN 21 false
 27 26,gC 21 false 28 .neq 24 27,oV 29 21 28]) (.cond (.s 29) (.seq (rF [oB 4 false]) .ret) .skip)) (.seq (.seq (rF [oF 30 0 3,oL 31 30,oN
 32 31,oI 33 0]) (.block 0 (.loop (.seq (rF [oC 34 .lss 33 32]) (.seq (.cond (.s 34) .skip (.exit 0)) (.seq (.block 1 (.seq (rF [oM 35 33,oA
 36 1 31 33,oR 37 36,oM 5 35,oM 6 37]) (.seq (.seq (rF [oM 38 6,oD 39 .lss 38 0,oM 40 39,gM 40 false 41 6,gF 40 false 42 0 2,gL 40 false
 43 42,gN 40 false 44 43,gC 40 false 45 .geq 41 44,oV 46 40 45,oM 47 46,gF 47 false 48 0 3,gL 47 false 49 48,gM 47 false 50 5,og 47 false
 51 (.slice 1 (.s 49) none (some (.s 50)) none),gM 47 false 52 6,og 47 false 53 (.call false (cf 206) [(.s 51),(.s 52)]),oV 54 47 53]) (.cond
 (.s 54) (.seq (rF [oB 4 false]) .ret) .skip)) (.seq (rF [oF 55 0 2,oL 56 55,oM 57 6,oA 58 6 56 57,oS 59 6 58,o 7 (.allocL [ze,zi,zi,zi,
 zb,zi]),oP 6 7 59]) (.seq (rT [oF 60 3 7,oL 61 60,oD 62 .neq 61 (-1),oM 63 62,gF 63 false 64 4 7,gL 63 false 65 64,gM 63 false 66 5,
 gD 63 false 67 .gtr 66 0,og 63 false 68 (.eqb true (.s 65) (.s 67)),oV 69 63 68,oM 70 69,gF 70 false 71 1 3,gL 70 false 72 71,gM 70 false
 73 5,gI 70 false 74 1 72 73,gR 70 false 75 74,gD 70 false 76 .lss 75 0,oV 77 70 76,oM 78 77,gF 78 false 79 1 3,gL 78 false 80 79,gM 78
 false 81 5,gI 78 false 82 1 80 81,gR 78 false 83 82,gF 78 false 84 1 7,gL 78 false 85 84,og 78 false 86 (.bin .shl (ci 1) (.s 85)),gC 78
 false 87 .geq 83 86,oV 88 78 87]) (.cond (.s 88) (.seq (rF [oB 4 false]) .ret) .skip)))))) (rF [oD 89 .add 33 1,oM 33 89]))))))) (.seq (rF [oB 4 true]) .ret))))⟩
def f206:F:=⟨9,false,[.s 4],(.seq (rF [oB 4 false]) (.seq (rF [oM 5 0,oM 6 1,o 7 (.call false (cf 207) [(.s 5),(.s 6)]),oD 8 .geq 7 0,oM 4 8]) .ret))⟩
def f207:F:=⟨19,false,[.s 4],(.seq (rF [oI 4 0]) (.seq (.seq (rF [oM 6 0,oN 7 6,oI 8 0]) (.block 0 (.loop (.seq (rF [oC 9 .lss 8 7])
 (.seq (.cond (.s 9) .skip (.exit 0)) (.seq (.block 1 (.seq (rF [oM 10 8,oM 5 10]) (.seq (rF [oM 11 1,oM 12 0,oM 13 5,oA 14 1 12 13,oR 15
 14,oC 16 .eql 11 15]) (.cond (.s 16) (.seq (rF [oM 17 5,oM 4 17]) .ret) .skip)))) (rF [oD 18 .add 8 1,oM 8 18]))))))) (.seq (rF [oI 4 (-1)]) .ret)))⟩
end Rg
end

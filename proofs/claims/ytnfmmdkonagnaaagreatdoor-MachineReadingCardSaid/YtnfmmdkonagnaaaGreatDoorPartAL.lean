/- Part of the proof of the laws of the package relyguardlaw11: an abstract machine for the program's functions, what they compute, and that the machine is the program's. No condition. (Fn1) -/
import Derived.Test.YtnfmmdkonagnaaaGreatDoorPartAK
section
/- Functions of the program, as the abstract machine reads them (printed by a program). -/
namespace Rg
open Go
def f7 : F := ⟨200, false, [.s 8], (.seq (.region false [ o 4 (.boxL 4 (.s 0)), o 8 (.mv (cb false))]) (.seq (.region false [ o 23 (.call false (cf 8) []), o 9 (.mv (.s 23))]) (.seq
 (.seq (.region false [ o 24 (.loadL true 4 (.s 4)), o 25 (.call false (cf 16) [(.s 24)]), o 26 (.un .not (.s 25)), o 27 (.mv (.s 26)), og 27 false 28 (.mv (.s 1)),
 og 27 false 29 (.len (.s 28)), og 27 false 30 (.bin .gtr (.s 29) (ci 40)), o 31 (.pick (.s 27) (cb true) (.s 30)), o 32 (.mv (.s 31)), og 32 false 33 (.mv (.s 3)),
 og 32 false 34 (.len (.s 33)), og 32 false 35 (.bin .gtr (.s 34) (ci 40)), o 36 (.pick (.s 32) (cb true) (.s 35))]) (.cond (.s 36) (.seq (.region false [ o 37 (.mv (.s 9)),
 o 8 (.mv (.s 37))]) .ret) .skip)) (.seq (.region false [ o 38 (.loadL true 4 (.s 4)), o 39 (.mv (.s 1)), o 40 (.call false (cf 15) [(.s 38), (.s 39), (ci 40)]),
 o 10 (.allocL [(.t .nils), (.t .nils), (.t .nils)]), on (.storeL 3 (.s 10) (.s 40))]) (.seq (.region false [ o 41 (.loadL true 4 (.s 4)), o 42 (.loadL true 3 (.s 10)),
 o 43 (.call false (cf 25) [(.s 41), (.s 42)]), o 11 (.mv (.s 43))]) (.seq (.seq (.region false [ o 44 (.mv (.s 11)), o 45 (.len (.s 44)), o 46 (.bin .eql (.s 45) (ci 0))])
 (.cond (.s 46) (.seq (.region false [ o 47 (.mv (.s 9)), o 8 (.mv (.s 47))]) .ret) .skip)) (.seq (.region false [ o 48 (.mv (.s 11)), o 49 (.mv (.s 2)), o 50 (.conv .i64 (.s 49)),
 o 51 (.mv (.s 11)), o 52 (.len (.s 51)), o 53 (.bin .rem (.s 50) (.s 52)), o 54 (.iaddrS 3 (.s 48) (.s 53)), o 55 (.load true 3 (.s 54)),
 o 12 (.allocL [(.t (.int .i64 0)), (.t (.int .i64 0)), (.t (.int .i64 0))]), on (.storeL 3 (.s 12) (.s 55))]) (.seq (.region true [ o 56 (.faddrL 3 (.s 4)),
 o 57 (.loadL false 1 (.s 56)), o 58 (.faddrL 0 (.s 12)), o 59 (.loadL false 1 (.s 58)), o 60 (.iaddrS 7 (.s 57) (.s 59)), o 61 (.faddr 4 (.s 60)), o 62 (.load false 1 (.s 61)),
 o 63 (.faddrL 1 (.s 12)), o 64 (.loadL false 1 (.s 63)), o 65 (.iaddrS 11 (.s 62) (.s 64)), o 66 (.load true 11 (.s 65)),
 o 13 (.allocL [(.t (.int .i64 0)), (.t (.int .i64 0)), (.t (.int .i64 0)), (.t (.int .i64 0)), (.t (.int .i64 0)), (.t (.int .i64 0)), (.t .nils), (.t .nils), (.t (.bool false)), (.t (.int .i64 0)), (.t (.int .i64 0))]),
 on (.storeL 11 (.s 13) (.s 66))]) (.seq (.region false [ o 67 (.loadL true 11 (.s 13)), o 68 (.call false (cf 31) [(.s 67)]), o 14 (.mv (.s 68))]) (.seq (.region false [
 o 69 (.loadL true 11 (.s 13)), o 70 (.call false (cf 28) [(.s 69)]), o 15 (.mv (.s 70))]) (.seq (.region true [ o 71 (.faddrL 0 (.s 10)), o 72 (.loadL false 1 (.s 71)),
 o 73 (.fcall (cf 32) [(.s 72)]), o 74 (.faddrL 1 (.s 10)), o 75 (.loadL false 1 (.s 74)), o 76 (.faddrL 2 (.s 10)), o 77 (.loadL false 1 (.s 76)),
 o 78 (.build [(.t .nils), (.t .nils), (.t .nils)] [(0, 1, (.s 73)), (1, 1, (.s 75)), (2, 1, (.s 77))]), o 16 (.allocL [(.t .nils), (.t .nils), (.t .nils)]),
 on (.storeL 3 (.s 16) (.s 78))]) (.seq (.seq (.region false [ o 17 (.mv (ci 0))]) (.block 0 (.loop (.seq (.seq (.region false [ o 79 (.mv (.s 17)), o 80 (.faddrL 0 (.s 16)),
 o 81 (.loadL false 1 (.s 80)), o 82 (.len (.s 81)), o 83 (.bin .lss (.s 79) (.s 82)), o 84 (.mv (.s 83)), og 84 true 85 (.mv (.s 17)), og 84 true 86 (.mv (.s 3)),
 og 84 true 87 (.len (.s 86)), og 84 true 88 (.bin .lss (.s 85) (.s 87)), o 89 (.pick (.s 84) (.s 88) (cb false))]) (.cond (.s 89) .skip (.exit 0))) (.seq (.block 1 (.seq
 (.region false [ o 92 (.mv (.s 14)), o 93 (.mv (.s 17)), o 94 (.call false (cf 29) [(.s 92), (.s 93)]), o 95 (.un .not (.s 94))]) (.cond (.s 95) (.region true [
 o 96 (.faddrL 0 (.s 16)), o 97 (.loadL false 1 (.s 96)), o 98 (.mv (.s 17)), o 99 (.mv (.s 3)), o 100 (.mv (.s 17)), o 101 (.iaddrS 1 (.s 99) (.s 100)),
 o 102 (.load false 1 (.s 101)), o 103 (.conv .i64 (.s 102)), o 104 (.faddrL 0 (.s 4)), o 105 (.loadL false 1 (.s 104)), o 106 (.mv (.s 17)), o 107 (.iaddrS 6 (.s 105) (.s 106)),
 o 108 (.faddr 1 (.s 107)), o 109 (.load false 1 (.s 108)), o 110 (.call false (cf 33) [(.s 109)]), o 111 (.bin .rem (.s 103) (.s 110)), o 112 (.iaddrS 1 (.s 97) (.s 98)),
 on (.store 1 (.s 112) (.s 111))]) .skip))) (.region false [ o 90 (.mv (.s 17)), o 91 (.bin .add (.s 90) (ci 1)), o 17 (.mv (.s 91))])))))) (.seq (.region false [
 o 114 (.loadL true 4 (.s 4)), o 115 (.loadL true 3 (.s 10)), o 116 (.loadL true 3 (.s 12)), o 117 (.call false (cf 18) [(.s 114), (.s 115), (.s 116)]), o 113 (.mv (.s 117)),
 o 118 (.extr (.s 113) 0), o 119 (.extr (.s 113) 1), o 18 (.allocL [(.t .nils), (.t .nils), (.t .nils)]), on (.storeL 3 (.s 18) (.s 118)), o 19 (.mv (.s 119))]) (.seq
 (.region false [ o 121 (.loadL true 4 (.s 4)), o 122 (.loadL true 3 (.s 16)), o 123 (.loadL true 3 (.s 12)), o 124 (.call false (cf 18) [(.s 121), (.s 122), (.s 123)]),
 o 120 (.mv (.s 124)), o 125 (.extr (.s 120) 0), o 126 (.extr (.s 120) 1), o 20 (.allocL [(.t .nils), (.t .nils), (.t .nils)]), on (.storeL 3 (.s 20) (.s 125)), o 21 (.mv (.s 126))])
 (.seq (.seq (.region false [ o 127 (.mv (.s 19)), o 128 (.bin .neq (.s 127) (ci 0)), o 129 (.mv (.s 128)), og 129 false 130 (.mv (.s 21)),
 og 129 false 131 (.bin .neq (.s 130) (ci 0)), o 132 (.pick (.s 129) (cb true) (.s 131)), o 133 (.mv (.s 132)), og 133 false 134 (.faddrL 0 (.s 18)),
 og 133 false 135 (.loadL false 1 (.s 134)), og 133 false 136 (.len (.s 135)), og 133 false 137 (.faddrL 0 (.s 10)), og 133 false 138 (.loadL false 1 (.s 137)),
 og 133 false 139 (.len (.s 138)), og 133 false 140 (.bin .neq (.s 136) (.s 139)), o 141 (.pick (.s 133) (cb true) (.s 140)), o 142 (.mv (.s 141)),
 og 142 false 143 (.faddrL 0 (.s 20)), og 142 false 144 (.loadL false 1 (.s 143)), og 142 false 145 (.len (.s 144)), og 142 false 146 (.faddrL 0 (.s 10)),
 og 142 false 147 (.loadL false 1 (.s 146)), og 142 false 148 (.len (.s 147)), og 142 false 149 (.bin .neq (.s 145) (.s 148)), o 150 (.pick (.s 142) (cb true) (.s 149)),
 o 151 (.mv (.s 150)), og 151 false 152 (.faddrL 1 (.s 18)), og 151 false 153 (.loadL false 1 (.s 152)), og 151 false 154 (.faddrL 1 (.s 20)),
 og 151 false 155 (.loadL false 1 (.s 154)), og 151 false 156 (.call false (cf 34) [(.s 153), (.s 155)]), og 151 false 157 (.un .not (.s 156)),
 o 158 (.pick (.s 151) (cb true) (.s 157))]) (.cond (.s 158) (.seq (.region false [ o 8 (.mv (cb false))]) .ret) .skip)) (.seq (.seq (.region false [ o 22 (.mv (ci 0))]) (.block 2
 (.loop (.seq (.seq (.region false [ o 159 (.mv (.s 22)), o 160 (.mv (.s 15)), o 161 (.len (.s 160)), o 162 (.bin .lss (.s 159) (.s 161))]) (.cond (.s 162) .skip (.exit 2))) (.seq
 (.block 3 (.seq (.region true [ o 165 (.mv (.s 15)), o 166 (.mv (.s 22)), o 167 (.iaddrS 1 (.s 165) (.s 166)), o 168 (.load false 1 (.s 167)), o 169 (.bin .lss (.s 168) (ci 0)),
 o 170 (.mv (.s 169)), og 170 false 171 (.mv (.s 15)), og 170 false 172 (.mv (.s 22)), og 170 false 173 (.iaddrS 1 (.s 171) (.s 172)), og 170 false 174 (.load false 1 (.s 173)),
 og 170 false 175 (.faddrL 0 (.s 18)), og 170 false 176 (.loadL false 1 (.s 175)), og 170 false 177 (.len (.s 176)), og 170 false 178 (.bin .geq (.s 174) (.s 177)),
 o 179 (.pick (.s 170) (cb true) (.s 178)), o 180 (.mv (.s 179)), og 180 false 181 (.faddrL 0 (.s 18)), og 180 false 182 (.loadL false 1 (.s 181)), og 180 false 183 (.mv (.s 15)),
 og 180 false 184 (.mv (.s 22)), og 180 false 185 (.iaddrS 1 (.s 183) (.s 184)), og 180 false 186 (.load false 1 (.s 185)), og 180 false 187 (.iaddrS 1 (.s 182) (.s 186)),
 og 180 false 188 (.load false 1 (.s 187)), og 180 false 189 (.faddrL 0 (.s 20)), og 180 false 190 (.loadL false 1 (.s 189)), og 180 false 191 (.mv (.s 15)),
 og 180 false 192 (.mv (.s 22)), og 180 false 193 (.iaddrS 1 (.s 191) (.s 192)), og 180 false 194 (.load false 1 (.s 193)), og 180 false 195 (.iaddrS 1 (.s 190) (.s 194)),
 og 180 false 196 (.load false 1 (.s 195)), og 180 false 197 (.bin .neq (.s 188) (.s 196)), o 198 (.pick (.s 180) (cb true) (.s 197))]) (.cond (.s 198) (.seq (.region false [
 o 8 (.mv (cb false))]) .ret) .skip))) (.region false [ o 163 (.mv (.s 22)), o 164 (.bin .add (.s 163) (ci 1)), o 22 (.mv (.s 164))])))))) (.seq (.region false [ o 199 (.mv (.s 9)),
 o 8 (.mv (.s 199))]) .ret)))))))))))))))))⟩
def f8 : F := ⟨89, false, [.s 0], (.seq (.region false [ o 0 (.mv (cb false))]) (.seq (.region false [ o 10 (.call false (cf 35) []),
 o 1 (.allocL [(.t .nils), (.t .nils), (.t .nils), (.t .nils)]), on (.storeL 4 (.s 1) (.s 10))]) (.seq (.region false [ o 11 (.loadL true 4 (.s 1)),
 o 12 (.call false (cf 12) [(.s 11)]), o 2 (.allocL [(.t .nils), (.t .nils), (.t .nils)]), on (.storeL 3 (.s 2) (.s 12))]) (.seq (.region false [ o 13 (.loadL true 4 (.s 1)),
 o 14 (.loadL true 3 (.s 2)), o 15 (.call false (cf 17) [(.s 13), (.s 14)]), o 3 (.mv (.s 15))]) (.seq (.seq (.region false [ o 16 (.mv (.s 3)), o 17 (.len (.s 16)),
 o 18 (.bin .neq (.s 17) (ci 1)), o 19 (.mv (.s 18)), og 19 false 20 (.faddrL 0 (.s 2)), og 19 false 21 (.loadL false 1 (.s 20)),
 og 19 false 22 (.bslice 1 2 [(.t (.int .i64 0))] [(0, (ci 1)), (1, (ci 0))]), og 19 false 23 (.call false (cf 34) [(.s 21), (.s 22)]), og 19 false 24 (.un .not (.s 23)),
 o 25 (.pick (.s 19) (cb true) (.s 24)), o 26 (.mv (.s 25)), og 26 false 27 (.loadL true 4 (.s 1)), og 26 false 28 (.loadL true 3 (.s 2)),
 og 26 false 29 (.call false (cf 22) [(.s 27), (.s 28)]), o 30 (.pick (.s 26) (cb true) (.s 29))]) (.cond (.s 30) (.seq (.region false [ o 0 (.mv (cb false))]) .ret) .skip)) (.seq
 (.region true [ o 32 (.loadL true 4 (.s 1)), o 33 (.loadL true 3 (.s 2)), o 34 (.mv (.s 3)), o 35 (.iaddrS 3 (.s 34) (ci 0)), o 36 (.load true 3 (.s 35)),
 o 37 (.call false (cf 18) [(.s 32), (.s 33), (.s 36)]), o 31 (.mv (.s 37)), o 38 (.extr (.s 31) 0), o 39 (.extr (.s 31) 1), o 4 (.allocL [(.t .nils), (.t .nils), (.t .nils)]),
 on (.storeL 3 (.s 4) (.s 38)), o 5 (.mv (.s 39))]) (.seq (.region false [ o 41 (.loadL true 4 (.s 1)), o 42 (.loadL true 3 (.s 4)),
 o 43 (.build [(.t (.int .i64 0)), (.t (.int .i64 0)), (.t (.int .i64 0))] [(0, 1, (ci 0)), (1, 1, (ci 1))]), o 44 (.call false (cf 18) [(.s 41), (.s 42), (.s 43)]),
 o 40 (.mv (.s 44)), o 45 (.extr (.s 40) 0), o 46 (.extr (.s 40) 1), o 6 (.allocL [(.t .nils), (.t .nils), (.t .nils)]), on (.storeL 3 (.s 6) (.s 45)), o 7 (.mv (.s 46))]) (.seq
 (.region true [ o 48 (.loadL true 4 (.s 1)), o 49 (.loadL true 3 (.s 4)), o 50 (.mv (.s 3)), o 51 (.iaddrS 3 (.s 50) (ci 0)), o 52 (.load true 3 (.s 51)),
 o 53 (.call false (cf 18) [(.s 48), (.s 49), (.s 52)]), o 47 (.mv (.s 53)), o 54 (.extr (.s 47) 0), o 55 (.extr (.s 47) 1), o 8 (.allocL [(.t .nils), (.t .nils), (.t .nils)]),
 on (.storeL 3 (.s 8) (.s 54)), o 9 (.mv (.s 55))]) (.seq (.region false [ o 56 (.mv (.s 5)), o 57 (.bin .eql (.s 56) (ci 0)), o 58 (.mv (.s 57)), og 58 true 59 (.mv (.s 7)),
 og 58 true 60 (.bin .eql (.s 59) (ci 0)), o 61 (.pick (.s 58) (.s 60) (cb false)), o 62 (.mv (.s 61)), og 62 true 63 (.mv (.s 9)), og 62 true 64 (.bin .eql (.s 63) (ci 110)),
 o 65 (.pick (.s 62) (.s 64) (cb false)), o 66 (.mv (.s 65)), og 66 true 67 (.faddrL 0 (.s 4)), og 66 true 68 (.loadL false 1 (.s 67)),
 og 66 true 69 (.bslice 1 2 [(.t (.int .i64 0))] [(0, (ci 1)), (1, (ci 1))]), og 66 true 70 (.call false (cf 34) [(.s 68), (.s 69)]), o 71 (.pick (.s 66) (.s 70) (cb false)),
 o 72 (.mv (.s 71)), og 72 true 73 (.faddrL 0 (.s 6)), og 72 true 74 (.loadL false 1 (.s 73)), og 72 true 75 (.bslice 1 2 [(.t (.int .i64 0))] [(0, (ci 2)), (1, (ci 1))]),
 og 72 true 76 (.call false (cf 34) [(.s 74), (.s 75)]), o 77 (.pick (.s 72) (.s 76) (cb false)), o 78 (.mv (.s 77)), og 78 true 79 (.faddrL 1 (.s 6)),
 og 78 true 80 (.loadL false 1 (.s 79)), og 78 true 81 (.bslice 1 1 [(.t (.int .i64 0))] [(0, (ci 2))]), og 78 true 82 (.call false (cf 34) [(.s 80), (.s 81)]),
 o 83 (.pick (.s 78) (.s 82) (cb false)), o 84 (.mv (.s 83)), og 84 true 85 (.loadL true 4 (.s 1)), og 84 true 86 (.loadL true 3 (.s 6)),
 og 84 true 87 (.call false (cf 22) [(.s 85), (.s 86)]), o 88 (.pick (.s 84) (.s 87) (cb false)), o 0 (.mv (.s 88))]) .ret)))))))))⟩
def f9 : F := ⟨122, false, [.s 2], (.seq (.region false [ o 1 (.boxL 4 (.s 0)), o 2 (.mv (cb false))]) (.seq (.seq (.region false [ o 8 (.faddrL 0 (.s 1)),
 o 9 (.loadL false 1 (.s 8)), o 10 (.len (.s 9)), o 11 (.bin .gtr (.s 10) (ci 32)), o 12 (.mv (.s 11)), og 12 false 13 (.faddrL 3 (.s 1)), og 12 false 14 (.loadL false 1 (.s 13)),
 og 12 false 15 (.len (.s 14)), og 12 false 16 (.bin .gtr (.s 15) (ci 4)), o 17 (.pick (.s 12) (cb true) (.s 16)), o 18 (.mv (.s 17)), og 18 false 19 (.faddrL 1 (.s 1)),
 og 18 false 20 (.loadL false 1 (.s 19)), og 18 false 21 (.len (.s 20)), og 18 false 22 (.bin .gtr (.s 21) (ci 6)), o 23 (.pick (.s 18) (cb true) (.s 22)), o 24 (.mv (.s 23)),
 og 24 false 25 (.faddrL 2 (.s 1)), og 24 false 26 (.loadL false 1 (.s 25)), og 24 false 27 (.len (.s 26)), og 24 false 28 (.bin .gtr (.s 27) (ci 4)),
 o 29 (.pick (.s 24) (cb true) (.s 28))]) (.cond (.s 29) (.seq (.region false [ o 2 (.mv (cb false))]) .ret) .skip)) (.seq (.region false [ o 3 (.mv (ci 0))]) (.seq (.seq
 (.region false [ o 4 (.mv (ci 0))]) (.block 0 (.loop (.seq (.seq (.region false [ o 30 (.mv (.s 4)), o 31 (.faddrL 3 (.s 1)), o 32 (.loadL false 1 (.s 31)), o 33 (.len (.s 32)),
 o 34 (.bin .lss (.s 30) (.s 33))]) (.cond (.s 34) .skip (.exit 0))) (.seq (.block 1 (.seq (.region false [ o 37 (.faddrL 3 (.s 1)), o 38 (.loadL false 1 (.s 37)), o 39 (.mv (.s 4)),
 o 40 (.iaddrS 7 (.s 38) (.s 39)), o 41 (.load true 7 (.s 40)),
 o 5 (.allocL [(.t (.str (bs []))), (.t (.int .i64 0)), (.t .nils), (.t .nils), (.t .nils), (.t .nils), (.t (.bool false))]), on (.storeL 7 (.s 5) (.s 41))]) (.seq (.region false [
 o 42 (.mv (.s 3)), o 43 (.faddrL 4 (.s 5)), o 44 (.loadL false 1 (.s 43)), o 45 (.len (.s 44)), o 46 (.bin .add (.s 42) (.s 45)), o 3 (.mv (.s 46))]) (.seq (.region false [
 o 47 (.mv (.s 3)), o 48 (.bin .gtr (.s 47) (ci 24)), o 49 (.mv (.s 48)), og 49 false 50 (.faddrL 2 (.s 5)), og 49 false 51 (.loadL false 1 (.s 50)), og 49 false 52 (.len (.s 51)),
 og 49 false 53 (.bin .gtr (.s 52) (ci 48)), o 54 (.pick (.s 49) (cb true) (.s 53)), o 55 (.mv (.s 54)), og 55 false 56 (.faddrL 3 (.s 5)), og 55 false 57 (.loadL false 1 (.s 56)),
 og 55 false 58 (.len (.s 57)), og 55 false 59 (.bin .gtr (.s 58) (ci 48)), o 60 (.pick (.s 55) (cb true) (.s 59)), o 61 (.mv (.s 60)), og 61 false 62 (.faddrL 5 (.s 5)),
 og 61 false 63 (.loadL false 1 (.s 62)), og 61 false 64 (.len (.s 63)), og 61 false 65 (.bin .gtr (.s 64) (ci 8)), o 66 (.pick (.s 61) (cb true) (.s 65)), o 67 (.mv (.s 66)),
 og 67 false 68 (.loadL true 7 (.s 5)), og 67 false 69 (.call false (cf 36) [(.s 68)]), og 67 false 70 (.un .not (.s 69)), o 71 (.pick (.s 67) (cb true) (.s 70))]) (.cond (.s 71)
 (.seq (.region false [ o 2 (.mv (cb false))]) .ret) .skip))))) (.region false [ o 35 (.mv (.s 4)), o 36 (.bin .add (.s 35) (ci 1)), o 4 (.mv (.s 36))])))))) (.seq (.seq
 (.region false [ o 6 (.mv (ci 0))]) (.block 2 (.loop (.seq (.seq (.region false [ o 72 (.mv (.s 6)), o 73 (.faddrL 1 (.s 1)), o 74 (.loadL false 1 (.s 73)), o 75 (.len (.s 74)),
 o 76 (.bin .lss (.s 72) (.s 75))]) (.cond (.s 76) .skip (.exit 2))) (.seq (.block 3 (.seq (.region false [ o 79 (.faddrL 1 (.s 1)), o 80 (.loadL false 1 (.s 79)), o 81 (.mv (.s 6)),
 o 82 (.iaddrS 11 (.s 80) (.s 81)), o 83 (.faddr 2 (.s 82)), o 84 (.load true 4 (.s 83)), o 85 (.call false (cf 23) [(.s 84), (ci 60)]), o 86 (.un .not (.s 85)), o 87 (.mv (.s 86)),
 og 87 false 88 (.faddrL 1 (.s 1)), og 87 false 89 (.loadL false 1 (.s 88)), og 87 false 90 (.mv (.s 6)), og 87 false 91 (.iaddrS 11 (.s 89) (.s 90)),
 og 87 false 92 (.faddr 6 (.s 91)), og 87 false 93 (.load true 4 (.s 92)), og 87 false 94 (.call false (cf 23) [(.s 93), (ci 60)]), og 87 false 95 (.un .not (.s 94)),
 o 96 (.pick (.s 87) (cb true) (.s 95)), o 97 (.mv (.s 96)), og 97 false 98 (.faddrL 1 (.s 1)), og 97 false 99 (.loadL false 1 (.s 98)), og 97 false 100 (.mv (.s 6)),
 og 97 false 101 (.iaddrS 11 (.s 99) (.s 100)), og 97 false 102 (.faddr 10 (.s 101)), og 97 false 103 (.load false 1 (.s 102)), og 97 false 104 (.len (.s 103)),
 og 97 false 105 (.bin .gtr (.s 104) (ci 32)), o 106 (.pick (.s 97) (cb true) (.s 105))]) (.cond (.s 106) (.seq (.region false [ o 2 (.mv (cb false))]) .ret) .skip)))
 (.region false [ o 77 (.mv (.s 6)), o 78 (.bin .add (.s 77) (ci 1)), o 6 (.mv (.s 78))])))))) (.seq (.seq (.region false [ o 7 (.mv (ci 0))]) (.block 4 (.loop (.seq (.seq
 (.region false [ o 107 (.mv (.s 7)), o 108 (.faddrL 2 (.s 1)), o 109 (.loadL false 1 (.s 108)), o 110 (.len (.s 109)), o 111 (.bin .lss (.s 107) (.s 110))]) (.cond (.s 111) .skip
 (.exit 4))) (.seq (.block 5 (.seq (.region false [ o 114 (.faddrL 2 (.s 1)), o 115 (.loadL false 1 (.s 114)), o 116 (.mv (.s 7)), o 117 (.iaddrS 6 (.s 115) (.s 116)),
 o 118 (.faddr 1 (.s 117)), o 119 (.load true 4 (.s 118)), o 120 (.call false (cf 23) [(.s 119), (ci 60)]), o 121 (.un .not (.s 120))]) (.cond (.s 121) (.seq (.region false [
 o 2 (.mv (cb false))]) .ret) .skip))) (.region false [ o 112 (.mv (.s 7)), o 113 (.bin .add (.s 112) (ci 1)), o 7 (.mv (.s 113))])))))) (.seq (.region false [ o 2 (.mv (cb true))])
 .ret)))))))⟩
def f12 : F := ⟨58, false, [.l 2 true 3], (.seq (.region false [ o 1 (.boxL 4 (.s 0)), o 2 (.allocL [(.t .nils), (.t .nils), (.t .nils)])]) (.seq (.seq (.region false [
 o 6 (.loadL true 4 (.s 1)), o 7 (.call false (cf 38) [(.s 6)]), o 8 (.un .not (.s 7))]) (.cond (.s 8) (.seq (.region false [ o 9 (.build [(.t .nils), (.t .nils), (.t .nils)] []),
 on (.storeL 3 (.s 2) (.s 9))]) .ret) .skip)) (.seq (.region true [ o 10 (.faddrL 0 (.s 1)), o 11 (.loadL false 1 (.s 10)), o 12 (.len (.s 11)),
 o 13 (.mkslice 1 8 [(.t (.int .i64 0))] (.s 12) (.s 12)), o 14 (.faddrL 3 (.s 1)), o 15 (.loadL false 1 (.s 14)), o 16 (.len (.s 15)),
 o 17 (.mkslice 1 8 [(.t (.int .i64 0))] (.s 16) (.s 16)), o 18 (.faddrL 3 (.s 1)), o 19 (.loadL false 1 (.s 18)), o 20 (.len (.s 19)),
 o 21 (.mkslice 1 24 [(.t .nils)] (.s 20) (.s 20)), o 22 (.build [(.t .nils), (.t .nils), (.t .nils)] [(0, 1, (.s 13)), (1, 1, (.s 17)), (2, 1, (.s 21))]),
 o 3 (.allocL [(.t .nils), (.t .nils), (.t .nils)]), on (.storeL 3 (.s 3) (.s 22))]) (.seq (.seq (.region false [ o 23 (.faddrL 0 (.s 1)), o 24 (.loadL false 1 (.s 23)),
 o 25 (.len (.s 24)), o 26 (.mv (ci 0))]) (.block 0 (.loop (.seq (.region false [ o 27 (.bin .lss (.s 26) (.s 25))]) (.seq (.cond (.s 27) .skip (.exit 0)) (.seq (.block 1 (.seq
 (.region false [ o 28 (.mv (.s 26)), o 4 (.mv (.s 28))]) (.region true [ o 29 (.faddrL 0 (.s 3)), o 30 (.loadL false 1 (.s 29)), o 31 (.mv (.s 4)), o 32 (.faddrL 0 (.s 1)),
 o 33 (.loadL false 1 (.s 32)), o 34 (.mv (.s 4)), o 35 (.iaddrS 6 (.s 33) (.s 34)), o 36 (.faddr 2 (.s 35)), o 37 (.load false 1 (.s 36)), o 38 (.iaddrS 1 (.s 30) (.s 31)),
 on (.store 1 (.s 38) (.s 37))]))) (.region false [ o 39 (.bin .add (.s 26) (ci 1)), o 26 (.mv (.s 39))]))))))) (.seq (.seq (.region false [ o 40 (.faddrL 3 (.s 1)),
 o 41 (.loadL false 1 (.s 40)), o 42 (.len (.s 41)), o 43 (.mv (ci 0))]) (.block 2 (.loop (.seq (.region false [ o 44 (.bin .lss (.s 43) (.s 42))]) (.seq (.cond (.s 44) .skip
 (.exit 2)) (.seq (.block 3 (.seq (.region false [ o 45 (.mv (.s 43)), o 5 (.mv (.s 45))]) (.seq (.region false [ o 46 (.faddrL 3 (.s 1)), o 47 (.loadL false 1 (.s 46)),
 o 48 (.mv (.s 5)), o 49 (.iaddrS 7 (.s 47) (.s 48)), o 50 (.faddr 6 (.s 49)), o 51 (.load false 1 (.s 50))]) (.cond (.s 51) (.region false [ o 52 (.faddrL 1 (.s 3)),
 o 53 (.loadL false 1 (.s 52)), o 54 (.mv (.s 5)), o 55 (.iaddrS 1 (.s 53) (.s 54)), on (.store 1 (.s 55) (ci (-1)))]) .skip)))) (.region false [ o 56 (.bin .add (.s 43) (ci 1)),
 o 43 (.mv (.s 56))]))))))) (.seq (.region false [ o 57 (.loadL true 3 (.s 3)), on (.storeL 3 (.s 2) (.s 57))]) .ret))))))⟩
def f13 : F := ⟨54, false, [.l 2 true 3], (.seq (.region false [ o 1 (.boxL 4 (.s 0)), o 2 (.allocL [(.t .nils), (.t .nils), (.t .nils)])]) (.seq (.seq (.region false [
 o 7 (.loadL true 4 (.s 1)), o 8 (.call false (cf 39) [(.s 7)]), o 9 (.un .not (.s 8))]) (.cond (.s 9) (.seq (.region false [ o 10 (.build [(.t .nils), (.t .nils), (.t .nils)] []),
 on (.storeL 3 (.s 2) (.s 10))]) .ret) .skip)) (.seq (.region false [ o 11 (.faddrL 3 (.s 1)), o 12 (.loadL false 1 (.s 11)), o 13 (.len (.s 12)),
 o 14 (.mkslice 1 24 [(.t .nils)] (.s 13) (.s 13)), o 15 (.build [(.t .nils), (.t .nils), (.t .nils)] [(2, 1, (.s 14))]), o 3 (.allocL [(.t .nils), (.t .nils), (.t .nils)]),
 on (.storeL 3 (.s 3) (.s 15))]) (.seq (.seq (.region false [ o 4 (.mv (ci 0))]) (.block 0 (.loop (.seq (.seq (.region false [ o 16 (.mv (.s 4)), o 17 (.faddrL 0 (.s 1)),
 o 18 (.loadL false 1 (.s 17)), o 19 (.len (.s 18)), o 20 (.bin .lss (.s 16) (.s 19))]) (.cond (.s 20) .skip (.exit 0))) (.seq (.block 1 (.region true [ o 23 (.faddrL 0 (.s 3)),
 o 24 (.loadL false 1 (.s 23)), o 25 (.faddrL 0 (.s 1)), o 26 (.loadL false 1 (.s 25)), o 27 (.mv (.s 4)), o 28 (.iaddrS 6 (.s 26) (.s 27)), o 29 (.faddr 2 (.s 28)),
 o 30 (.load false 1 (.s 29)), o 31 (.bslice 1 1 [(.t (.int .i64 0))] [(0, (.s 30))]), o 32 (.append 1 8 (.s 24) (.s 31)), o 33 (.faddrL 0 (.s 3)), on (.storeL 1 (.s 33) (.s 32))]))
 (.region false [ o 21 (.mv (.s 4)), o 22 (.bin .add (.s 21) (ci 1)), o 4 (.mv (.s 22))])))))) (.seq (.seq (.region false [ o 5 (.mv (ci 0))]) (.block 2 (.loop (.seq (.seq
 (.region false [ o 34 (.mv (.s 5)), o 35 (.faddrL 3 (.s 1)), o 36 (.loadL false 1 (.s 35)), o 37 (.len (.s 36)), o 38 (.bin .lss (.s 34) (.s 37))]) (.cond (.s 38) .skip (.exit 2)))
 (.seq (.block 3 (.seq (.region false [ o 6 (.mv (ci 0))]) (.seq (.seq (.region false [ o 41 (.faddrL 3 (.s 1)), o 42 (.loadL false 1 (.s 41)), o 43 (.mv (.s 5)),
 o 44 (.iaddrS 7 (.s 42) (.s 43)), o 45 (.faddr 6 (.s 44)), o 46 (.load false 1 (.s 45))]) (.cond (.s 46) (.region false [ o 6 (.mv (ci (-1)))]) .skip)) (.region false [
 o 47 (.faddrL 1 (.s 3)), o 48 (.loadL false 1 (.s 47)), o 49 (.mv (.s 6)), o 50 (.bslice 1 1 [(.t (.int .i64 0))] [(0, (.s 49))]), o 51 (.append 1 8 (.s 48) (.s 50)),
 o 52 (.faddrL 1 (.s 3)), on (.storeL 1 (.s 52) (.s 51))])))) (.region false [ o 39 (.mv (.s 5)), o 40 (.bin .add (.s 39) (ci 1)), o 5 (.mv (.s 40))])))))) (.seq (.region false [
 o 53 (.loadL true 3 (.s 3)), on (.storeL 3 (.s 2) (.s 53))]) .ret))))))⟩
def f15 : F := ⟨48, false, [.l 6 true 3], (.seq (.region false [ o 3 (.boxL 4 (.s 0)), o 6 (.allocL [(.t .nils), (.t .nils), (.t .nils)])]) (.seq (.region false [
 o 10 (.loadL true 4 (.s 3)), o 11 (.call false (cf 13) [(.s 10)]), o 7 (.allocL [(.t .nils), (.t .nils), (.t .nils)]), on (.storeL 3 (.s 7) (.s 11))]) (.seq (.seq (.region false [
 o 8 (.mv (ci 0))]) (.block 0 (.loop (.seq (.seq (.region false [ o 12 (.mv (.s 8)), o 13 (.mv (.s 1)), o 14 (.len (.s 13)), o 15 (.bin .lss (.s 12) (.s 14)), o 16 (.mv (.s 15)),
 og 16 true 17 (.mv (.s 8)), og 16 true 18 (.mv (.s 2)), og 16 true 19 (.bin .lss (.s 17) (.s 18)), o 20 (.pick (.s 16) (.s 19) (cb false))]) (.cond (.s 20) .skip (.exit 0))) (.seq
 (.block 1 (.seq (.region false [ o 23 (.loadL true 4 (.s 3)), o 24 (.loadL true 3 (.s 7)), o 25 (.call false (cf 25) [(.s 23), (.s 24)]), o 9 (.mv (.s 25))]) (.seq (.seq
 (.region false [ o 26 (.mv (.s 9)), o 27 (.len (.s 26)), o 28 (.bin .eql (.s 27) (ci 0))]) (.cond (.s 28) (.seq (.region false [ o 29 (.loadL true 3 (.s 7)),
 on (.storeL 3 (.s 6) (.s 29))]) .ret) .skip)) (.region true [ o 31 (.loadL true 4 (.s 3)), o 32 (.loadL true 3 (.s 7)), o 33 (.mv (.s 9)), o 34 (.mv (.s 1)), o 35 (.mv (.s 8)),
 o 36 (.iaddrS 1 (.s 34) (.s 35)), o 37 (.load false 1 (.s 36)), o 38 (.conv .i64 (.s 37)), o 39 (.mv (.s 9)), o 40 (.len (.s 39)), o 41 (.bin .rem (.s 38) (.s 40)),
 o 42 (.iaddrS 3 (.s 33) (.s 41)), o 43 (.load true 3 (.s 42)), o 44 (.call false (cf 42) [(.s 31), (.s 32), (.s 43)]), o 30 (.mv (.s 44)), o 45 (.extr (.s 30) 0),
 o 46 (.extr (.s 30) 1), on (.storeL 3 (.s 7) (.s 45))])))) (.region false [ o 21 (.mv (.s 8)), o 22 (.bin .add (.s 21) (ci 1)), o 8 (.mv (.s 22))])))))) (.seq (.region false [
 o 47 (.loadL true 3 (.s 7)), on (.storeL 3 (.s 6) (.s 47))]) .ret))))⟩
def f16 : F := ⟨9, false, [.s 2], (.seq (.region false [ o 1 (.boxL 4 (.s 0)), o 2 (.mv (cb false))]) (.seq (.region false [ o 3 (.loadL true 4 (.s 1)),
 o 4 (.call false (cf 9) [(.s 3)]), o 5 (.mv (.s 4)), og 5 true 6 (.loadL true 4 (.s 1)), og 5 true 7 (.call false (cf 39) [(.s 6)]), o 8 (.pick (.s 5) (.s 7) (cb false)),
 o 2 (.mv (.s 8))]) .ret))⟩
def f17 : F := ⟨17, false, [.s 4], (.seq (.region false [ o 2 (.boxL 4 (.s 0)), o 3 (.boxL 3 (.s 1)), o 4 (.mv (.c (.t .nils)))]) (.seq (.seq (.region false [
 o 5 (.loadL true 4 (.s 2)), o 6 (.call false (cf 38) [(.s 5)]), o 7 (.un .not (.s 6)), o 8 (.mv (.s 7)), og 8 false 9 (.loadL true 4 (.s 2)), og 8 false 10 (.loadL true 3 (.s 3)),
 og 8 false 11 (.call false (cf 43) [(.s 9), (.s 10)]), og 8 false 12 (.un .not (.s 11)), o 13 (.pick (.s 8) (cb true) (.s 12))]) (.cond (.s 13) (.seq (.region false [
 o 4 (.mv (.c (.t .nils)))]) .ret) .skip)) (.seq (.region false [ o 14 (.loadL true 4 (.s 2)), o 15 (.loadL true 3 (.s 3)), o 16 (.call false (cf 44) [(.s 14), (.s 15)]),
 o 4 (.mv (.s 16))]) .ret)))⟩
def f18 : F := ⟨37, false, [.l 6 true 3, .s 7], (.seq (.region false [ o 3 (.boxL 4 (.s 0)), o 4 (.boxL 3 (.s 1)), o 5 (.boxL 3 (.s 2)),
 o 6 (.allocL [(.t .nils), (.t .nils), (.t .nils)]), o 7 (.mv (ci 0))]) (.seq (.seq (.region false [ o 10 (.loadL true 4 (.s 3)), o 11 (.call false (cf 38) [(.s 10)]),
 o 12 (.un .not (.s 11)), o 13 (.mv (.s 12)), og 13 false 14 (.loadL true 4 (.s 3)), og 13 false 15 (.loadL true 3 (.s 4)), og 13 false 16 (.call false (cf 43) [(.s 14), (.s 15)]),
 og 13 false 17 (.un .not (.s 16)), o 18 (.pick (.s 13) (cb true) (.s 17))]) (.cond (.s 18) (.seq (.region false [ o 19 (.build [(.t .nils), (.t .nils), (.t .nils)] []),
 on (.storeL 3 (.s 6) (.s 19)), o 7 (.mv (ci 1))]) .ret) .skip)) (.seq (.seq (.region false [ o 20 (.loadL true 4 (.s 3)), o 21 (.loadL true 3 (.s 4)),
 o 22 (.call false (cf 44) [(.s 20), (.s 21)]), o 23 (.len (.s 22)), o 24 (.mv (ci 0))]) (.block 0 (.loop (.seq (.region false [ o 25 (.bin .lss (.s 24) (.s 23))]) (.seq
 (.cond (.s 25) .skip (.exit 0)) (.seq (.block 1 (.seq (.region false [ o 26 (.iaddrS 3 (.s 22) (.s 24)), o 27 (.load true 3 (.s 26)),
 o 9 (.allocL [(.t (.int .i64 0)), (.t (.int .i64 0)), (.t (.int .i64 0))]), on (.storeL 3 (.s 9) (.s 27))]) (.seq (.region false [ o 28 (.loadL true 3 (.s 5)),
 o 29 (.loadL true 3 (.s 9)), o 30 (.eqa false [0, 0, 0] (.s 28) (.s 29))]) (.cond (.s 30) (.seq (.region false [ o 31 (.loadL true 4 (.s 3)), o 32 (.loadL true 3 (.s 4)),
 o 33 (.loadL true 3 (.s 5)), o 34 (.call false (cf 45) [(.s 31), (.s 32), (.s 33)]), on (.storeL 3 (.s 6) (.s 34)), o 7 (.mv (ci 0))]) .ret) .skip)))) (.region false [
 o 35 (.bin .add (.s 24) (ci 1)), o 24 (.mv (.s 35))]))))))) (.seq (.region false [ o 36 (.build [(.t .nils), (.t .nils), (.t .nils)] []), on (.storeL 3 (.s 6) (.s 36)),
 o 7 (.mv (ci 110))]) .ret))))⟩
def f19 : F := ⟨36, false, [.s 4], (.seq (.region false [ o 2 (.boxL 4 (.s 0)), o 3 (.boxL 3 (.s 1)), o 4 (.mv (cb false))]) (.seq (.seq (.region false [ o 6 (.loadL true 4 (.s 2)),
 o 7 (.faddrL 0 (.s 3)), o 8 (.loadL false 1 (.s 7)), o 9 (.faddrL 1 (.s 3)), o 10 (.loadL false 1 (.s 9)), o 11 (.call false (cf 46) [(.s 6), (.s 8), (.s 10)]),
 o 12 (.un .not (.s 11)), o 13 (.mv (.s 12)), og 13 false 14 (.faddrL 2 (.s 3)), og 13 false 15 (.loadL false 1 (.s 14)), og 13 false 16 (.len (.s 15)),
 og 13 false 17 (.faddrL 3 (.s 2)), og 13 false 18 (.loadL false 1 (.s 17)), og 13 false 19 (.len (.s 18)), og 13 false 20 (.bin .neq (.s 16) (.s 19)),
 o 21 (.pick (.s 13) (cb true) (.s 20))]) (.cond (.s 21) (.seq (.region false [ o 4 (.mv (cb false))]) .ret) .skip)) (.seq (.seq (.region false [ o 5 (.mv (ci 0))]) (.block 0 (.loop
 (.seq (.seq (.region false [ o 22 (.mv (.s 5)), o 23 (.faddrL 2 (.s 3)), o 24 (.loadL false 1 (.s 23)), o 25 (.len (.s 24)), o 26 (.bin .lss (.s 22) (.s 25))]) (.cond (.s 26) .skip
 (.exit 0))) (.seq (.block 1 (.seq (.region false [ o 29 (.faddrL 2 (.s 3)), o 30 (.loadL false 1 (.s 29)), o 31 (.mv (.s 5)), o 32 (.iaddrS 1 (.s 30) (.s 31)),
 o 33 (.load false 1 (.s 32)), o 34 (.len (.s 33)), o 35 (.bin .gtr (.s 34) (ci 0))]) (.cond (.s 35) (.seq (.region false [ o 4 (.mv (cb false))]) .ret) .skip))) (.region false [
 o 27 (.mv (.s 5)), o 28 (.bin .add (.s 27) (ci 1)), o 5 (.mv (.s 28))])))))) (.seq (.region false [ o 4 (.mv (cb true))]) .ret))))⟩
def f20 : F := ⟨18, false, [.s 4], (.seq (.region false [ o 3 (.boxL 3 (.s 1)), o 4 (.mv (cb false))]) (.seq (.seq (.region false [ o 5 (.mv (ci 0))]) (.block 0 (.loop (.seq (.seq
 (.region false [ o 6 (.mv (.s 5)), o 7 (.mv (.s 0)), o 8 (.len (.s 7)), o 9 (.bin .lss (.s 6) (.s 8))]) (.cond (.s 9) .skip (.exit 0))) (.seq (.block 1 (.seq (.region true [
 o 12 (.mv (.s 0)), o 13 (.mv (.s 5)), o 14 (.iaddrS 3 (.s 12) (.s 13)), o 15 (.load true 3 (.s 14)), o 16 (.loadL true 3 (.s 3)), o 17 (.eqa false [0, 0, 0] (.s 15) (.s 16))])
 (.cond (.s 17) (.seq (.region false [ o 4 (.mv (cb true))]) .ret) .skip))) (.region false [ o 10 (.mv (.s 5)), o 11 (.bin .add (.s 10) (ci 1)), o 5 (.mv (.s 11))])))))) (.seq
 (.region false [ o 4 (.mv (cb false))]) .ret)))⟩
def f21 : F := ⟨20, false, [.s 6], (.seq (.region false [ o 3 (.boxL 4 (.s 0)), o 4 (.boxL 3 (.s 1)), o 6 (.mv (cb false))]) (.seq (.region true [ o 7 (.faddrL 1 (.s 4)),
 o 8 (.loadL false 1 (.s 7)), o 9 (.mv (.s 2)), o 10 (.iaddrS 1 (.s 8) (.s 9)), o 11 (.load false 1 (.s 10)), o 12 (.faddrL 3 (.s 3)), o 13 (.loadL false 1 (.s 12)),
 o 14 (.mv (.s 2)), o 15 (.iaddrS 7 (.s 13) (.s 14)), o 16 (.faddr 1 (.s 15)), o 17 (.load false 1 (.s 16)), o 18 (.bin .sub (.s 17) (ci 1)), o 19 (.bin .eql (.s 11) (.s 18)),
 o 6 (.mv (.s 19))]) .ret))⟩
def f22 : F := ⟨38, false, [.s 4], (.seq (.region false [ o 2 (.boxL 4 (.s 0)), o 3 (.boxL 3 (.s 1)), o 4 (.mv (cb false))]) (.seq (.seq (.region false [ o 7 (.loadL true 4 (.s 2)),
 o 8 (.call false (cf 38) [(.s 7)]), o 9 (.un .not (.s 8)), o 10 (.mv (.s 9)), og 10 false 11 (.loadL true 4 (.s 2)), og 10 false 12 (.loadL true 3 (.s 3)),
 og 10 false 13 (.call false (cf 43) [(.s 11), (.s 12)]), og 10 false 14 (.un .not (.s 13)), o 15 (.pick (.s 10) (cb true) (.s 14))]) (.cond (.s 15) (.seq (.region false [
 o 4 (.mv (cb false))]) .ret) .skip)) (.seq (.seq (.region false [ o 16 (.faddrL 1 (.s 3)), o 17 (.loadL false 1 (.s 16)), o 18 (.len (.s 17)), o 19 (.mv (ci 0))]) (.block 0 (.loop
 (.seq (.region false [ o 20 (.bin .lss (.s 19) (.s 18))]) (.seq (.cond (.s 20) .skip (.exit 0)) (.seq (.block 1 (.seq (.region false [ o 21 (.mv (.s 19)),
 o 22 (.iaddrS 1 (.s 17) (.s 19)), o 23 (.load false 1 (.s 22)), o 5 (.mv (.s 21)), o 6 (.mv (.s 23))]) (.seq (.region false [ o 24 (.mv (.s 6)), o 25 (.bin .neq (.s 24) (ci (-1))),
 o 26 (.mv (.s 25)), og 26 true 27 (.mv (.s 6)), og 26 true 28 (.faddrL 3 (.s 2)), og 26 true 29 (.loadL false 1 (.s 28)), og 26 true 30 (.mv (.s 5)),
 og 26 true 31 (.iaddrS 7 (.s 29) (.s 30)), og 26 true 32 (.faddr 1 (.s 31)), og 26 true 33 (.load false 1 (.s 32)), og 26 true 34 (.bin .sub (.s 33) (ci 1)),
 og 26 true 35 (.bin .neq (.s 27) (.s 34)), o 36 (.pick (.s 26) (.s 35) (cb false))]) (.cond (.s 36) (.seq (.region false [ o 4 (.mv (cb false))]) .ret) .skip)))) (.region false [
 o 37 (.bin .add (.s 19) (ci 1)), o 19 (.mv (.s 37))]))))))) (.seq (.region false [ o 4 (.mv (cb true))]) .ret))))⟩
def f23 : F := ⟨11, false, [.s 4], (.seq (.region false [ o 2 (.boxL 4 (.s 0)), o 4 (.mv (cb false))]) (.seq (.region false [ o 5 (.loadL true 4 (.s 2)), o 6 (.mv (.s 1)),
 o 7 (.bin .add (.s 6) (ci 1)), o 8 (.call false (cf 47) [(.s 5), (.s 7)]), o 9 (.mv (.s 1)), o 10 (.bin .leq (.s 8) (.s 9)), o 4 (.mv (.s 10))]) .ret))⟩
def f24 : F := ⟨15, false, [.s 6], (.seq (.region false [ o 3 (.boxL 4 (.s 0)), o 6 (.mv (cb false))]) (.seq (.region false [ o 7 (.loadL true 4 (.s 3)),
 o 8 (.call false (cf 48) [(.s 7)]), o 9 (.mv (.s 8)), og 9 true 10 (.loadL true 4 (.s 3)), og 9 true 11 (.mv (.s 1)), og 9 true 12 (.mv (.s 2)),
 og 9 true 13 (.call false (cf 49) [(.s 10), (.s 11), (.s 12)]), o 14 (.pick (.s 9) (.s 13) (cb false)), o 6 (.mv (.s 14))]) .ret))⟩
def f25 : F := ⟨55, false, [.s 4], (.seq (.region false [ o 2 (.boxL 4 (.s 0)), o 3 (.boxL 3 (.s 1)), o 4 (.mv (.c (.t .nils)))]) (.seq (.seq (.region false [
 o 8 (.loadL true 4 (.s 2)), o 9 (.call false (cf 39) [(.s 8)]), o 10 (.un .not (.s 9)), o 11 (.mv (.s 10)), og 11 false 12 (.loadL true 4 (.s 2)),
 og 11 false 13 (.loadL true 3 (.s 3)), og 11 false 14 (.call false (cf 19) [(.s 12), (.s 13)]), og 11 false 15 (.un .not (.s 14)), o 16 (.pick (.s 11) (cb true) (.s 15))])
 (.cond (.s 16) (.seq (.region false [ o 4 (.mv (.c (.t .nils)))]) .ret) .skip)) (.seq (.region false [ o 5 (.mv (.c (.t .nils)))]) (.seq (.seq (.region false [ o 6 (.mv (ci 0))])
 (.block 0 (.loop (.seq (.seq (.region false [ o 17 (.mv (.s 6)), o 18 (.faddrL 3 (.s 2)), o 19 (.loadL false 1 (.s 18)), o 20 (.len (.s 19)), o 21 (.bin .lss (.s 17) (.s 20))])
 (.cond (.s 21) .skip (.exit 0))) (.seq (.block 1 (.seq (.region false [ o 7 (.mv (ci 0))]) (.block 2 (.loop (.seq (.seq (.region false [ o 24 (.mv (.s 7)), o 25 (.faddrL 3 (.s 2)),
 o 26 (.loadL false 1 (.s 25)), o 27 (.mv (.s 6)), o 28 (.iaddrS 7 (.s 26) (.s 27)), o 29 (.faddr 4 (.s 28)), o 30 (.load false 1 (.s 29)), o 31 (.len (.s 30)),
 o 32 (.bin .lss (.s 24) (.s 31))]) (.cond (.s 32) .skip (.exit 2))) (.seq (.block 3 (.seq (.region true [ o 35 (.loadL true 4 (.s 2)), o 36 (.loadL true 3 (.s 3)),
 o 37 (.mv (.s 6)), o 38 (.faddrL 3 (.s 2)), o 39 (.loadL false 1 (.s 38)), o 40 (.mv (.s 6)), o 41 (.iaddrS 7 (.s 39) (.s 40)), o 42 (.faddr 4 (.s 41)),
 o 43 (.load false 1 (.s 42)), o 44 (.mv (.s 7)), o 45 (.iaddrS 11 (.s 43) (.s 44)), o 46 (.load true 11 (.s 45)), o 47 (.call false (cf 50) [(.s 35), (.s 36), (.s 37), (.s 46)])])
 (.cond (.s 47) (.region false [ o 48 (.mv (.s 5)), o 49 (.mv (.s 6)), o 50 (.mv (.s 7)),
 o 51 (.build [(.t (.int .i64 0)), (.t (.int .i64 0)), (.t (.int .i64 0))] [(0, 1, (.s 49)), (1, 1, (.s 50))]),
 o 52 (.bslice 3 1 [(.t (.int .i64 0)), (.t (.int .i64 0)), (.t (.int .i64 0))] [(0, (.s 51))]), o 53 (.append 3 24 (.s 48) (.s 52)), o 5 (.mv (.s 53))]) .skip))) (.region false [
 o 33 (.mv (.s 7)), o 34 (.bin .add (.s 33) (ci 1)), o 7 (.mv (.s 34))]))))))) (.region false [ o 22 (.mv (.s 6)), o 23 (.bin .add (.s 22) (ci 1)), o 6 (.mv (.s 23))])))))) (.seq
 (.region false [ o 54 (.mv (.s 5)), o 4 (.mv (.s 54))]) .ret)))))⟩
def f27 : F := ⟨13, false, [.s 6], (.seq (.region false [ o 3 (.boxH 4 (.s 0)), o 6 (.mv (ci 0))]) (.seq (.seq (.region false [ o 7 (.load true 4 (.s 3)),
 o 8 (.call false (cf 51) [(.s 7)]), o 9 (.un .not (.s 8))]) (.cond (.s 9) (.seq (.region false [ o 6 (.mv (ci 0))]) .ret) .skip)) (.seq (.region false [ o 10 (.mv (.s 1)),
 o 11 (.mv (.s 2)), o 12 (.call false (cf 56) [(.s 3), (.s 10), (.s 11)]), o 6 (.mv (.s 12))]) .ret)))⟩
def f28 : F := ⟨21, false, [.s 2], (.seq (.region false [ o 1 (.boxL 11 (.s 0)), o 2 (.mv (.c (.t .nils)))]) (.seq (.region false [ o 3 (.mv (.c (.t .nils)))]) (.seq (.seq
 (.region false [ o 6 (.faddrL 7 (.s 1)), o 7 (.loadL false 1 (.s 6)), o 8 (.len (.s 7)), o 9 (.mv (ci 0))]) (.block 0 (.loop (.seq (.region false [ o 10 (.bin .lss (.s 9) (.s 8))])
 (.seq (.cond (.s 10) .skip (.exit 0)) (.seq (.block 1 (.seq (.region false [ o 11 (.iaddrS 5 (.s 7) (.s 9)), o 12 (.load true 5 (.s 11)),
 o 5 (.allocL [(.t (.int .i64 0)), (.t (.int .i64 0)), (.t (.int .i64 0)), (.t (.int .i64 0)), (.t .nils)]), on (.storeL 5 (.s 5) (.s 12))]) (.region false [ o 13 (.mv (.s 3)),
 o 14 (.faddrL 0 (.s 5)), o 15 (.loadL false 1 (.s 14)), o 16 (.bslice 1 1 [(.t (.int .i64 0))] [(0, (.s 15))]), o 17 (.append 1 8 (.s 13) (.s 16)), o 3 (.mv (.s 17))])))
 (.region false [ o 18 (.bin .add (.s 9) (ci 1)), o 9 (.mv (.s 18))]))))))) (.seq (.region false [ o 19 (.mv (.s 3)), o 20 (.call true (cf 57) [(.s 19)]), o 2 (.mv (.s 20))])
 .ret))))⟩
def f29 : F := ⟨18, false, [.s 4], (.seq (.region false [ o 4 (.mv (cb false))]) (.seq (.seq (.region false [ o 5 (.mv (ci 0))]) (.block 0 (.loop (.seq (.seq (.region false [
 o 6 (.mv (.s 5)), o 7 (.mv (.s 0)), o 8 (.len (.s 7)), o 9 (.bin .lss (.s 6) (.s 8))]) (.cond (.s 9) .skip (.exit 0))) (.seq (.block 1 (.seq (.region false [ o 12 (.mv (.s 0)),
 o 13 (.mv (.s 5)), o 14 (.iaddrS 1 (.s 12) (.s 13)), o 15 (.load false 1 (.s 14)), o 16 (.mv (.s 1)), o 17 (.bin .eql (.s 15) (.s 16))]) (.cond (.s 17) (.seq (.region false [
 o 4 (.mv (cb true))]) .ret) .skip))) (.region false [ o 10 (.mv (.s 5)), o 11 (.bin .add (.s 10) (ci 1)), o 5 (.mv (.s 11))])))))) (.seq (.region false [ o 4 (.mv (cb false))])
 .ret)))⟩
def f31 : F := ⟨34, false, [.s 2], (.seq (.region false [ o 1 (.boxL 11 (.s 0)), o 2 (.mv (.c (.t .nils)))]) (.seq (.region false [ o 10 (.faddrL 3 (.s 1)),
 o 11 (.loadL true 4 (.s 10)), o 12 (.call true (cf 60) [(.s 11)]), o 9 (.mv (.s 12)), o 13 (.extr (.s 9) 0), o 14 (.extr (.s 9) 1), o 3 (.mv (.s 13)), o 4 (.mv (.s 14))]) (.seq
 (.seq (.region false [ o 15 (.faddrL 7 (.s 1)), o 16 (.loadL false 1 (.s 15)), o 17 (.len (.s 16)), o 18 (.mv (ci 0))]) (.block 0 (.loop (.seq (.region false [
 o 19 (.bin .lss (.s 18) (.s 17))]) (.seq (.cond (.s 19) .skip (.exit 0)) (.seq (.block 1 (.seq (.region false [ o 20 (.iaddrS 5 (.s 16) (.s 18)), o 21 (.load true 5 (.s 20)),
 o 6 (.allocL [(.t (.int .i64 0)), (.t (.int .i64 0)), (.t (.int .i64 0)), (.t (.int .i64 0)), (.t .nils)]), on (.storeL 5 (.s 6) (.s 21))]) (.seq (.region false [
 o 23 (.faddrL 1 (.s 6)), o 24 (.loadL true 4 (.s 23)), o 25 (.call true (cf 60) [(.s 24)]), o 22 (.mv (.s 25)), o 26 (.extr (.s 22) 0), o 27 (.extr (.s 22) 1), o 7 (.mv (.s 26)),
 o 8 (.mv (.s 27))]) (.region false [ o 28 (.mv (.s 4)), o 29 (.mv (.s 8)), o 30 (.append 1 8 (.s 28) (.s 29)), o 4 (.mv (.s 30))])))) (.region false [
 o 31 (.bin .add (.s 18) (ci 1)), o 18 (.mv (.s 31))]))))))) (.seq (.region false [ o 32 (.mv (.s 4)), o 33 (.call true (cf 57) [(.s 32)]), o 2 (.mv (.s 33))]) .ret))))⟩
def f32 : F := ⟨19, true, [.s 2], (.seq (.region false [ o 2 (.mv (.c (.t .nils)))]) (.seq (.region false [ o 3 (.mv (.c (.t .nils)))]) (.seq (.seq (.region false [
 o 4 (.mv (ci 0))]) (.block 0 (.loop (.seq (.seq (.region false [ o 5 (.mv (.s 4)), o 6 (.mv (.s 0)), o 7 (.len (.s 6)), o 8 (.bin .lss (.s 5) (.s 7))]) (.cond (.s 8) .skip
 (.exit 0))) (.seq (.block 1 (.region false [ o 11 (.mv (.s 3)), o 12 (.mv (.s 0)), o 13 (.mv (.s 4)), o 14 (.iaddrS 1 (.s 12) (.s 13)), o 15 (.load false 1 (.s 14)),
 o 16 (.bslice 1 1 [(.t (.int .i64 0))] [(0, (.s 15))]), o 17 (.append 1 8 (.s 11) (.s 16)), o 3 (.mv (.s 17))])) (.region false [ o 9 (.mv (.s 4)), o 10 (.bin .add (.s 9) (ci 1)),
 o 4 (.mv (.s 10))])))))) (.seq (.region false [ o 18 (.mv (.s 3)), o 2 (.mv (.s 18))]) .ret))))⟩
def f33 : F := ⟨13, false, [.s 2], (.seq (.region false [ o 2 (.mv (ci 0))]) (.seq (.region false [ o 3 (.mv (ci 1))]) (.seq (.seq (.region false [ o 4 (.mv (ci 0))]) (.block 0
 (.loop (.seq (.seq (.region false [ o 5 (.mv (.s 4)), o 6 (.mv (.s 0)), o 7 (.bin .lss (.s 5) (.s 6))]) (.cond (.s 7) .skip (.exit 0))) (.seq (.block 1 (.region false [
 o 10 (.mv (.s 3)), o 11 (.bin .mul (.s 10) (ci 2)), o 3 (.mv (.s 11))])) (.region false [ o 8 (.mv (.s 4)), o 9 (.bin .add (.s 8) (ci 1)), o 4 (.mv (.s 9))])))))) (.seq
 (.region false [ o 12 (.mv (.s 3)), o 2 (.mv (.s 12))]) .ret))))⟩
def f34 : F := ⟨26, false, [.s 4], (.seq (.region false [ o 4 (.mv (cb false))]) (.seq (.seq (.region false [ o 6 (.mv (.s 0)), o 7 (.len (.s 6)), o 8 (.mv (.s 1)),
 o 9 (.len (.s 8)), o 10 (.bin .neq (.s 7) (.s 9))]) (.cond (.s 10) (.seq (.region false [ o 4 (.mv (cb false))]) .ret) .skip)) (.seq (.seq (.region false [ o 5 (.mv (ci 0))])
 (.block 0 (.loop (.seq (.seq (.region false [ o 11 (.mv (.s 5)), o 12 (.mv (.s 0)), o 13 (.len (.s 12)), o 14 (.bin .lss (.s 11) (.s 13))]) (.cond (.s 14) .skip (.exit 0))) (.seq
 (.block 1 (.seq (.region true [ o 17 (.mv (.s 0)), o 18 (.mv (.s 5)), o 19 (.iaddrS 1 (.s 17) (.s 18)), o 20 (.load false 1 (.s 19)), o 21 (.mv (.s 1)), o 22 (.mv (.s 5)),
 o 23 (.iaddrS 1 (.s 21) (.s 22)), o 24 (.load false 1 (.s 23)), o 25 (.bin .neq (.s 20) (.s 24))]) (.cond (.s 25) (.seq (.region false [ o 4 (.mv (cb false))]) .ret) .skip)))
 (.region false [ o 15 (.mv (.s 5)), o 16 (.bin .add (.s 15) (ci 1)), o 5 (.mv (.s 16))])))))) (.seq (.region false [ o 4 (.mv (cb true))]) .ret))))⟩
def f35 : F := ⟨41, false, [.l 0 true 4], (.seq (.region false [ o 0 (.allocL [(.t .nils), (.t .nils), (.t .nils), (.t .nils)])]) (.seq (.region false [
 o 6 (.call false (cf 61) [(ci 1), (ci 1)]), o 1 (.allocL [(.t (.int .i64 0)), (.t (.int .i64 0)), (.t (.int .i64 0)), (.t .nils)]), on (.storeL 4 (.s 1) (.s 6))]) (.seq
 (.region false [
 o 7 (.build [(.t (.str (bs []))), (.t (.int .i64 0)), (.t (.int .i64 0)), (.t (.int .i64 0)), (.t (.bool false)), (.t (.int .i64 0))] [(0, 1, (.c (.t (.str (bs [77, 46, 120]))))), (1, 1, (ci 2)), (2, 1, (ci 1)), (3, 1, (ci (-1)))]),
 o 8 (.build [(.t (.str (bs []))), (.t (.int .i64 0)), (.t (.int .i64 0)), (.t (.int .i64 0)), (.t (.bool false)), (.t (.int .i64 0))] [(0, 1, (.c (.t (.str (bs [116, 46, 114]))))), (1, 1, (ci 2)), (3, 1, (ci 0))]),
 o 9 (.bslice 6 2 [(.t (.str (bs []))), (.t (.int .i64 0)), (.t (.int .i64 0)), (.t (.int .i64 0)), (.t (.bool false)), (.t (.int .i64 0))] [(0, (.s 7)), (1, (.s 8))]),
 o 2 (.mv (.s 9))]) (.seq (.region true [ o 10 (.loadL true 4 (.s 1)), o 11 (.call false (cf 62) [(ci 0), (ci 2)]),
 o 12 (.build [(.t (.int .i64 0)), (.t (.int .i64 0)), (.t (.int .i64 0)), (.t (.int .i64 0)), (.t .nils)] [(0, 1, (ci 1)), (1, 4, (.s 11))]),
 o 13 (.bslice 5 1 [(.t (.int .i64 0)), (.t (.int .i64 0)), (.t (.int .i64 0)), (.t (.int .i64 0)), (.t .nils)] [(0, (.s 12))]),
 o 14 (.build [(.t (.int .i64 0)), (.t (.int .i64 0)), (.t (.int .i64 0)), (.t (.int .i64 0)), (.t (.int .i64 0)), (.t (.int .i64 0)), (.t .nils), (.t .nils), (.t (.bool false)), (.t (.int .i64 0)), (.t (.int .i64 0))] [(0, 1, (ci 2)), (1, 1, (ci 0)), (2, 1, (ci 1)), (3, 4, (.s 10)), (7, 1, (.s 13))]),
 o 3 (.allocL [(.t (.int .i64 0)), (.t (.int .i64 0)), (.t (.int .i64 0)), (.t (.int .i64 0)), (.t (.int .i64 0)), (.t (.int .i64 0)), (.t .nils), (.t .nils), (.t (.bool false)), (.t (.int .i64 0)), (.t (.int .i64 0))]),
 on (.storeL 11 (.s 3) (.s 14))]) (.seq (.region false [ o 15 (.call false (cf 62) [(ci 0), (ci 2)]), o 16 (.call false (cf 61) [(ci 3), (ci 2)]),
 o 17 (.call false (cf 63) [(ci 12), (ci 1), (.s 15), (.s 16)]), o 18 (.call false (cf 62) [(ci 0), (ci 2)]), o 19 (.call false (cf 61) [(ci 1), (ci 2)]),
 o 20 (.call false (cf 63) [(ci 8), (ci 2), (.s 18), (.s 19)]),
 o 21 (.build [(.t (.int .i64 0)), (.t (.int .i64 0)), (.t (.int .i64 0)), (.t (.int .i64 0)), (.t .nils)] [(0, 1, (ci 0)), (1, 4, (.s 20))]),
 o 22 (.bslice 5 1 [(.t (.int .i64 0)), (.t (.int .i64 0)), (.t (.int .i64 0)), (.t (.int .i64 0)), (.t .nils)] [(0, (.s 21))]),
 o 23 (.build [(.t (.int .i64 0)), (.t (.int .i64 0)), (.t (.int .i64 0)), (.t (.int .i64 0)), (.t (.int .i64 0)), (.t (.int .i64 0)), (.t .nils), (.t .nils), (.t (.bool false)), (.t (.int .i64 0)), (.t (.int .i64 0))] [(0, 1, (ci 4)), (1, 1, (ci 1)), (2, 1, (ci 2)), (3, 4, (.s 17)), (7, 1, (.s 22))]),
 o 4 (.allocL [(.t (.int .i64 0)), (.t (.int .i64 0)), (.t (.int .i64 0)), (.t (.int .i64 0)), (.t (.int .i64 0)), (.t (.int .i64 0)), (.t .nils), (.t .nils), (.t (.bool false)), (.t (.int .i64 0)), (.t (.int .i64 0))]),
 on (.storeL 11 (.s 4) (.s 23))]) (.seq (.region false [ o 24 (.loadL true 4 (.s 1)), o 25 (.loadL true 4 (.s 1)), o 26 (.loadL true 4 (.s 1)),
 o 27 (.bslice 4 3 [(.t (.int .i64 0)), (.t (.int .i64 0)), (.t (.int .i64 0)), (.t .nils)] [(0, (.s 24)), (1, (.s 25)), (2, (.s 26))]),
 o 28 (.bslice 1 3 [(.t (.int .i64 0))] [(0, (ci 0)), (1, (ci 0)), (2, (ci 0))]), o 29 (.loadL true 11 (.s 3)), o 30 (.loadL true 11 (.s 4)),
 o 31 (.bslice 11 2 [(.t (.int .i64 0)), (.t (.int .i64 0)), (.t (.int .i64 0)), (.t (.int .i64 0)), (.t (.int .i64 0)), (.t (.int .i64 0)), (.t .nils), (.t .nils), (.t (.bool false)), (.t (.int .i64 0)), (.t (.int .i64 0))] [(0, (.s 29)), (1, (.s 30))]),
 o 32 (.build [(.t (.str (bs []))), (.t (.int .i64 0)), (.t .nils), (.t .nils), (.t .nils), (.t .nils), (.t (.bool false))] [(0, 1, (.c (.t (.str (bs [116]))))), (1, 1, (ci 3)), (2, 1, (.s 27)), (3, 1, (.s 28)), (4, 1, (.s 31))]),
 o 5 (.allocL [(.t (.str (bs []))), (.t (.int .i64 0)), (.t .nils), (.t .nils), (.t .nils), (.t .nils), (.t (.bool false))]), on (.storeL 7 (.s 5) (.s 32))]) (.seq (.region false [
 o 33 (.mv (.s 2)), o 34 (.loadL true 4 (.s 1)), o 35 (.bslice 1 1 [(.t (.int .i64 0))] [(0, (ci 0))]),
 o 36 (.build [(.t (.str (bs []))), (.t (.str (bs []))), (.t (.int .i64 0)), (.t (.int .i64 0)), (.t (.int .i64 0)), (.t .nils), (.t (.int .i64 0)), (.t (.int .i64 0)), (.t (.int .i64 0)), (.t .nils), (.t .nils)] [(0, 1, (.c (.t (.str (bs [77]))))), (1, 1, (.c (.t (.str (bs [111]))))), (6, 4, (.s 34)), (10, 1, (.s 35))]),
 o 37 (.bslice 11 1 [(.t (.str (bs []))), (.t (.str (bs []))), (.t (.int .i64 0)), (.t (.int .i64 0)), (.t (.int .i64 0)), (.t .nils), (.t (.int .i64 0)), (.t (.int .i64 0)), (.t (.int .i64 0)), (.t .nils), (.t .nils)] [(0, (.s 36))]),
 o 38 (.loadL true 7 (.s 5)), o 39 (.bslice 7 1 [(.t (.str (bs []))), (.t (.int .i64 0)), (.t .nils), (.t .nils), (.t .nils), (.t .nils), (.t (.bool false))] [(0, (.s 38))]),
 o 40 (.build [(.t .nils), (.t .nils), (.t .nils), (.t .nils)] [(0, 1, (.s 33)), (1, 1, (.s 37)), (3, 1, (.s 39))]), on (.storeL 4 (.s 0) (.s 40))]) .ret)))))))⟩
def f36 : F := ⟨94, false, [.s 2], (.seq (.region false [ o 1 (.boxL 7 (.s 0)), o 2 (.mv (cb false))]) (.seq (.seq (.region false [ o 3 (.mv (ci 0))]) (.block 0 (.loop (.seq (.seq
 (.region false [ o 7 (.mv (.s 3)), o 8 (.faddrL 4 (.s 1)), o 9 (.loadL false 1 (.s 8)), o 10 (.len (.s 9)), o 11 (.bin .lss (.s 7) (.s 10))]) (.cond (.s 11) .skip (.exit 0))) (.seq
 (.block 1 (.seq (.seq (.region false [ o 14 (.faddrL 4 (.s 1)), o 15 (.loadL false 1 (.s 14)), o 16 (.mv (.s 3)), o 17 (.iaddrS 11 (.s 15) (.s 16)), o 18 (.faddr 3 (.s 17)),
 o 19 (.load true 4 (.s 18)), o 20 (.call false (cf 23) [(.s 19), (ci 30)]), o 21 (.un .not (.s 20)), o 22 (.mv (.s 21)), og 22 false 23 (.faddrL 4 (.s 1)),
 og 22 false 24 (.loadL false 1 (.s 23)), og 22 false 25 (.mv (.s 3)), og 22 false 26 (.iaddrS 11 (.s 24) (.s 25)), og 22 false 27 (.faddr 7 (.s 26)),
 og 22 false 28 (.load false 1 (.s 27)), og 22 false 29 (.len (.s 28)), og 22 false 30 (.bin .gtr (.s 29) (ci 8)), o 31 (.pick (.s 22) (cb true) (.s 30))]) (.cond (.s 31) (.seq
 (.region false [ o 2 (.mv (cb false))]) .ret) .skip)) (.seq (.region false [ o 4 (.mv (ci 0))]) (.block 2 (.loop (.seq (.seq (.region false [ o 32 (.mv (.s 4)),
 o 33 (.faddrL 4 (.s 1)), o 34 (.loadL false 1 (.s 33)), o 35 (.mv (.s 3)), o 36 (.iaddrS 11 (.s 34) (.s 35)), o 37 (.faddr 7 (.s 36)), o 38 (.load false 1 (.s 37)),
 o 39 (.len (.s 38)), o 40 (.bin .lss (.s 32) (.s 39))]) (.cond (.s 40) .skip (.exit 2))) (.seq (.block 3 (.seq (.region false [ o 43 (.faddrL 4 (.s 1)),
 o 44 (.loadL false 1 (.s 43)), o 45 (.mv (.s 3)), o 46 (.iaddrS 11 (.s 44) (.s 45)), o 47 (.faddr 7 (.s 46)), o 48 (.load false 1 (.s 47)), o 49 (.mv (.s 4)),
 o 50 (.iaddrS 5 (.s 48) (.s 49)), o 51 (.faddr 1 (.s 50)), o 52 (.load true 4 (.s 51)), o 53 (.call false (cf 23) [(.s 52), (ci 30)]), o 54 (.un .not (.s 53))]) (.cond (.s 54) (.seq
 (.region false [ o 2 (.mv (cb false))]) .ret) .skip))) (.region false [ o 41 (.mv (.s 4)), o 42 (.bin .add (.s 41) (ci 1)), o 4 (.mv (.s 42))])))))))) (.region false [
 o 12 (.mv (.s 3)), o 13 (.bin .add (.s 12) (ci 1)), o 3 (.mv (.s 13))])))))) (.seq (.seq (.region false [ o 5 (.mv (ci 0))]) (.block 4 (.loop (.seq (.seq (.region false [
 o 55 (.mv (.s 5)), o 56 (.faddrL 2 (.s 1)), o 57 (.loadL false 1 (.s 56)), o 58 (.len (.s 57)), o 59 (.bin .lss (.s 55) (.s 58))]) (.cond (.s 59) .skip (.exit 4))) (.seq (.block 5
 (.seq (.region false [ o 62 (.faddrL 2 (.s 1)), o 63 (.loadL false 1 (.s 62)), o 64 (.mv (.s 5)), o 65 (.iaddrS 4 (.s 63) (.s 64)), o 66 (.load true 4 (.s 65)),
 o 67 (.call false (cf 23) [(.s 66), (ci 60)]), o 68 (.un .not (.s 67))]) (.cond (.s 68) (.seq (.region false [ o 2 (.mv (cb false))]) .ret) .skip))) (.region false [
 o 60 (.mv (.s 5)), o 61 (.bin .add (.s 60) (ci 1)), o 5 (.mv (.s 61))])))))) (.seq (.seq (.region false [ o 6 (.mv (ci 0))]) (.block 6 (.loop (.seq (.seq (.region false [
 o 69 (.mv (.s 6)), o 70 (.faddrL 5 (.s 1)), o 71 (.loadL false 1 (.s 70)), o 72 (.len (.s 71)), o 73 (.bin .lss (.s 69) (.s 72))]) (.cond (.s 73) .skip (.exit 6))) (.seq (.block 7
 (.seq (.region false [ o 76 (.faddrL 5 (.s 1)), o 77 (.loadL false 1 (.s 76)), o 78 (.mv (.s 6)), o 79 (.iaddrS 6 (.s 77) (.s 78)), o 80 (.faddr 2 (.s 79)),
 o 81 (.load true 4 (.s 80)), o 82 (.call false (cf 23) [(.s 81), (ci 30)]), o 83 (.un .not (.s 82)), o 84 (.mv (.s 83)), og 84 false 85 (.faddrL 5 (.s 1)),
 og 84 false 86 (.loadL false 1 (.s 85)), og 84 false 87 (.mv (.s 6)), og 84 false 88 (.iaddrS 6 (.s 86) (.s 87)), og 84 false 89 (.faddr 1 (.s 88)),
 og 84 false 90 (.load false 1 (.s 89)), og 84 false 91 (.len (.s 90)), og 84 false 92 (.bin .gtr (.s 91) (ci 48)), o 93 (.pick (.s 84) (cb true) (.s 92))]) (.cond (.s 93) (.seq
 (.region false [ o 2 (.mv (cb false))]) .ret) .skip))) (.region false [ o 74 (.mv (.s 6)), o 75 (.bin .add (.s 74) (ci 1)), o 6 (.mv (.s 75))])))))) (.seq (.region false [
 o 2 (.mv (cb true))]) .ret)))))⟩
def f38 : F := ⟨14, false, [.s 2], (.seq (.region false [ o 1 (.boxL 4 (.s 0)), o 2 (.mv (cb false))]) (.seq (.region false [ o 7 (.loadL true 4 (.s 1)),
 o 8 (.call false (cf 64) [(.s 7)]), o 6 (.mv (.s 8)), o 9 (.extr (.s 6) 0), o 10 (.extr (.s 6) 1), o 11 (.extr (.s 6) 2), o 3 (.mv (.s 9)), o 4 (.mv (.s 10)), o 5 (.mv (.s 11))])
 (.seq (.region false [ o 12 (.mv (.s 3)), o 13 (.bin .eql (.s 12) (ci 0)), o 2 (.mv (.s 13))]) .ret)))⟩
def f39 : F := ⟨14, false, [.s 2], (.seq (.region false [ o 1 (.boxL 4 (.s 0)), o 2 (.mv (cb false))]) (.seq (.region false [ o 7 (.loadL true 4 (.s 1)),
 o 8 (.call false (cf 65) [(.s 7)]), o 6 (.mv (.s 8)), o 9 (.extr (.s 6) 0), o 10 (.extr (.s 6) 1), o 11 (.extr (.s 6) 2), o 3 (.mv (.s 9)), o 4 (.mv (.s 10)), o 5 (.mv (.s 11))])
 (.seq (.region false [ o 12 (.mv (.s 3)), o 13 (.bin .eql (.s 12) (ci 0)), o 2 (.mv (.s 13))]) .ret)))⟩
def f42 : F := ⟨69, false, [.l 6 true 3, .s 7], (.seq (.region false [ o 3 (.boxL 4 (.s 0)), o 4 (.boxL 3 (.s 1)), o 5 (.boxL 3 (.s 2)),
 o 6 (.allocL [(.t .nils), (.t .nils), (.t .nils)]), o 7 (.mv (ci 0))]) (.seq (.seq (.region false [ o 10 (.loadL true 4 (.s 3)), o 11 (.call false (cf 39) [(.s 10)]),
 o 12 (.un .not (.s 11)), o 13 (.mv (.s 12)), og 13 false 14 (.loadL true 4 (.s 3)), og 13 false 15 (.loadL true 3 (.s 4)), og 13 false 16 (.call false (cf 19) [(.s 14), (.s 15)]),
 og 13 false 17 (.un .not (.s 16)), o 18 (.pick (.s 13) (cb true) (.s 17))]) (.cond (.s 18) (.seq (.region false [ o 19 (.build [(.t .nils), (.t .nils), (.t .nils)] []),
 on (.storeL 3 (.s 6) (.s 19)), o 7 (.mv (ci 1))]) .ret) .skip)) (.seq (.seq (.region true [ o 20 (.loadL true 4 (.s 3)), o 21 (.loadL true 3 (.s 4)),
 o 22 (.call false (cf 25) [(.s 20), (.s 21)]), o 23 (.loadL true 3 (.s 5)), o 24 (.call false (cf 20) [(.s 22), (.s 23)]), o 25 (.un .not (.s 24))]) (.cond (.s 25) (.seq
 (.region false [ o 26 (.build [(.t .nils), (.t .nils), (.t .nils)] []), on (.storeL 3 (.s 6) (.s 26)), o 7 (.mv (ci 110))]) .ret) .skip)) (.seq (.region true [
 o 27 (.faddrL 3 (.s 3)), o 28 (.loadL false 1 (.s 27)), o 29 (.faddrL 0 (.s 5)), o 30 (.loadL false 1 (.s 29)), o 31 (.iaddrS 7 (.s 28) (.s 30)), o 32 (.faddr 4 (.s 31)),
 o 33 (.load false 1 (.s 32)), o 34 (.faddrL 1 (.s 5)), o 35 (.loadL false 1 (.s 34)), o 36 (.iaddrS 11 (.s 33) (.s 35)), o 37 (.load true 11 (.s 36)),
 o 8 (.allocL [(.t (.int .i64 0)), (.t (.int .i64 0)), (.t (.int .i64 0)), (.t (.int .i64 0)), (.t (.int .i64 0)), (.t (.int .i64 0)), (.t .nils), (.t .nils), (.t (.bool false)), (.t (.int .i64 0)), (.t (.int .i64 0))]),
 on (.storeL 11 (.s 8) (.s 37))]) (.seq (.region true [ o 38 (.faddrL 0 (.s 4)), o 39 (.loadL false 1 (.s 38)), o 40 (.faddrL 0 (.s 4)), o 41 (.loadL false 1 (.s 40)),
 o 42 (.faddrL 7 (.s 8)), o 43 (.loadL false 1 (.s 42)), o 44 (.call false (cf 66) [(.s 39), (.s 41), (.s 43)]), o 45 (.faddrL 1 (.s 4)), o 46 (.loadL false 1 (.s 45)),
 o 47 (.fcall (cf 32) [(.s 46)]), o 48 (.faddrL 3 (.s 3)), o 49 (.loadL false 1 (.s 48)), o 50 (.len (.s 49)), o 51 (.mkslice 1 24 [(.t .nils)] (.s 50) (.s 50)),
 o 52 (.build [(.t .nils), (.t .nils), (.t .nils)] [(0, 1, (.s 44)), (1, 1, (.s 47)), (2, 1, (.s 51))]), o 9 (.allocL [(.t .nils), (.t .nils), (.t .nils)]),
 on (.storeL 3 (.s 9) (.s 52))]) (.seq (.region false [ o 53 (.faddrL 1 (.s 9)), o 54 (.loadL false 1 (.s 53)), o 55 (.faddrL 0 (.s 5)), o 56 (.loadL false 1 (.s 55)),
 o 57 (.faddrL 2 (.s 8)), o 58 (.loadL false 1 (.s 57)), o 59 (.iaddrS 1 (.s 54) (.s 56)), on (.store 1 (.s 59) (.s 58))]) (.seq (.seq (.region false [ o 60 (.faddrL 0 (.s 8)),
 o 61 (.loadL false 1 (.s 60)), o 62 (.bin .eql (.s 61) (ci 6))]) (.cond (.s 62) (.region false [ o 63 (.faddrL 1 (.s 9)), o 64 (.loadL false 1 (.s 63)), o 65 (.faddrL 9 (.s 8)),
 o 66 (.loadL false 1 (.s 65)), o 67 (.iaddrS 1 (.s 64) (.s 66)), on (.store 1 (.s 67) (ci 0))]) .skip)) (.seq (.region false [ o 68 (.loadL true 3 (.s 9)),
 on (.storeL 3 (.s 6) (.s 68)), o 7 (.mv (ci 0))]) .ret))))))))⟩
def f43 : F := ⟨97, false, [.s 4], (.seq (.region false [ o 2 (.boxL 4 (.s 0)), o 3 (.boxL 3 (.s 1)), o 4 (.mv (cb false))]) (.seq (.seq (.region false [ o 10 (.faddrL 0 (.s 3)),
 o 11 (.loadL false 1 (.s 10)), o 12 (.len (.s 11)), o 13 (.faddrL 0 (.s 2)), o 14 (.loadL false 1 (.s 13)), o 15 (.len (.s 14)), o 16 (.bin .neq (.s 12) (.s 15)),
 o 17 (.mv (.s 16)), og 17 false 18 (.faddrL 1 (.s 3)), og 17 false 19 (.loadL false 1 (.s 18)), og 17 false 20 (.len (.s 19)), og 17 false 21 (.faddrL 3 (.s 2)),
 og 17 false 22 (.loadL false 1 (.s 21)), og 17 false 23 (.len (.s 22)), og 17 false 24 (.bin .neq (.s 20) (.s 23)), o 25 (.pick (.s 17) (cb true) (.s 24)), o 26 (.mv (.s 25)),
 og 26 false 27 (.faddrL 2 (.s 3)), og 26 false 28 (.loadL false 1 (.s 27)), og 26 false 29 (.len (.s 28)), og 26 false 30 (.faddrL 3 (.s 2)),
 og 26 false 31 (.loadL false 1 (.s 30)), og 26 false 32 (.len (.s 31)), og 26 false 33 (.bin .neq (.s 29) (.s 32)), o 34 (.pick (.s 26) (cb true) (.s 33))]) (.cond (.s 34) (.seq
 (.region false [ o 4 (.mv (cb false))]) .ret) .skip)) (.seq (.seq (.region false [ o 35 (.faddrL 0 (.s 3)), o 36 (.loadL false 1 (.s 35)), o 37 (.len (.s 36)), o 38 (.mv (ci 0))])
 (.block 0 (.loop (.seq (.region false [ o 39 (.bin .lss (.s 38) (.s 37))]) (.seq (.cond (.s 39) .skip (.exit 0)) (.seq (.block 1 (.seq (.region false [ o 40 (.mv (.s 38)),
 o 41 (.iaddrS 1 (.s 36) (.s 38)), o 42 (.load false 1 (.s 41)), o 5 (.mv (.s 40)), o 6 (.mv (.s 42))]) (.seq (.region false [ o 43 (.mv (.s 6)), o 44 (.bin .lss (.s 43) (ci 0)),
 o 45 (.mv (.s 44)), og 45 false 46 (.mv (.s 6)), og 45 false 47 (.faddrL 0 (.s 2)), og 45 false 48 (.loadL false 1 (.s 47)), og 45 false 49 (.mv (.s 5)),
 og 45 false 50 (.iaddrS 6 (.s 48) (.s 49)), og 45 false 51 (.faddr 1 (.s 50)), og 45 false 52 (.load false 1 (.s 51)), og 45 false 53 (.bin .shl (ci 1) (.s 52)),
 og 45 false 54 (.bin .geq (.s 46) (.s 53)), o 55 (.pick (.s 45) (cb true) (.s 54))]) (.cond (.s 55) (.seq (.region false [ o 4 (.mv (cb false))]) .ret) .skip)))) (.region false [
 o 56 (.bin .add (.s 38) (ci 1)), o 38 (.mv (.s 56))]))))))) (.seq (.seq (.region false [ o 57 (.faddrL 1 (.s 3)), o 58 (.loadL false 1 (.s 57)), o 59 (.len (.s 58)),
 o 60 (.mv (ci 0))]) (.block 2 (.loop (.seq (.region false [ o 61 (.bin .lss (.s 60) (.s 59))]) (.seq (.cond (.s 61) .skip (.exit 2)) (.seq (.block 3 (.seq (.region false [
 o 62 (.mv (.s 60)), o 63 (.iaddrS 1 (.s 58) (.s 60)), o 64 (.load false 1 (.s 63)), o 7 (.mv (.s 62)), o 8 (.mv (.s 64))]) (.seq (.region false [ o 65 (.faddrL 3 (.s 2)),
 o 66 (.loadL false 1 (.s 65)), o 67 (.mv (.s 7)), o 68 (.iaddrS 7 (.s 66) (.s 67)), o 69 (.load true 7 (.s 68)),
 o 9 (.allocL [(.t (.str (bs []))), (.t (.int .i64 0)), (.t .nils), (.t .nils), (.t .nils), (.t .nils), (.t (.bool false))]), on (.storeL 7 (.s 9) (.s 69))]) (.seq (.region false [
 o 70 (.mv (.s 8)), o 71 (.bin .lss (.s 70) (ci (-1))), o 72 (.mv (.s 71)), og 72 false 73 (.mv (.s 8)), og 72 false 74 (.faddrL 1 (.s 9)), og 72 false 75 (.loadL false 1 (.s 74)),
 og 72 false 76 (.bin .geq (.s 73) (.s 75)), o 77 (.pick (.s 72) (cb true) (.s 76)), o 78 (.mv (.s 77)), og 78 false 79 (.mv (.s 8)), og 78 false 80 (.bin .eql (.s 79) (ci (-1))),
 og 78 false 81 (.mv (.s 80)), og 81 true 82 (.faddrL 6 (.s 9)), og 81 true 83 (.loadL false 1 (.s 82)), og 81 true 84 (.un .not (.s 83)),
 og 78 false 85 (.pick (.s 81) (.s 84) (cb false)), o 86 (.pick (.s 78) (cb true) (.s 85)), o 87 (.mv (.s 86)), og 87 false 88 (.faddrL 2 (.s 3)),
 og 87 false 89 (.loadL false 1 (.s 88)), og 87 false 90 (.mv (.s 7)), og 87 false 91 (.iaddrS 1 (.s 89) (.s 90)), og 87 false 92 (.load false 1 (.s 91)),
 og 87 false 93 (.len (.s 92)), og 87 false 94 (.bin .gtr (.s 93) (ci 0)), o 95 (.pick (.s 87) (cb true) (.s 94))]) (.cond (.s 95) (.seq (.region false [ o 4 (.mv (cb false))]) .ret)
 .skip))))) (.region false [ o 96 (.bin .add (.s 60) (ci 1)), o 60 (.mv (.s 96))]))))))) (.seq (.region false [ o 4 (.mv (cb true))]) .ret)))))⟩
def f44 : F := ⟨38, false, [.s 4], (.seq (.region false [ o 2 (.boxL 4 (.s 0)), o 3 (.boxL 3 (.s 1)), o 4 (.mv (.c (.t .nils)))]) (.seq (.region false [ o 5 (.mv (.c (.t .nils)))])
 (.seq (.seq (.region false [ o 8 (.faddrL 3 (.s 2)), o 9 (.loadL false 1 (.s 8)), o 10 (.len (.s 9)), o 11 (.mv (ci 0))]) (.block 0 (.loop (.seq (.region false [
 o 12 (.bin .lss (.s 11) (.s 10))]) (.seq (.cond (.s 12) .skip (.exit 0)) (.seq (.block 1 (.seq (.region false [ o 13 (.mv (.s 11)), o 6 (.mv (.s 13))]) (.seq (.region false [
 o 14 (.faddrL 3 (.s 2)), o 15 (.loadL false 1 (.s 14)), o 16 (.mv (.s 6)), o 17 (.iaddrS 7 (.s 15) (.s 16)), o 18 (.faddr 4 (.s 17)), o 19 (.load false 1 (.s 18)),
 o 20 (.len (.s 19)), o 21 (.mv (ci 0))]) (.block 2 (.loop (.seq (.region false [ o 22 (.bin .lss (.s 21) (.s 20))]) (.seq (.cond (.s 22) .skip (.exit 2)) (.seq (.block 3 (.seq
 (.region false [ o 23 (.mv (.s 21)), o 7 (.mv (.s 23))]) (.seq (.region false [ o 24 (.loadL true 4 (.s 2)), o 25 (.loadL true 3 (.s 3)), o 26 (.mv (.s 6)), o 27 (.mv (.s 7)),
 o 28 (.call false (cf 67) [(.s 24), (.s 25), (.s 26), (.s 27)])]) (.cond (.s 28) (.region false [ o 29 (.mv (.s 5)), o 30 (.mv (.s 6)), o 31 (.mv (.s 7)),
 o 32 (.build [(.t (.int .i64 0)), (.t (.int .i64 0)), (.t (.int .i64 0))] [(0, 1, (.s 30)), (1, 1, (.s 31))]),
 o 33 (.bslice 3 1 [(.t (.int .i64 0)), (.t (.int .i64 0)), (.t (.int .i64 0))] [(0, (.s 32))]), o 34 (.append 3 24 (.s 29) (.s 33)), o 5 (.mv (.s 34))]) .skip)))) (.region false [
 o 35 (.bin .add (.s 21) (ci 1)), o 21 (.mv (.s 35))]))))))))) (.region false [ o 36 (.bin .add (.s 11) (ci 1)), o 11 (.mv (.s 36))]))))))) (.seq (.region false [ o 37 (.mv (.s 5)),
 o 4 (.mv (.s 37))]) .ret))))⟩
def f45 : F := ⟨81, false, [.l 6 true 3], (.seq (.region false [ o 3 (.boxL 4 (.s 0)), o 4 (.boxL 3 (.s 1)), o 5 (.boxL 3 (.s 2)),
 o 6 (.allocL [(.t .nils), (.t .nils), (.t .nils)])]) (.seq (.region true [ o 11 (.faddrL 0 (.s 4)), o 12 (.loadL false 1 (.s 11)), o 13 (.len (.s 12)),
 o 14 (.mkslice 1 8 [(.t (.int .i64 0))] (.s 13) (.s 13)), o 15 (.faddrL 1 (.s 4)), o 16 (.loadL false 1 (.s 15)), o 17 (.len (.s 16)),
 o 18 (.mkslice 1 8 [(.t (.int .i64 0))] (.s 17) (.s 17)), o 19 (.faddrL 2 (.s 4)), o 20 (.loadL false 1 (.s 19)), o 21 (.len (.s 20)),
 o 22 (.mkslice 1 24 [(.t .nils)] (.s 21) (.s 21)), o 23 (.build [(.t .nils), (.t .nils), (.t .nils)] [(0, 1, (.s 14)), (1, 1, (.s 18)), (2, 1, (.s 22))]),
 o 7 (.allocL [(.t .nils), (.t .nils), (.t .nils)]), on (.storeL 3 (.s 7) (.s 23))]) (.seq (.region false [ o 24 (.faddrL 0 (.s 7)), o 25 (.loadL false 1 (.s 24)),
 o 26 (.faddrL 0 (.s 4)), o 27 (.loadL false 1 (.s 26)), o 28 (.copy 1 (.s 25) (.s 27))]) (.seq (.region false [ o 29 (.faddrL 1 (.s 7)), o 30 (.loadL false 1 (.s 29)),
 o 31 (.faddrL 1 (.s 4)), o 32 (.loadL false 1 (.s 31)), o 33 (.copy 1 (.s 30) (.s 32))]) (.seq (.region true [ o 34 (.faddrL 3 (.s 3)), o 35 (.loadL false 1 (.s 34)),
 o 36 (.faddrL 0 (.s 5)), o 37 (.loadL false 1 (.s 36)), o 38 (.iaddrS 7 (.s 35) (.s 37)), o 39 (.faddr 4 (.s 38)), o 40 (.load false 1 (.s 39)), o 41 (.faddrL 1 (.s 5)),
 o 42 (.loadL false 1 (.s 41)), o 43 (.iaddrS 11 (.s 40) (.s 42)), o 44 (.load true 11 (.s 43)),
 o 8 (.allocL [(.t (.int .i64 0)), (.t (.int .i64 0)), (.t (.int .i64 0)), (.t (.int .i64 0)), (.t (.int .i64 0)), (.t (.int .i64 0)), (.t .nils), (.t .nils), (.t (.bool false)), (.t (.int .i64 0)), (.t (.int .i64 0))]),
 on (.storeL 11 (.s 8) (.s 44))]) (.seq (.seq (.region false [ o 45 (.faddrL 7 (.s 8)), o 46 (.loadL false 1 (.s 45)), o 47 (.len (.s 46)), o 48 (.mv (ci 0))]) (.block 0 (.loop (.seq
 (.region false [ o 49 (.bin .lss (.s 48) (.s 47))]) (.seq (.cond (.s 49) .skip (.exit 0)) (.seq (.block 1 (.seq (.region false [ o 50 (.iaddrS 5 (.s 46) (.s 48)),
 o 51 (.load true 5 (.s 50)), o 10 (.allocL [(.t (.int .i64 0)), (.t (.int .i64 0)), (.t (.int .i64 0)), (.t (.int .i64 0)), (.t .nils)]), on (.storeL 5 (.s 10) (.s 51))])
 (.region true [ o 52 (.faddrL 0 (.s 7)), o 53 (.loadL false 1 (.s 52)), o 54 (.faddrL 0 (.s 10)), o 55 (.loadL false 1 (.s 54)), o 56 (.faddrL 1 (.s 10)),
 o 57 (.loadL true 4 (.s 56)), o 58 (.faddrL 0 (.s 4)), o 59 (.loadL false 1 (.s 58)), o 60 (.faddrL 0 (.s 4)), o 61 (.loadL false 1 (.s 60)),
 o 62 (.call false (cf 27) [(.s 57), (.s 59), (.s 61)]), o 63 (.iaddrS 1 (.s 53) (.s 55)), on (.store 1 (.s 63) (.s 62))]))) (.region false [ o 64 (.bin .add (.s 48) (ci 1)),
 o 48 (.mv (.s 64))]))))))) (.seq (.region false [ o 65 (.faddrL 1 (.s 7)), o 66 (.loadL false 1 (.s 65)), o 67 (.faddrL 0 (.s 5)), o 68 (.loadL false 1 (.s 67)),
 o 69 (.faddrL 2 (.s 8)), o 70 (.loadL false 1 (.s 69)), o 71 (.iaddrS 1 (.s 66) (.s 68)), on (.store 1 (.s 71) (.s 70))]) (.seq (.seq (.region false [ o 72 (.faddrL 0 (.s 8)),
 o 73 (.loadL false 1 (.s 72)), o 74 (.bin .eql (.s 73) (ci 6))]) (.cond (.s 74) (.region false [ o 75 (.faddrL 1 (.s 7)), o 76 (.loadL false 1 (.s 75)), o 77 (.faddrL 9 (.s 8)),
 o 78 (.loadL false 1 (.s 77)), o 79 (.iaddrS 1 (.s 76) (.s 78)), on (.store 1 (.s 79) (ci 0))]) .skip)) (.seq (.region false [ o 80 (.loadL true 3 (.s 7)),
 on (.storeL 3 (.s 6) (.s 80))]) .ret)))))))))⟩
def f46 : F := ⟨88, false, [.s 6], (.seq (.region false [ o 3 (.boxL 4 (.s 0)), o 6 (.mv (cb false))]) (.seq (.seq (.region false [ o 9 (.mv (.s 1)), o 10 (.len (.s 9)),
 o 11 (.faddrL 0 (.s 3)), o 12 (.loadL false 1 (.s 11)), o 13 (.len (.s 12)), o 14 (.bin .neq (.s 10) (.s 13)), o 15 (.mv (.s 14)), og 15 false 16 (.mv (.s 2)),
 og 15 false 17 (.len (.s 16)), og 15 false 18 (.faddrL 3 (.s 3)), og 15 false 19 (.loadL false 1 (.s 18)), og 15 false 20 (.len (.s 19)), og 15 false 21 (.bin .neq (.s 17) (.s 20)),
 o 22 (.pick (.s 15) (cb true) (.s 21))]) (.cond (.s 22) (.seq (.region false [ o 6 (.mv (cb false))]) .ret) .skip)) (.seq (.seq (.region false [ o 7 (.mv (ci 0))]) (.block 0 (.loop
 (.seq (.seq (.region false [ o 23 (.mv (.s 7)), o 24 (.mv (.s 1)), o 25 (.len (.s 24)), o 26 (.bin .lss (.s 23) (.s 25))]) (.cond (.s 26) .skip (.exit 0))) (.seq (.block 1 (.seq
 (.region true [ o 29 (.mv (.s 1)), o 30 (.mv (.s 7)), o 31 (.iaddrS 1 (.s 29) (.s 30)), o 32 (.load false 1 (.s 31)), o 33 (.bin .lss (.s 32) (ci 0)), o 34 (.mv (.s 33)),
 og 34 false 35 (.mv (.s 1)), og 34 false 36 (.mv (.s 7)), og 34 false 37 (.iaddrS 1 (.s 35) (.s 36)), og 34 false 38 (.load false 1 (.s 37)), og 34 false 39 (.faddrL 0 (.s 3)),
 og 34 false 40 (.loadL false 1 (.s 39)), og 34 false 41 (.mv (.s 7)), og 34 false 42 (.iaddrS 6 (.s 40) (.s 41)), og 34 false 43 (.faddr 1 (.s 42)),
 og 34 false 44 (.load false 1 (.s 43)), og 34 false 45 (.call false (cf 33) [(.s 44)]), og 34 false 46 (.bin .geq (.s 38) (.s 45)), o 47 (.pick (.s 34) (cb true) (.s 46))])
 (.cond (.s 47) (.seq (.region false [ o 6 (.mv (cb false))]) .ret) .skip))) (.region false [ o 27 (.mv (.s 7)), o 28 (.bin .add (.s 27) (ci 1)), o 7 (.mv (.s 28))])))))) (.seq (.seq
 (.region false [ o 8 (.mv (ci 0))]) (.block 2 (.loop (.seq (.seq (.region false [ o 48 (.mv (.s 8)), o 49 (.mv (.s 2)), o 50 (.len (.s 49)), o 51 (.bin .lss (.s 48) (.s 50))])
 (.cond (.s 51) .skip (.exit 2))) (.seq (.block 3 (.seq (.region true [ o 54 (.mv (.s 2)), o 55 (.mv (.s 8)), o 56 (.iaddrS 1 (.s 54) (.s 55)), o 57 (.load false 1 (.s 56)),
 o 58 (.bin .lss (.s 57) (ci (-1))), o 59 (.mv (.s 58)), og 59 false 60 (.mv (.s 2)), og 59 false 61 (.mv (.s 8)), og 59 false 62 (.iaddrS 1 (.s 60) (.s 61)),
 og 59 false 63 (.load false 1 (.s 62)), og 59 false 64 (.faddrL 3 (.s 3)), og 59 false 65 (.loadL false 1 (.s 64)), og 59 false 66 (.mv (.s 8)),
 og 59 false 67 (.iaddrS 7 (.s 65) (.s 66)), og 59 false 68 (.faddr 1 (.s 67)), og 59 false 69 (.load false 1 (.s 68)), og 59 false 70 (.bin .geq (.s 63) (.s 69)),
 o 71 (.pick (.s 59) (cb true) (.s 70)), o 72 (.mv (.s 71)), og 72 false 73 (.mv (.s 2)), og 72 false 74 (.mv (.s 8)), og 72 false 75 (.iaddrS 1 (.s 73) (.s 74)),
 og 72 false 76 (.load false 1 (.s 75)), og 72 false 77 (.bin .eql (.s 76) (ci (-1))), og 72 false 78 (.mv (.s 77)), og 78 true 79 (.faddrL 3 (.s 3)),
 og 78 true 80 (.loadL false 1 (.s 79)), og 78 true 81 (.mv (.s 8)), og 78 true 82 (.iaddrS 7 (.s 80) (.s 81)), og 78 true 83 (.faddr 6 (.s 82)),
 og 78 true 84 (.load false 1 (.s 83)), og 78 true 85 (.un .not (.s 84)), og 72 false 86 (.pick (.s 78) (.s 85) (cb false)), o 87 (.pick (.s 72) (cb true) (.s 86))]) (.cond (.s 87)
 (.seq (.region false [ o 6 (.mv (cb false))]) .ret) .skip))) (.region false [ o 52 (.mv (.s 8)), o 53 (.bin .add (.s 52) (ci 1)), o 8 (.mv (.s 53))])))))) (.seq (.region false [
 o 6 (.mv (cb true))]) .ret)))))⟩
def f47 : F := ⟨33, false, [.s 4], (.seq (.region false [ o 2 (.boxL 4 (.s 0)), o 4 (.mv (ci 0))]) (.seq (.seq (.region false [ o 7 (.mv (.s 1)), o 8 (.bin .leq (.s 7) (ci 0))])
 (.cond (.s 8) (.seq (.region false [ o 4 (.mv (ci 0))]) .ret) .skip)) (.seq (.region false [ o 5 (.mv (ci 1))]) (.seq (.seq (.region false [ o 6 (.mv (ci 0))]) (.block 0 (.loop
 (.seq (.seq (.region false [ o 9 (.mv (.s 6)), o 10 (.faddrL 3 (.s 2)), o 11 (.loadL false 1 (.s 10)), o 12 (.len (.s 11)), o 13 (.bin .lss (.s 9) (.s 12)), o 14 (.mv (.s 13)),
 og 14 true 15 (.mv (.s 5)), og 14 true 16 (.mv (.s 1)), og 14 true 17 (.bin .lss (.s 15) (.s 16)), o 18 (.pick (.s 14) (.s 17) (cb false))]) (.cond (.s 18) .skip (.exit 0))) (.seq
 (.block 1 (.region false [ o 21 (.mv (.s 5)), o 22 (.faddrL 3 (.s 2)), o 23 (.loadL false 1 (.s 22)), o 24 (.mv (.s 6)), o 25 (.iaddrS 4 (.s 23) (.s 24)),
 o 26 (.load true 4 (.s 25)), o 27 (.mv (.s 1)), o 28 (.mv (.s 5)), o 29 (.bin .sub (.s 27) (.s 28)), o 30 (.call false (cf 47) [(.s 26), (.s 29)]), o 31 (.bin .add (.s 21) (.s 30)),
 o 5 (.mv (.s 31))])) (.region false [ o 19 (.mv (.s 6)), o 20 (.bin .add (.s 19) (ci 1)), o 6 (.mv (.s 20))])))))) (.seq (.region false [ o 32 (.mv (.s 5)), o 4 (.mv (.s 32))])
 .ret)))))⟩
def f48 : F := ⟨10, false, [.s 2], (.seq (.region false [ o 1 (.boxL 4 (.s 0)), o 2 (.mv (cb false))]) (.seq (.region false [ o 3 (.loadL true 4 (.s 1)),
 o 4 (.call false (cf 47) [(.s 3), (ci 601)]), o 5 (.bin .leq (.s 4) (ci 600)), o 6 (.mv (.s 5)), og 6 true 7 (.loadL true 4 (.s 1)),
 og 6 true 8 (.call false (cf 68) [(.s 7), (ci 40)]), o 9 (.pick (.s 6) (.s 8) (cb false)), o 2 (.mv (.s 9))]) .ret))⟩
def f49 : F := ⟨57, false, [.s 6], (.seq (.region false [ o 3 (.boxL 4 (.s 0)), o 6 (.mv (cb false))]) (.seq (.seq (.region false [ o 8 (.faddrL 0 (.s 3)),
 o 9 (.loadL false 1 (.s 8)), o 10 (.bin .eql (.s 9) (ci 3)), o 11 (.mv (.s 10)), og 11 true 12 (.mv (.s 2)), og 11 true 13 (.un .not (.s 12)),
 o 14 (.pick (.s 11) (.s 13) (cb false))]) (.cond (.s 14) (.seq (.region false [ o 6 (.mv (cb false))]) .ret) .skip)) (.seq (.seq (.region true [ o 15 (.faddrL 0 (.s 3)),
 o 16 (.loadL false 1 (.s 15)), o 17 (.bin .eql (.s 16) (ci 3)), o 18 (.mv (.s 17)), og 18 false 19 (.faddrL 0 (.s 3)), og 18 false 20 (.loadL false 1 (.s 19)),
 og 18 false 21 (.bin .eql (.s 20) (ci 2)), o 22 (.pick (.s 18) (cb true) (.s 21)), o 23 (.mv (.s 22)), og 23 true 24 (.faddrL 2 (.s 3)), og 23 true 25 (.loadL false 1 (.s 24)),
 og 23 true 26 (.mv (.s 1)), og 23 true 27 (.len (.s 26)), og 23 true 28 (.bin .geq (.s 25) (.s 27)), og 23 true 29 (.mv (.s 28)), og 29 false 30 (.mv (.s 1)),
 og 29 false 31 (.faddrL 2 (.s 3)), og 29 false 32 (.loadL false 1 (.s 31)), og 29 false 33 (.iaddrS 6 (.s 30) (.s 32)), og 29 false 34 (.faddr 1 (.s 33)),
 og 29 false 35 (.load false 1 (.s 34)), og 29 false 36 (.faddrL 1 (.s 3)), og 29 false 37 (.loadL false 1 (.s 36)), og 29 false 38 (.bin .neq (.s 35) (.s 37)),
 og 23 true 39 (.pick (.s 29) (cb true) (.s 38)), o 40 (.pick (.s 23) (.s 39) (cb false))]) (.cond (.s 40) (.seq (.region false [ o 6 (.mv (cb false))]) .ret) .skip)) (.seq (.seq
 (.region false [ o 7 (.mv (ci 0))]) (.block 0 (.loop (.seq (.seq (.region false [ o 41 (.mv (.s 7)), o 42 (.faddrL 3 (.s 3)), o 43 (.loadL false 1 (.s 42)), o 44 (.len (.s 43)),
 o 45 (.bin .lss (.s 41) (.s 44))]) (.cond (.s 45) .skip (.exit 0))) (.seq (.block 1 (.seq (.region false [ o 48 (.faddrL 3 (.s 3)), o 49 (.loadL false 1 (.s 48)), o 50 (.mv (.s 7)),
 o 51 (.iaddrS 4 (.s 49) (.s 50)), o 52 (.load true 4 (.s 51)), o 53 (.mv (.s 1)), o 54 (.mv (.s 2)), o 55 (.call false (cf 49) [(.s 52), (.s 53), (.s 54)]),
 o 56 (.un .not (.s 55))]) (.cond (.s 56) (.seq (.region false [ o 6 (.mv (cb false))]) .ret) .skip))) (.region false [ o 46 (.mv (.s 7)), o 47 (.bin .add (.s 46) (ci 1)),
 o 7 (.mv (.s 47))])))))) (.seq (.region false [ o 6 (.mv (cb true))]) .ret)))))⟩
def f50 : F := ⟨47, false, [.s 8], (.seq (.region false [ o 4 (.boxL 4 (.s 0)), o 5 (.boxL 3 (.s 1)), o 7 (.boxL 11 (.s 3)), o 8 (.mv (cb false))]) (.seq (.seq (.region true [
 o 9 (.faddrL 1 (.s 5)), o 10 (.loadL false 1 (.s 9)), o 11 (.mv (.s 2)), o 12 (.iaddrS 1 (.s 10) (.s 11)), o 13 (.load false 1 (.s 12)), o 14 (.faddrL 1 (.s 7)),
 o 15 (.loadL false 1 (.s 14)), o 16 (.bin .neq (.s 13) (.s 15)), o 17 (.mv (.s 16)), og 17 false 18 (.faddrL 3 (.s 7)), og 17 false 19 (.loadL true 4 (.s 18)),
 og 17 false 20 (.faddrL 0 (.s 5)), og 17 false 21 (.loadL false 1 (.s 20)), og 17 false 22 (.faddrL 0 (.s 5)), og 17 false 23 (.loadL false 1 (.s 22)),
 og 17 false 24 (.call false (cf 69) [(.s 19), (.s 21), (.s 23)]), og 17 false 25 (.bin .neq (.s 24) (ci 1)), o 26 (.pick (.s 17) (cb true) (.s 25))]) (.cond (.s 26) (.seq
 (.region false [ o 8 (.mv (cb false))]) .ret) .skip)) (.seq (.seq (.region false [ o 27 (.faddrL 0 (.s 7)), o 28 (.loadL false 1 (.s 27)), o 29 (.bin .eql (.s 28) (ci 6))])
 (.cond (.s 29) (.seq (.region false [ o 30 (.faddrL 1 (.s 5)), o 31 (.loadL false 1 (.s 30)), o 32 (.faddrL 9 (.s 7)), o 33 (.loadL false 1 (.s 32)),
 o 34 (.iaddrS 1 (.s 31) (.s 33)), o 35 (.load false 1 (.s 34)), o 36 (.bin .eql (.s 35) (ci (-1))), o 8 (.mv (.s 36))]) .ret) .skip)) (.seq (.region false [ o 37 (.faddrL 0 (.s 7)),
 o 38 (.loadL false 1 (.s 37)), o 39 (.bin .neq (.s 38) (ci 7)), o 40 (.mv (.s 39)), og 40 false 41 (.loadL true 4 (.s 4)), og 40 false 42 (.loadL true 3 (.s 5)),
 og 40 false 43 (.faddrL 9 (.s 7)), og 40 false 44 (.loadL false 1 (.s 43)), og 40 false 45 (.call false (cf 21) [(.s 41), (.s 42), (.s 44)]), o 46 (.pick (.s 40) (cb true) (.s 45)),
 o 8 (.mv (.s 46))]) .ret))))⟩
def f51 : F := ⟨8, false, [.s 2], (.seq (.region false [ o 1 (.boxH 4 (.s 0)), o 2 (.mv (cb false))]) (.seq (.region false [ o 3 (.allocH [(.t (.int .i64 0))]),
 on (.store 1 (.s 3) (ci 0))]) (.seq (.region false [ o 4 (.allocH [(.t .nilf)])]) (.seq (.region false [ o 5 (.mkfn 70 [] [(.s 3), (.s 4)]), on (.store 1 (.s 4) (.s 5))]) (.seq
 (.region false [ o 6 (.load false 1 (.s 4)), o 7 (.call true (.s 6) [(.s 1), (ci 1)]), o 2 (.mv (.s 7))]) .ret)))))⟩
def f56 : F := ⟨82, false, [.s 6], (.seq (.region false [ o 6 (.mv (ci 0))]) (.seq (.seq (.region false [ o 9 (.mv (.s 0)), o 10 (.nilchk (.s 9)), o 11 (.faddr 0 (.s 10)),
 o 12 (.load false 1 (.s 11))]) (.block 0 (.seq (.region false [ o 14 (.bin .eql (.s 12) (ci 1)), o 13 (.mv (.s 14))]) (.cond (.s 13) (.seq (.region false [ o 15 (.mv (.s 0)),
 o 16 (.nilchk (.s 15)), o 17 (.faddr 2 (.s 16)), o 18 (.load false 1 (.s 17)), o 6 (.mv (.s 18))]) .ret) (.seq (.region false [ o 20 (.bin .eql (.s 12) (ci 2)), o 19 (.mv (.s 20))])
 (.cond (.s 19) (.seq (.region true [ o 21 (.mv (.s 2)), o 22 (.mv (.s 0)), o 23 (.nilchk (.s 22)), o 24 (.faddr 2 (.s 23)), o 25 (.load false 1 (.s 24)),
 o 26 (.call false (cf 72) [(.s 21), (.s 25)]), o 27 (.mv (.s 0)), o 28 (.nilchk (.s 27)), o 29 (.faddr 1 (.s 28)), o 30 (.load false 1 (.s 29)), o 31 (.iaddrA 9 1 (.g 0) (.s 30)),
 o 32 (.load false 1 (.s 31)), o 33 (.bin .and (.s 26) (.s 32)), o 6 (.mv (.s 33))]) .ret) (.seq (.region false [ o 35 (.bin .eql (.s 12) (ci 3)), o 34 (.mv (.s 35))]) (.cond (.s 34)
 (.seq (.region true [ o 36 (.mv (.s 1)), o 37 (.mv (.s 0)), o 38 (.nilchk (.s 37)), o 39 (.faddr 2 (.s 38)), o 40 (.load false 1 (.s 39)),
 o 41 (.call false (cf 72) [(.s 36), (.s 40)]), o 42 (.mv (.s 0)), o 43 (.nilchk (.s 42)), o 44 (.faddr 1 (.s 43)), o 45 (.load false 1 (.s 44)), o 46 (.iaddrA 9 1 (.g 0) (.s 45)),
 o 47 (.load false 1 (.s 46)), o 48 (.bin .and (.s 41) (.s 47)), o 6 (.mv (.s 48))]) .ret) .skip)))))))) (.seq (.region false [
 o 7 (.allocL [(.t (.int .i64 0)), (.t (.int .i64 0)), (.t (.int .i64 0))])]) (.seq (.seq (.region false [ o 49 (.mv (.s 0)), o 50 (.nilchk (.s 49)), o 51 (.faddr 3 (.s 50)),
 o 52 (.load false 1 (.s 51)), o 53 (.len (.s 52)), o 54 (.mv (ci 0))]) (.block 1 (.loop (.seq (.region false [ o 55 (.bin .lss (.s 54) (.s 53))]) (.seq (.cond (.s 55) .skip
 (.exit 1)) (.seq (.block 2 (.seq (.region false [ o 56 (.mv (.s 54)), o 8 (.mv (.s 56))]) (.region false [ o 57 (.mv (.s 8)), o 58 (.mv (.s 0)), o 59 (.nilchk (.s 58)),
 o 60 (.faddr 3 (.s 59)), o 61 (.load false 1 (.s 60)), o 62 (.mv (.s 8)), o 63 (.iaddrS 4 (.s 61) (.s 62)), o 64 (.mv (.s 1)), o 65 (.mv (.s 2)),
 o 66 (.call false (cf 56) [(.s 63), (.s 64), (.s 65)]), o 67 (.iaddrAL 3 1 (.s 7) (.s 57)), on (.storeL 1 (.s 67) (.s 66))]))) (.region false [ o 68 (.bin .add (.s 54) (ci 1)),
 o 54 (.mv (.s 68))]))))))) (.seq (.region true [ o 69 (.mv (.s 0)), o 70 (.nilchk (.s 69)), o 71 (.faddr 0 (.s 70)), o 72 (.load false 1 (.s 71)), o 73 (.loadL true 3 (.s 7)),
 o 74 (.call false (cf 73) [(.s 72), (.s 73)]), o 75 (.mv (.s 0)), o 76 (.nilchk (.s 75)), o 77 (.faddr 1 (.s 76)), o 78 (.load false 1 (.s 77)), o 79 (.iaddrA 9 1 (.g 0) (.s 78)),
 o 80 (.load false 1 (.s 79)), o 81 (.bin .and (.s 74) (.s 80)), o 6 (.mv (.s 81))]) .ret)))))⟩
def f57 : F := ⟨7, true, [.s 2], (.seq (.region false [ o 2 (.mv (.c (.t .nils)))]) (.seq (.region false [ o 3 (.mv (.s 0)), o 4 (.call true (cf 74) [(.s 3)])]) (.seq
 (.region false [ o 5 (.mv (.s 0)), o 6 (.call true (cf 75) [(.s 5)]), o 2 (.mv (.s 6))]) .ret)))⟩
def f60 : F := ⟨15, true, [.s 2, .s 3], (.seq (.region false [ o 1 (.boxH 4 (.s 0)), o 2 (.mv (.c (.t .nils))), o 3 (.mv (.c (.t .nils)))]) (.seq (.seq (.region false [
 o 6 (.load true 4 (.s 1)), o 7 (.call false (cf 51) [(.s 6)]), o 8 (.un .not (.s 7))]) (.cond (.s 8) (.seq (.region false [ o 2 (.mv (.c (.t .nils))), o 3 (.mv (.c (.t .nils)))])
 .ret) .skip)) (.seq (.region false [
 o 4 (.allocH [(.t (.bool false)), (.t (.bool false)), (.t (.bool false)), (.t (.bool false)), (.t (.bool false)), (.t (.bool false)), (.t (.bool false)), (.t (.bool false)), (.t (.bool false)), (.t (.bool false)), (.t (.bool false)), (.t (.bool false)), (.t (.bool false)), (.t (.bool false)), (.t (.bool false)), (.t (.bool false)), (.t (.bool false)), (.t (.bool false)), (.t (.bool false)), (.t (.bool false)), (.t (.bool false)), (.t (.bool false)), (.t (.bool false)), (.t (.bool false)), (.t (.bool false)), (.t (.bool false)), (.t (.bool false)), (.t (.bool false)), (.t (.bool false)), (.t (.bool false)), (.t (.bool false)), (.t (.bool false))]),
 o 5 (.allocH [(.t (.bool false)), (.t (.bool false)), (.t (.bool false)), (.t (.bool false)), (.t (.bool false)), (.t (.bool false)), (.t (.bool false)), (.t (.bool false)), (.t (.bool false)), (.t (.bool false)), (.t (.bool false)), (.t (.bool false)), (.t (.bool false)), (.t (.bool false)), (.t (.bool false)), (.t (.bool false)), (.t (.bool false)), (.t (.bool false)), (.t (.bool false)), (.t (.bool false)), (.t (.bool false)), (.t (.bool false)), (.t (.bool false)), (.t (.bool false)), (.t (.bool false)), (.t (.bool false)), (.t (.bool false)), (.t (.bool false)), (.t (.bool false)), (.t (.bool false)), (.t (.bool false)), (.t (.bool false))])])
 (.seq (.region false [ o 9 (.mkfn 77 [] [(.s 4), (.s 5)]), o 10 (.call true (cf 76) [(.s 1), (.s 9)])]) (.seq (.region true [ o 11 (.load true 32 (.s 4)),
 o 12 (.fcall (cf 78) [(.s 11)]), o 13 (.load true 32 (.s 5)), o 14 (.fcall (cf 78) [(.s 13)]), o 2 (.mv (.s 12)), o 3 (.mv (.s 14))]) .ret)))))⟩
def f61 : F := ⟨8, false, [.l 4 true 4], (.seq (.region false [ o 4 (.allocL [(.t (.int .i64 0)), (.t (.int .i64 0)), (.t (.int .i64 0)), (.t .nils)])]) (.seq (.region false [
 o 5 (.mv (.s 1)), o 6 (.mv (.s 0)), o 7 (.build [(.t (.int .i64 0)), (.t (.int .i64 0)), (.t (.int .i64 0)), (.t .nils)] [(0, 1, (ci 1)), (1, 1, (.s 5)), (2, 1, (.s 6))]),
 on (.storeL 4 (.s 4) (.s 7))]) .ret))⟩
def f62 : F := ⟨8, false, [.l 4 true 4], (.seq (.region false [ o 4 (.allocL [(.t (.int .i64 0)), (.t (.int .i64 0)), (.t (.int .i64 0)), (.t .nils)])]) (.seq (.region false [
 o 5 (.mv (.s 1)), o 6 (.mv (.s 0)), o 7 (.build [(.t (.int .i64 0)), (.t (.int .i64 0)), (.t (.int .i64 0)), (.t .nils)] [(0, 1, (ci 2)), (1, 1, (.s 5)), (2, 1, (.s 6))]),
 on (.storeL 4 (.s 4) (.s 7))]) .ret))⟩
def f63 : F := ⟨15, false, [.l 8 true 4], (.seq (.region false [ o 6 (.boxL 4 (.s 2)), o 7 (.boxL 4 (.s 3)),
 o 8 (.allocL [(.t (.int .i64 0)), (.t (.int .i64 0)), (.t (.int .i64 0)), (.t .nils)])]) (.seq (.region false [ o 9 (.mv (.s 0)), o 10 (.mv (.s 1)), o 11 (.loadL true 4 (.s 6)),
 o 12 (.loadL true 4 (.s 7)), o 13 (.bslice 4 2 [(.t (.int .i64 0)), (.t (.int .i64 0)), (.t (.int .i64 0)), (.t .nils)] [(0, (.s 11)), (1, (.s 12))]),
 o 14 (.build [(.t (.int .i64 0)), (.t (.int .i64 0)), (.t (.int .i64 0)), (.t .nils)] [(0, 1, (.s 9)), (1, 1, (.s 10)), (3, 1, (.s 13))]), on (.storeL 4 (.s 8) (.s 14))]) .ret))⟩
def f64 : F := ⟨66, false, [.s 2, .s 3, .s 4], (.seq (.region false [ o 1 (.boxL 4 (.s 0)), o 2 (.mv (ci 0)), o 3 (.mv (ci 0)), o 4 (.mv (ci 0))]) (.seq (.region false [
 o 16 (.loadL true 4 (.s 1)), o 17 (.build [(.t .nils), (.t .nils), (.t .nils), (.t .nils)] [(0, 4, (.s 16))]), o 5 (.allocL [(.t .nils), (.t .nils), (.t .nils), (.t .nils)]),
 on (.storeL 4 (.s 5) (.s 17))]) (.seq (.seq (.region false [ o 19 (.loadL true 4 (.s 5)), o 20 (.call false (cf 79) [(.s 19)]), o 18 (.mv (.s 20)), o 21 (.extr (.s 18) 0),
 o 22 (.extr (.s 18) 1), o 6 (.mv (.s 21)), o 7 (.mv (.s 22))]) (.seq (.region false [ o 23 (.mv (.s 6)), o 24 (.bin .neq (.s 23) (ci 0))]) (.cond (.s 24) (.seq (.region false [
 o 25 (.mv (.s 6)), o 26 (.mv (.s 7)), o 2 (.mv (.s 25)), o 3 (.mv (.s 26)), o 4 (.mv (ci (-1)))]) .ret) .skip))) (.seq (.seq (.region false [ o 27 (.loadL true 4 (.s 5)),
 o 28 (.mkfn 80 [(.s 27)] []), o 29 (.loadL true 4 (.s 5)), o 30 (.mkfn 81 [(.s 29)] []), o 31 (.loadL true 4 (.s 5)), o 32 (.mkfn 82 [(.s 31)] []),
 o 33 (.build [(.t .nilf), (.t .nilf), (.t .nilf)] [(0, 1, (.s 28)), (1, 1, (.s 30)), (2, 1, (.s 32))]), o 34 (.mv (ci 0))]) (.block 0 (.loop (.seq (.region false [
 o 35 (.bin .lss (.s 34) (ci 3))]) (.seq (.cond (.s 35) .skip (.exit 0)) (.seq (.block 1 (.seq (.region false [ o 36 (.idxA false 3 1 (.s 33) (.s 34)), o 9 (.mv (.s 36))]) (.seq
 (.region false [ o 37 (.mv (.s 9)), o 38 (.call false (.s 37) []), o 10 (.mv (.s 38))]) (.seq (.region false [ o 39 (.mv (.s 10)), o 40 (.bin .neq (.s 39) (ci 0))]) (.cond (.s 40)
 (.seq (.region false [ o 41 (.mv (.s 10)), o 2 (.mv (.s 41)), o 3 (.mv (ci (-1))), o 4 (.mv (ci (-1)))]) .ret) .skip))))) (.region false [ o 42 (.bin .add (.s 34) (ci 1)),
 o 34 (.mv (.s 42))]))))))) (.seq (.region false [ o 43 (.mkmap), o 11 (.mv (.s 43))]) (.seq (.seq (.region false [ o 44 (.faddrL 3 (.s 1)), o 45 (.loadL false 1 (.s 44)),
 o 46 (.len (.s 45)), o 47 (.mv (ci 0))]) (.block 2 (.loop (.seq (.region false [ o 48 (.bin .lss (.s 47) (.s 46))]) (.seq (.cond (.s 48) .skip (.exit 2)) (.seq (.block 3 (.seq
 (.region false [ o 49 (.mv (.s 47)), o 50 (.iaddrS 7 (.s 45) (.s 47)), o 51 (.load true 7 (.s 50)),
 o 13 (.allocL [(.t (.str (bs []))), (.t (.int .i64 0)), (.t .nils), (.t .nils), (.t .nils), (.t .nils), (.t (.bool false))]), o 12 (.mv (.s 49)), on (.storeL 7 (.s 13) (.s 51))])
 (.seq (.region false [ o 53 (.loadL true 4 (.s 5)), o 54 (.mv (.s 12)), o 55 (.loadL true 7 (.s 13)), o 56 (.mv (.s 11)),
 o 57 (.call true (cf 83) [(.s 53), (.s 54), (.s 55), (.s 56)]), o 52 (.mv (.s 57)), o 58 (.extr (.s 52) 0), o 59 (.extr (.s 52) 1), o 14 (.mv (.s 58)), o 15 (.mv (.s 59))]) (.seq
 (.region false [ o 60 (.mv (.s 14)), o 61 (.bin .neq (.s 60) (ci 0))]) (.cond (.s 61) (.seq (.region false [ o 62 (.mv (.s 14)), o 63 (.mv (.s 12)), o 64 (.mv (.s 15)),
 o 2 (.mv (.s 62)), o 3 (.mv (.s 63)), o 4 (.mv (.s 64))]) .ret) .skip))))) (.region false [ o 65 (.bin .add (.s 47) (ci 1)), o 47 (.mv (.s 65))]))))))) (.seq (.region false [
 o 2 (.mv (ci 0)), o 3 (.mv (ci (-1))), o 4 (.mv (ci (-1)))]) .ret)))))))⟩
def f65 : F := ⟨58, false, [.s 2, .s 3, .s 4], (.seq (.region false [ o 1 (.boxL 4 (.s 0)), o 2 (.mv (ci 0)), o 3 (.mv (ci 0)), o 4 (.mv (ci 0))]) (.seq (.region false [
 o 12 (.loadL true 4 (.s 1)), o 13 (.call false (cf 84) [(.s 12)]), o 11 (.mv (.s 13)), o 14 (.extr (.s 11) 0), o 15 (.extr (.s 11) 1), o 5 (.mv (.s 14)), o 6 (.mv (.s 15))]) (.seq
 (.seq (.region false [ o 16 (.mv (.s 5)), o 17 (.bin .neq (.s 16) (ci 0))]) (.cond (.s 17) (.seq (.region false [ o 18 (.mv (.s 5)), o 19 (.mv (.s 6)), o 2 (.mv (.s 18)),
 o 3 (.mv (.s 19)), o 4 (.mv (ci (-1)))]) .ret) .skip)) (.seq (.seq (.region false [ o 7 (.mv (ci 0))]) (.block 0 (.loop (.seq (.seq (.region false [ o 20 (.mv (.s 7)),
 o 21 (.bin .lss (.s 20) (ci 3))]) (.cond (.s 21) .skip (.exit 0))) (.seq (.block 1 (.seq (.seq (.region false [ o 24 (.mv (.s 7))]) (.block 2 (.seq (.region false [
 o 26 (.bin .eql (.s 24) (ci 0)), o 25 (.mv (.s 26))]) (.cond (.s 25) (.region false [ o 27 (.loadL true 4 (.s 1)), o 28 (.call false (cf 85) [(.s 27)]), o 5 (.mv (.s 28))]) (.seq
 (.region false [ o 30 (.bin .eql (.s 24) (ci 1)), o 29 (.mv (.s 30))]) (.cond (.s 29) (.region false [ o 31 (.loadL true 4 (.s 1)), o 32 (.call false (cf 86) [(.s 31)]),
 o 5 (.mv (.s 32))]) (.seq (.region false [ o 34 (.bin .eql (.s 24) (ci 2)), o 33 (.mv (.s 34))]) (.cond (.s 33) (.region false [ o 35 (.loadL true 4 (.s 1)),
 o 36 (.call false (cf 87) [(.s 35)]), o 5 (.mv (.s 36))]) .skip)))))))) (.seq (.region false [ o 37 (.mv (.s 5)), o 38 (.bin .neq (.s 37) (ci 0))]) (.cond (.s 38) (.seq
 (.region false [ o 39 (.mv (.s 5)), o 2 (.mv (.s 39)), o 3 (.mv (ci (-1))), o 4 (.mv (ci (-1)))]) .ret) .skip)))) (.region false [ o 22 (.mv (.s 7)),
 o 23 (.bin .add (.s 22) (ci 1)), o 7 (.mv (.s 23))])))))) (.seq (.seq (.region false [ o 8 (.mv (ci 0))]) (.block 3 (.loop (.seq (.seq (.region false [ o 40 (.mv (.s 8)),
 o 41 (.faddrL 3 (.s 1)), o 42 (.loadL false 1 (.s 41)), o 43 (.len (.s 42)), o 44 (.bin .lss (.s 40) (.s 43))]) (.cond (.s 44) .skip (.exit 3))) (.seq (.block 4 (.seq
 (.region false [ o 48 (.loadL true 4 (.s 1)), o 49 (.mv (.s 8)), o 50 (.call false (cf 88) [(.s 48), (.s 49)]), o 47 (.mv (.s 50)), o 51 (.extr (.s 47) 0), o 52 (.extr (.s 47) 1),
 o 9 (.mv (.s 51)), o 10 (.mv (.s 52))]) (.seq (.region false [ o 53 (.mv (.s 9)), o 54 (.bin .neq (.s 53) (ci 0))]) (.cond (.s 54) (.seq (.region false [ o 55 (.mv (.s 9)),
 o 56 (.mv (.s 8)), o 57 (.mv (.s 10)), o 2 (.mv (.s 55)), o 3 (.mv (.s 56)), o 4 (.mv (.s 57))]) .ret) .skip)))) (.region false [ o 45 (.mv (.s 8)), o 46 (.bin .add (.s 45) (ci 1)),
 o 8 (.mv (.s 46))])))))) (.seq (.region false [ o 2 (.mv (ci 0)), o 3 (.mv (ci (-1))), o 4 (.mv (ci (-1)))]) .ret))))))⟩
def f66 : F := ⟨33, false, [.s 6], (.seq (.region false [ o 6 (.mv (.c (.t .nils)))]) (.seq (.region false [ o 9 (.mv (.s 0)), o 10 (.fcall (cf 32) [(.s 9)]), o 7 (.mv (.s 10))])
 (.seq (.seq (.region false [ o 8 (.mv (ci 0))]) (.block 0 (.loop (.seq (.seq (.region false [ o 11 (.mv (.s 8)), o 12 (.mv (.s 2)), o 13 (.len (.s 12)),
 o 14 (.bin .lss (.s 11) (.s 13))]) (.cond (.s 14) .skip (.exit 0))) (.seq (.block 1 (.region true [ o 17 (.mv (.s 7)), o 18 (.mv (.s 2)), o 19 (.mv (.s 8)),
 o 20 (.iaddrS 5 (.s 18) (.s 19)), o 21 (.faddr 0 (.s 20)), o 22 (.load false 1 (.s 21)), o 23 (.mv (.s 2)), o 24 (.mv (.s 8)), o 25 (.iaddrS 5 (.s 23) (.s 24)),
 o 26 (.faddr 1 (.s 25)), o 27 (.load true 4 (.s 26)), o 28 (.mv (.s 1)), o 29 (.mv (.s 1)), o 30 (.call false (cf 69) [(.s 27), (.s 28), (.s 29)]), o 31 (.iaddrS 1 (.s 17) (.s 22)),
 on (.store 1 (.s 31) (.s 30))])) (.region false [ o 15 (.mv (.s 8)), o 16 (.bin .add (.s 15) (ci 1)), o 8 (.mv (.s 16))])))))) (.seq (.region false [ o 32 (.mv (.s 7)),
 o 6 (.mv (.s 32))]) .ret))))⟩
def f67 : F := ⟨65, false, [.s 8], (.seq (.region false [ o 4 (.boxL 4 (.s 0)), o 5 (.boxL 3 (.s 1)), o 8 (.mv (cb false))]) (.seq (.region false [ o 10 (.faddrL 3 (.s 4)),
 o 11 (.loadL false 1 (.s 10)), o 12 (.mv (.s 2)), o 13 (.iaddrS 7 (.s 11) (.s 12)), o 14 (.faddr 4 (.s 13)), o 15 (.load false 1 (.s 14)), o 16 (.mv (.s 3)),
 o 17 (.iaddrS 11 (.s 15) (.s 16)), o 18 (.load true 11 (.s 17)),
 o 9 (.allocL [(.t (.int .i64 0)), (.t (.int .i64 0)), (.t (.int .i64 0)), (.t (.int .i64 0)), (.t (.int .i64 0)), (.t (.int .i64 0)), (.t .nils), (.t .nils), (.t (.bool false)), (.t (.int .i64 0)), (.t (.int .i64 0))]),
 on (.storeL 11 (.s 9) (.s 18))]) (.seq (.seq (.region true [ o 19 (.faddrL 1 (.s 5)), o 20 (.loadL false 1 (.s 19)), o 21 (.mv (.s 2)), o 22 (.iaddrS 1 (.s 20) (.s 21)),
 o 23 (.load false 1 (.s 22)), o 24 (.faddrL 1 (.s 9)), o 25 (.loadL false 1 (.s 24)), o 26 (.bin .neq (.s 23) (.s 25)), o 27 (.mv (.s 26)), og 27 false 28 (.faddrL 3 (.s 9)),
 og 27 false 29 (.loadL true 4 (.s 28)), og 27 false 30 (.faddrL 0 (.s 5)), og 27 false 31 (.loadL false 1 (.s 30)), og 27 false 32 (.faddrL 0 (.s 5)),
 og 27 false 33 (.loadL false 1 (.s 32)), og 27 false 34 (.call false (cf 27) [(.s 29), (.s 31), (.s 33)]), og 27 false 35 (.bin .neq (.s 34) (ci 1)),
 o 36 (.pick (.s 27) (cb true) (.s 35))]) (.cond (.s 36) (.seq (.region false [ o 8 (.mv (cb false))]) .ret) .skip)) (.seq (.seq (.region false [ o 37 (.faddrL 0 (.s 9)),
 o 38 (.loadL false 1 (.s 37))]) (.block 0 (.seq (.region false [ o 40 (.bin .eql (.s 38) (ci 6)), o 39 (.mv (.s 40))]) (.cond (.s 39) (.seq (.region false [ o 41 (.faddrL 1 (.s 5)),
 o 42 (.loadL false 1 (.s 41)), o 43 (.faddrL 9 (.s 9)), o 44 (.loadL false 1 (.s 43)), o 45 (.iaddrS 1 (.s 42) (.s 44)), o 46 (.load false 1 (.s 45)),
 o 47 (.bin .eql (.s 46) (ci (-1))), o 8 (.mv (.s 47))]) .ret) (.seq (.region false [ o 49 (.bin .eql (.s 38) (ci 7)), o 48 (.mv (.s 49))]) (.cond (.s 48) (.seq (.region true [
 o 50 (.faddrL 1 (.s 5)), o 51 (.loadL false 1 (.s 50)), o 52 (.faddrL 9 (.s 9)), o 53 (.loadL false 1 (.s 52)), o 54 (.iaddrS 1 (.s 51) (.s 53)), o 55 (.load false 1 (.s 54)),
 o 56 (.faddrL 3 (.s 4)), o 57 (.loadL false 1 (.s 56)), o 58 (.faddrL 9 (.s 9)), o 59 (.loadL false 1 (.s 58)), o 60 (.iaddrS 7 (.s 57) (.s 59)), o 61 (.faddr 1 (.s 60)),
 o 62 (.load false 1 (.s 61)), o 63 (.bin .sub (.s 62) (ci 1)), o 64 (.bin .eql (.s 55) (.s 63)), o 8 (.mv (.s 64))]) .ret) .skip)))))) (.seq (.region false [ o 8 (.mv (cb true))])
 .ret)))))⟩
def f68 : F := ⟨29, false, [.s 4], (.seq (.region false [ o 2 (.boxL 4 (.s 0)), o 4 (.mv (cb false))]) (.seq (.seq (.region false [ o 6 (.mv (.s 1)), o 7 (.bin .lss (.s 6) (ci 1)),
 o 8 (.mv (.s 7)), og 8 false 9 (.loadL true 4 (.s 2)), og 8 false 10 (.call false (cf 89) [(.s 9)]), og 8 false 11 (.un .not (.s 10)), o 12 (.pick (.s 8) (cb true) (.s 11))])
 (.cond (.s 12) (.seq (.region false [ o 4 (.mv (cb false))]) .ret) .skip)) (.seq (.seq (.region false [ o 5 (.mv (ci 0))]) (.block 0 (.loop (.seq (.seq (.region false [
 o 13 (.mv (.s 5)), o 14 (.faddrL 3 (.s 2)), o 15 (.loadL false 1 (.s 14)), o 16 (.len (.s 15)), o 17 (.bin .lss (.s 13) (.s 16))]) (.cond (.s 17) .skip (.exit 0))) (.seq (.block 1
 (.seq (.region false [ o 20 (.faddrL 3 (.s 2)), o 21 (.loadL false 1 (.s 20)), o 22 (.mv (.s 5)), o 23 (.iaddrS 4 (.s 21) (.s 22)), o 24 (.load true 4 (.s 23)), o 25 (.mv (.s 1)),
 o 26 (.bin .sub (.s 25) (ci 1)), o 27 (.call false (cf 68) [(.s 24), (.s 26)]), o 28 (.un .not (.s 27))]) (.cond (.s 28) (.seq (.region false [ o 4 (.mv (cb false))]) .ret) .skip)))
 (.region false [ o 18 (.mv (.s 5)), o 19 (.bin .add (.s 18) (ci 1)), o 5 (.mv (.s 19))])))))) (.seq (.region false [ o 4 (.mv (cb true))]) .ret))))⟩
def f69 : F := ⟨14, false, [.s 6], (.seq (.region false [ o 3 (.boxL 4 (.s 0)), o 6 (.mv (ci 0))]) (.seq (.seq (.region false [ o 7 (.loadL true 4 (.s 3)),
 o 8 (.call false (cf 48) [(.s 7)]), o 9 (.un .not (.s 8))]) (.cond (.s 9) (.seq (.region false [ o 6 (.mv (ci 0))]) .ret) .skip)) (.seq (.region false [ o 10 (.loadL true 4 (.s 3)),
 o 11 (.mv (.s 1)), o 12 (.mv (.s 2)), o 13 (.call false (cf 90) [(.s 10), (.s 11), (.s 12)]), o 6 (.mv (.s 13))]) .ret)))⟩
def f70 : F := ⟨41, true, [.s 6], (.seq (.region false [ o 6 (.mv (cb false))]) (.seq (.region false [ o 8 (.load false 1 (.s 2)), o 9 (.bin .add (.s 8) (ci 1)),
 on (.store 1 (.s 2) (.s 9))]) (.seq (.seq (.region false [ o 10 (.load false 1 (.s 2)), o 11 (.bin .gtr (.s 10) (ci 600)), o 12 (.mv (.s 11)), og 12 false 13 (.mv (.s 1)),
 og 12 false 14 (.bin .gtr (.s 13) (ci 40)), o 15 (.pick (.s 12) (cb true) (.s 14)), o 16 (.mv (.s 15)), og 16 false 17 (.mv (.s 0)), og 16 false 18 (.call false (cf 71) [(.s 17)]),
 og 16 false 19 (.un .not (.s 18)), o 20 (.pick (.s 16) (cb true) (.s 19))]) (.cond (.s 20) (.seq (.region false [ o 6 (.mv (cb false))]) .ret) .skip)) (.seq (.seq (.region false [
 o 21 (.mv (.s 0)), o 22 (.nilchk (.s 21)), o 23 (.faddr 3 (.s 22)), o 24 (.load false 1 (.s 23)), o 25 (.len (.s 24)), o 26 (.mv (ci 0))]) (.block 0 (.loop (.seq (.region false [
 o 27 (.bin .lss (.s 26) (.s 25))]) (.seq (.cond (.s 27) .skip (.exit 0)) (.seq (.block 1 (.seq (.region false [ o 28 (.mv (.s 26)), o 7 (.mv (.s 28))]) (.seq (.region true [
 o 29 (.load false 1 (.s 3)), o 30 (.mv (.s 0)), o 31 (.nilchk (.s 30)), o 32 (.faddr 3 (.s 31)), o 33 (.load false 1 (.s 32)), o 34 (.mv (.s 7)), o 35 (.iaddrS 4 (.s 33) (.s 34)),
 o 36 (.mv (.s 1)), o 37 (.bin .add (.s 36) (ci 1)), o 38 (.call true (.s 29) [(.s 35), (.s 37)]), o 39 (.un .not (.s 38))]) (.cond (.s 39) (.seq (.region false [
 o 6 (.mv (cb false))]) .ret) .skip)))) (.region false [ o 40 (.bin .add (.s 26) (ci 1)), o 26 (.mv (.s 40))]))))))) (.seq (.region false [ o 6 (.mv (cb true))]) .ret)))))⟩
def f71 : F := ⟨162, false, [.s 2], (.seq (.region false [ o 2 (.mv (cb false))]) (.seq (.seq (.region false [ o 3 (.mv (.s 0)), o 4 (.nilchk (.s 3)), o 5 (.faddr 1 (.s 4)),
 o 6 (.load false 1 (.s 5)), o 7 (.bin .lss (.s 6) (ci 1)), o 8 (.mv (.s 7)), og 8 false 9 (.mv (.s 0)), og 8 false 10 (.nilchk (.s 9)), og 8 false 11 (.faddr 1 (.s 10)),
 og 8 false 12 (.load false 1 (.s 11)), og 8 false 13 (.bin .gtr (.s 12) (ci 8)), o 14 (.pick (.s 8) (cb true) (.s 13))]) (.cond (.s 14) (.seq (.region false [ o 2 (.mv (cb false))])
 .ret) .skip)) (.seq (.seq (.region false [ o 15 (.mv (.s 0)), o 16 (.nilchk (.s 15)), o 17 (.faddr 0 (.s 16)), o 18 (.load false 1 (.s 17))]) (.block 0 (.seq (.region false [
 o 20 (.bin .eql (.s 18) (ci 1)), o 19 (.mv (.s 20))]) (.cond (.s 19) (.seq (.region true [ o 21 (.mv (.s 0)), o 22 (.nilchk (.s 21)), o 23 (.faddr 3 (.s 22)),
 o 24 (.load false 1 (.s 23)), o 25 (.len (.s 24)), o 26 (.bin .eql (.s 25) (ci 0)), o 27 (.mv (.s 26)), og 27 true 28 (.mv (.s 0)), og 27 true 29 (.nilchk (.s 28)),
 og 27 true 30 (.faddr 2 (.s 29)), og 27 true 31 (.load false 1 (.s 30)), og 27 true 32 (.bin .geq (.s 31) (ci 0)), o 33 (.pick (.s 27) (.s 32) (cb false)), o 34 (.mv (.s 33)),
 og 34 true 35 (.mv (.s 0)), og 34 true 36 (.nilchk (.s 35)), og 34 true 37 (.faddr 2 (.s 36)), og 34 true 38 (.load false 1 (.s 37)), og 34 true 39 (.mv (.s 0)),
 og 34 true 40 (.nilchk (.s 39)), og 34 true 41 (.faddr 1 (.s 40)), og 34 true 42 (.load false 1 (.s 41)), og 34 true 43 (.iaddrA 9 1 (.g 0) (.s 42)),
 og 34 true 44 (.load false 1 (.s 43)), og 34 true 45 (.bin .leq (.s 38) (.s 44)), o 46 (.pick (.s 34) (.s 45) (cb false)), o 2 (.mv (.s 46))]) .ret) (.seq (.seq (.region false [
 o 48 (.bin .eql (.s 18) (ci 2)), o 47 (.mv (.s 48))]) (.cond (.s 47) .skip (.region false [ o 49 (.bin .eql (.s 18) (ci 3)), o 47 (.mv (.s 49))]))) (.cond (.s 47) (.seq
 (.region false [ o 50 (.mv (.s 0)), o 51 (.nilchk (.s 50)), o 52 (.faddr 3 (.s 51)), o 53 (.load false 1 (.s 52)), o 54 (.len (.s 53)), o 55 (.bin .eql (.s 54) (ci 0)),
 o 56 (.mv (.s 55)), og 56 true 57 (.mv (.s 0)), og 56 true 58 (.nilchk (.s 57)), og 56 true 59 (.faddr 2 (.s 58)), og 56 true 60 (.load false 1 (.s 59)),
 og 56 true 61 (.bin .geq (.s 60) (ci 0)), o 62 (.pick (.s 56) (.s 61) (cb false)), o 63 (.mv (.s 62)), og 63 true 64 (.mv (.s 0)), og 63 true 65 (.nilchk (.s 64)),
 og 63 true 66 (.faddr 2 (.s 65)), og 63 true 67 (.load false 1 (.s 66)), og 63 true 68 (.bin .lss (.s 67) (ci 32)), o 69 (.pick (.s 63) (.s 68) (cb false)), o 2 (.mv (.s 69))])
 .ret) .skip)))))) (.seq (.seq (.region false [ o 70 (.mv (.s 0)), o 71 (.nilchk (.s 70)), o 72 (.faddr 2 (.s 71)), o 73 (.load false 1 (.s 72)), o 74 (.bin .neq (.s 73) (ci 0))])
 (.cond (.s 74) (.seq (.region false [ o 2 (.mv (cb false))]) .ret) .skip)) (.seq (.seq (.region false [ o 75 (.mv (.s 0)), o 76 (.nilchk (.s 75)), o 77 (.faddr 0 (.s 76)),
 o 78 (.load false 1 (.s 77))]) (.block 1 (.seq (.region false [ o 80 (.bin .eql (.s 78) (ci 4)), o 79 (.mv (.s 80))]) (.cond (.s 79) (.seq (.region true [ o 81 (.mv (.s 0)),
 o 82 (.nilchk (.s 81)), o 83 (.faddr 3 (.s 82)), o 84 (.load false 1 (.s 83)), o 85 (.mv (.s 0)), o 86 (.nilchk (.s 85)), o 87 (.faddr 1 (.s 86)), o 88 (.load false 1 (.s 87)),
 o 89 (.bslice 1 1 [(.t (.int .i64 0))] [(0, (.s 88))]), o 90 (.call false (cf 91) [(.s 84), (.s 89)]), o 2 (.mv (.s 90))]) .ret) (.seq (.seq (.region false [
 o 92 (.bin .eql (.s 78) (ci 5)), o 91 (.mv (.s 92))]) (.cond (.s 91) .skip (.seq (.region false [ o 93 (.bin .eql (.s 78) (ci 6)), o 91 (.mv (.s 93))]) (.cond (.s 91) .skip (.seq
 (.region false [ o 94 (.bin .eql (.s 78) (ci 7)), o 91 (.mv (.s 94))]) (.cond (.s 91) .skip (.seq (.region false [ o 95 (.bin .eql (.s 78) (ci 8)), o 91 (.mv (.s 95))])
 (.cond (.s 91) .skip (.seq (.region false [ o 96 (.bin .eql (.s 78) (ci 9)), o 91 (.mv (.s 96))]) (.cond (.s 91) .skip (.region false [ o 97 (.bin .eql (.s 78) (ci 10)),
 o 91 (.mv (.s 97))]))))))))))) (.cond (.s 91) (.seq (.region true [ o 98 (.mv (.s 0)), o 99 (.nilchk (.s 98)), o 100 (.faddr 3 (.s 99)), o 101 (.load false 1 (.s 100)),
 o 102 (.mv (.s 0)), o 103 (.nilchk (.s 102)), o 104 (.faddr 1 (.s 103)), o 105 (.load false 1 (.s 104)), o 106 (.mv (.s 0)), o 107 (.nilchk (.s 106)), o 108 (.faddr 1 (.s 107)),
 o 109 (.load false 1 (.s 108)), o 110 (.bslice 1 2 [(.t (.int .i64 0))] [(0, (.s 105)), (1, (.s 109))]), o 111 (.call false (cf 91) [(.s 101), (.s 110)]), o 2 (.mv (.s 111))]) .ret)
 (.seq (.seq (.region false [ o 113 (.bin .eql (.s 78) (ci 11)), o 112 (.mv (.s 113))]) (.cond (.s 112) .skip (.seq (.region false [ o 114 (.bin .eql (.s 78) (ci 12)),
 o 112 (.mv (.s 114))]) (.cond (.s 112) .skip (.region false [ o 115 (.bin .eql (.s 78) (ci 13)), o 112 (.mv (.s 115))]))))) (.cond (.s 112) (.seq (.region true [ o 116 (.mv (.s 0)),
 o 117 (.nilchk (.s 116)), o 118 (.faddr 1 (.s 117)), o 119 (.load false 1 (.s 118)), o 120 (.bin .eql (.s 119) (ci 1)), o 121 (.mv (.s 120)), og 121 true 122 (.mv (.s 0)),
 og 121 true 123 (.nilchk (.s 122)), og 121 true 124 (.faddr 3 (.s 123)), og 121 true 125 (.load false 1 (.s 124)), og 121 true 126 (.len (.s 125)),
 og 121 true 127 (.bin .eql (.s 126) (ci 2)), o 128 (.pick (.s 121) (.s 127) (cb false)), o 129 (.mv (.s 128)), og 129 true 130 (.mv (.s 0)), og 129 true 131 (.nilchk (.s 130)),
 og 129 true 132 (.faddr 3 (.s 131)), og 129 true 133 (.load false 1 (.s 132)), og 129 true 134 (.iaddrS 4 (.s 133) (ci 0)), og 129 true 135 (.faddr 1 (.s 134)),
 og 129 true 136 (.load false 1 (.s 135)), og 129 true 137 (.mv (.s 0)), og 129 true 138 (.nilchk (.s 137)), og 129 true 139 (.faddr 3 (.s 138)),
 og 129 true 140 (.load false 1 (.s 139)), og 129 true 141 (.iaddrS 4 (.s 140) (ci 1)), og 129 true 142 (.faddr 1 (.s 141)), og 129 true 143 (.load false 1 (.s 142)),
 og 129 true 144 (.bin .eql (.s 136) (.s 143)), o 145 (.pick (.s 129) (.s 144) (cb false)), o 2 (.mv (.s 145))]) .ret) (.seq (.region false [ o 147 (.bin .eql (.s 78) (ci 14)),
 o 146 (.mv (.s 147))]) (.cond (.s 146) (.seq (.region true [ o 148 (.mv (.s 0)), o 149 (.nilchk (.s 148)), o 150 (.faddr 3 (.s 149)), o 151 (.load false 1 (.s 150)),
 o 152 (.mv (.s 0)), o 153 (.nilchk (.s 152)), o 154 (.faddr 1 (.s 153)), o 155 (.load false 1 (.s 154)), o 156 (.mv (.s 0)), o 157 (.nilchk (.s 156)), o 158 (.faddr 1 (.s 157)),
 o 159 (.load false 1 (.s 158)), o 160 (.bslice 1 3 [(.t (.int .i64 0))] [(0, (ci 1)), (1, (.s 155)), (2, (.s 159))]), o 161 (.call false (cf 91) [(.s 151), (.s 160)]),
 o 2 (.mv (.s 161))]) .ret) .skip)))))))))) (.seq (.region false [ o 2 (.mv (cb false))]) .ret))))))⟩
def f72 : F := ⟨13, false, [.s 4], (.seq (.region false [ o 4 (.mv (ci 0))]) (.seq (.seq (.region false [ o 5 (.mv (.s 1)), o 6 (.mv (.s 0)), o 7 (.len (.s 6)),
 o 8 (.bin .lss (.s 5) (.s 7))]) (.cond (.s 8) (.seq (.region false [ o 9 (.mv (.s 0)), o 10 (.mv (.s 1)), o 11 (.iaddrS 1 (.s 9) (.s 10)), o 12 (.load false 1 (.s 11)),
 o 4 (.mv (.s 12))]) .ret) .skip)) (.seq (.region false [ o 4 (.mv (ci 0))]) .ret)))⟩
def f73 : F := ⟨69, false, [.s 4], (.seq (.region false [ o 3 (.boxL 3 (.s 1)), o 4 (.mv (ci 0))]) (.seq (.region true [ o 7 (.iaddrAL 3 1 (.s 3) (ci 0)),
 o 8 (.loadL false 1 (.s 7)), o 9 (.iaddrAL 3 1 (.s 3) (ci 1)), o 10 (.loadL false 1 (.s 9)), o 5 (.mv (.s 8)), o 6 (.mv (.s 10))]) (.seq (.seq (.region false [ o 11 (.mv (.s 0))])
 (.block 0 (.seq (.block 11 (.seq (.block 10 (.seq (.block 9 (.seq (.block 8 (.seq (.block 7 (.seq (.block 6 (.seq (.block 5 (.seq (.block 4 (.seq (.block 3 (.seq (.block 2 (.seq
 (.block 1 (.seq (.seq (.seq (.region false [ o 13 (.bin .eql (.s 11) (ci 4)), o 12 (.mv (.s 13))]) (.cond (.s 12) (.exit 1) .skip)) (.seq (.seq (.region false [
 o 15 (.bin .eql (.s 11) (ci 5)), o 14 (.mv (.s 15))]) (.cond (.s 14) (.exit 2) .skip)) (.seq (.seq (.region false [ o 17 (.bin .eql (.s 11) (ci 6)), o 16 (.mv (.s 17))])
 (.cond (.s 16) (.exit 3) .skip)) (.seq (.seq (.region false [ o 19 (.bin .eql (.s 11) (ci 7)), o 18 (.mv (.s 19))]) (.cond (.s 18) (.exit 4) .skip)) (.seq (.seq (.region false [
 o 21 (.bin .eql (.s 11) (ci 9)), o 20 (.mv (.s 21))]) (.cond (.s 20) (.exit 5) .skip)) (.seq (.seq (.region false [ o 23 (.bin .eql (.s 11) (ci 8)), o 22 (.mv (.s 23))])
 (.cond (.s 22) (.exit 6) .skip)) (.seq (.seq (.region false [ o 25 (.bin .eql (.s 11) (ci 10)), o 24 (.mv (.s 25))]) (.cond (.s 24) (.exit 7) .skip)) (.seq (.seq (.region false [
 o 27 (.bin .eql (.s 11) (ci 11)), o 26 (.mv (.s 27))]) (.cond (.s 26) (.exit 8) .skip)) (.seq (.seq (.region false [ o 29 (.bin .eql (.s 11) (ci 13)), o 28 (.mv (.s 29))])
 (.cond (.s 28) (.exit 9) .skip)) (.seq (.seq (.region false [ o 31 (.bin .eql (.s 11) (ci 12)), o 30 (.mv (.s 31))]) (.cond (.s 30) (.exit 10) .skip)) (.seq (.region false [
 o 33 (.bin .eql (.s 11) (ci 14)), o 32 (.mv (.s 33))]) (.cond (.s 32) (.exit 11) .skip)))))))))))) (.exit 0))) (.seq (.seq (.region false [ o 34 (.mv (.s 5)),
 o 35 (.un .xor (.s 34)), o 4 (.mv (.s 35))]) .ret) (.exit 0)))) (.seq (.seq (.region false [ o 36 (.mv (.s 5)), o 37 (.mv (.s 6)), o 38 (.bin .and (.s 36) (.s 37)),
 o 4 (.mv (.s 38))]) .ret) (.exit 0)))) (.seq (.seq (.region false [ o 39 (.mv (.s 5)), o 40 (.mv (.s 6)), o 41 (.bin .or (.s 39) (.s 40)), o 4 (.mv (.s 41))]) .ret) (.exit 0))))
 (.seq (.seq (.region false [ o 42 (.mv (.s 5)), o 43 (.mv (.s 6)), o 44 (.bin .xor (.s 42) (.s 43)), o 4 (.mv (.s 44))]) .ret) (.exit 0)))) (.region false [ o 45 (.mv (.s 6)),
 o 46 (.un .neg (.s 45)), o 6 (.mv (.s 46))]))) (.seq (.seq (.region false [ o 47 (.mv (.s 5)), o 48 (.mv (.s 6)), o 49 (.bin .add (.s 47) (.s 48)), o 4 (.mv (.s 49))]) .ret)
 (.exit 0)))) (.seq (.seq (.region false [ o 50 (.mv (.s 5)), o 51 (.mv (.s 6)), o 52 (.bin .mul (.s 50) (.s 51)), o 4 (.mv (.s 52))]) .ret) (.exit 0)))) (.seq (.seq (.region false [
 o 53 (.mv (.s 5)), o 54 (.mv (.s 6)), o 55 (.bin .eql (.s 53) (.s 54)), o 56 (.call false (cf 92) [(.s 55)]), o 4 (.mv (.s 56))]) .ret) (.exit 0)))) (.seq (.region false [
 o 57 (.mv (.s 5)), o 58 (.mv (.s 6)), o 59 (.bin .eql (.s 57) (.s 58))]) (.cond (.s 59) (.seq (.region false [ o 4 (.mv (ci 1))]) .ret) .skip)))) (.seq (.seq (.region false [
 o 60 (.mv (.s 5)), o 61 (.mv (.s 6)), o 62 (.bin .lss (.s 60) (.s 61)), o 63 (.call false (cf 92) [(.s 62)]), o 4 (.mv (.s 63))]) .ret) (.exit 0)))) (.seq (.seq (.seq
 (.region false [ o 64 (.mv (.s 5)), o 65 (.bin .eql (.s 64) (ci 1))]) (.cond (.s 65) (.seq (.region false [ o 66 (.mv (.s 6)), o 4 (.mv (.s 66))]) .ret) .skip)) (.seq
 (.region false [ o 67 (.iaddrAL 3 1 (.s 3) (ci 2)), o 68 (.loadL false 1 (.s 67)), o 4 (.mv (.s 68))]) .ret)) (.exit 0))))) (.seq (.region false [ o 4 (.mv (ci 0))]) .ret))))⟩
def f74 : F := ⟨1, true, [], .ext .sortI⟩
def f75 : F := ⟨1, true, [], .ext .compactI⟩
def f76 : F := ⟨31, true, [], (.seq (.seq (.region false [ o 5 (.mv (.s 0)), o 6 (.nilchk (.s 5)), o 7 (.faddr 3 (.s 6)), o 8 (.load false 1 (.s 7)), o 9 (.len (.s 8)),
 o 10 (.bin .eql (.s 9) (ci 0))]) (.cond (.s 10) (.region false [ o 11 (.mv (.s 1)), o 12 (.mv (.s 0)), o 13 (.call true (.s 11) [(.s 12)])]) .skip)) (.seq (.region false [
 o 14 (.mv (.s 0)), o 15 (.nilchk (.s 14)), o 16 (.faddr 3 (.s 15)), o 17 (.load false 1 (.s 16)), o 18 (.len (.s 17)), o 19 (.mv (ci 0))]) (.block 0 (.loop (.seq (.region false [
 o 20 (.bin .lss (.s 19) (.s 18))]) (.seq (.cond (.s 20) .skip (.exit 0)) (.seq (.block 1 (.seq (.region false [ o 21 (.mv (.s 19)), o 4 (.mv (.s 21))]) (.region false [
 o 22 (.mv (.s 0)), o 23 (.nilchk (.s 22)), o 24 (.faddr 3 (.s 23)), o 25 (.load false 1 (.s 24)), o 26 (.mv (.s 4)), o 27 (.iaddrS 4 (.s 25) (.s 26)), o 28 (.mv (.s 1)),
 o 29 (.call true (cf 76) [(.s 27), (.s 28)])]))) (.region false [ o 30 (.bin .add (.s 19) (ci 1)), o 19 (.mv (.s 30))]))))))))⟩
def f77 : F := ⟨22, true, [], (.seq (.region false [ o 4 (.mv (.s 0)), o 5 (.nilchk (.s 4)), o 6 (.faddr 0 (.s 5)), o 7 (.load false 1 (.s 6))]) (.block 0 (.seq (.region false [
 o 9 (.bin .eql (.s 7) (ci 3)), o 8 (.mv (.s 9))]) (.cond (.s 8) (.region false [ o 10 (.mv (.s 0)), o 11 (.nilchk (.s 10)), o 12 (.faddr 2 (.s 11)), o 13 (.load false 1 (.s 12)),
 o 14 (.iaddrA 32 1 (.s 1) (.s 13)), on (.store 1 (.s 14) (cb true))]) (.seq (.region false [ o 16 (.bin .eql (.s 7) (ci 2)), o 15 (.mv (.s 16))]) (.cond (.s 15) (.region false [
 o 17 (.mv (.s 0)), o 18 (.nilchk (.s 17)), o 19 (.faddr 2 (.s 18)), o 20 (.load false 1 (.s 19)), o 21 (.iaddrA 32 1 (.s 2) (.s 20)), on (.store 1 (.s 21) (cb true))]) .skip))))))⟩
def f78 : F := ⟨18, true, [.s 2], (.seq (.region false [ o 1 (.boxL 32 (.s 0)), o 2 (.mv (.c (.t .nils)))]) (.seq (.region false [ o 3 (.mv (.c (.t .nils)))]) (.seq (.seq
 (.region false [ o 6 (.loadL true 32 (.s 1)), o 7 (.mv (ci 0))]) (.block 0 (.loop (.seq (.region false [ o 8 (.bin .lss (.s 7) (ci 32))]) (.seq (.cond (.s 8) .skip (.exit 0)) (.seq
 (.block 1 (.seq (.region false [ o 9 (.mv (.s 7)), o 10 (.idxA false 32 1 (.s 6) (.s 7)), o 4 (.mv (.s 9)), o 5 (.mv (.s 10))]) (.seq (.region false [ o 11 (.mv (.s 5))])
 (.cond (.s 11) (.region false [ o 12 (.mv (.s 3)), o 13 (.mv (.s 4)), o 14 (.bslice 1 1 [(.t (.int .i64 0))] [(0, (.s 13))]), o 15 (.append 1 8 (.s 12) (.s 14)), o 3 (.mv (.s 15))])
 .skip)))) (.region false [ o 16 (.bin .add (.s 7) (ci 1)), o 7 (.mv (.s 16))]))))))) (.seq (.region false [ o 17 (.mv (.s 3)), o 2 (.mv (.s 17))]) .ret))))⟩
def f79 : F := ⟨56, false, [.s 2, .s 3], (.seq (.region false [ o 1 (.boxL 4 (.s 0)), o 2 (.mv (ci 0)), o 3 (.mv (ci 0))]) (.seq (.region false [ o 7 (.faddrL 0 (.s 1)),
 o 8 (.loadL true 4 (.s 7)), o 4 (.allocL [(.t .nils), (.t .nils), (.t .nils), (.t .nils)]), on (.storeL 4 (.s 4) (.s 8))]) (.seq (.seq (.region false [ o 9 (.faddrL 0 (.s 4)),
 o 10 (.loadL false 1 (.s 9)), o 11 (.len (.s 10)), o 12 (.bin .gtr (.s 11) (ci 32)), o 13 (.mv (.s 12)), og 13 false 14 (.faddrL 1 (.s 4)), og 13 false 15 (.loadL false 1 (.s 14)),
 og 13 false 16 (.len (.s 15)), og 13 false 17 (.bin .gtr (.s 16) (ci 6)), o 18 (.pick (.s 13) (cb true) (.s 17)), o 19 (.mv (.s 18)), og 19 false 20 (.faddrL 2 (.s 4)),
 og 19 false 21 (.loadL false 1 (.s 20)), og 19 false 22 (.len (.s 21)), og 19 false 23 (.bin .gtr (.s 22) (ci 4)), o 24 (.pick (.s 19) (cb true) (.s 23)), o 25 (.mv (.s 24)),
 og 25 false 26 (.faddrL 3 (.s 4)), og 25 false 27 (.loadL false 1 (.s 26)), og 25 false 28 (.len (.s 27)), og 25 false 29 (.bin .gtr (.s 28) (ci 4)),
 o 30 (.pick (.s 25) (cb true) (.s 29))]) (.cond (.s 30) (.seq (.region false [ o 2 (.mv (ci 2)), o 3 (.mv (ci (-1)))]) .ret) .skip)) (.seq (.seq (.region false [
 o 31 (.faddrL 3 (.s 4)), o 32 (.loadL false 1 (.s 31)), o 33 (.len (.s 32)), o 34 (.mv (ci 0))]) (.block 0 (.loop (.seq (.region false [ o 35 (.bin .lss (.s 34) (.s 33))]) (.seq
 (.cond (.s 35) .skip (.exit 0)) (.seq (.block 1 (.seq (.region false [ o 36 (.mv (.s 34)), o 37 (.iaddrS 7 (.s 32) (.s 34)), o 38 (.load true 7 (.s 37)),
 o 6 (.allocL [(.t (.str (bs []))), (.t (.int .i64 0)), (.t .nils), (.t .nils), (.t .nils), (.t .nils), (.t (.bool false))]), o 5 (.mv (.s 36)), on (.storeL 7 (.s 6) (.s 38))]) (.seq
 (.region false [ o 39 (.faddrL 1 (.s 6)), o 40 (.loadL false 1 (.s 39)), o 41 (.bin .gtr (.s 40) (ci 48)), o 42 (.mv (.s 41)), og 42 false 43 (.faddrL 4 (.s 6)),
 og 42 false 44 (.loadL false 1 (.s 43)), og 42 false 45 (.len (.s 44)), og 42 false 46 (.bin .gtr (.s 45) (ci 64)), o 47 (.pick (.s 42) (cb true) (.s 46)), o 48 (.mv (.s 47)),
 og 48 false 49 (.faddrL 5 (.s 6)), og 48 false 50 (.loadL false 1 (.s 49)), og 48 false 51 (.len (.s 50)), og 48 false 52 (.bin .gtr (.s 51) (ci 8)),
 o 53 (.pick (.s 48) (cb true) (.s 52))]) (.cond (.s 53) (.seq (.region false [ o 54 (.mv (.s 5)), o 2 (.mv (ci 2)), o 3 (.mv (.s 54))]) .ret) .skip)))) (.region false [
 o 55 (.bin .add (.s 34) (ci 1)), o 34 (.mv (.s 55))]))))))) (.seq (.region false [ o 2 (.mv (ci 0)), o 3 (.mv (ci (-1)))]) .ret)))))⟩
def f80 : F := ⟨62, false, [.s 2], (.seq (.region false [ o 1 (.boxL 4 (.s 0)), o 2 (.mv (ci 0))]) (.seq (.region false [ o 6 (.mkmap), o 3 (.mv (.s 6))]) (.seq (.seq
 (.region false [ o 7 (.faddrL 0 (.s 1)), o 8 (.faddrL 0 (.s 7)), o 9 (.loadL false 1 (.s 8)), o 10 (.len (.s 9)), o 11 (.mv (ci 0))]) (.block 0 (.loop (.seq (.region false [
 o 12 (.bin .lss (.s 11) (.s 10))]) (.seq (.cond (.s 12) .skip (.exit 0)) (.seq (.block 1 (.seq (.region false [ o 13 (.iaddrS 6 (.s 9) (.s 11)), o 14 (.load true 6 (.s 13)),
 o 5 (.allocL [(.t (.str (bs []))), (.t (.int .i64 0)), (.t (.int .i64 0)), (.t (.int .i64 0)), (.t (.bool false)), (.t (.int .i64 0))]), on (.storeL 6 (.s 5) (.s 14))]) (.block 2
 (.seq (.seq (.region false [ o 16 (.faddrL 0 (.s 5)), o 17 (.loadL false 1 (.s 16)), o 18 (.call false (cf 95) [(.s 17)]), o 19 (.un .not (.s 18)), o 15 (.mv (.s 19))])
 (.cond (.s 15) .skip (.seq (.region false [ o 20 (.faddrL 1 (.s 5)), o 21 (.loadL false 1 (.s 20)), o 22 (.bin .lss (.s 21) (ci 1)), o 15 (.mv (.s 22))]) (.cond (.s 15) .skip (.seq
 (.region false [ o 23 (.faddrL 1 (.s 5)), o 24 (.loadL false 1 (.s 23)), o 25 (.bin .gtr (.s 24) (ci 8)), o 15 (.mv (.s 25))]) (.cond (.s 15) .skip (.region false [
 o 26 (.faddrL 2 (.s 5)), o 27 (.loadL false 1 (.s 26)), o 28 (.faddrL 1 (.s 5)), o 29 (.loadL false 1 (.s 28)), o 30 (.conv .u64 (.s 29)), o 31 (.bin .shl (ci 1) (.s 30)),
 o 32 (.call false (cf 96) [(.s 27), (.s 31)]), o 33 (.un .not (.s 32)), o 15 (.mv (.s 33))]))))))) (.cond (.s 15) (.seq (.region false [ o 2 (.mv (ci 1))]) .ret) (.seq (.seq
 (.region false [ o 35 (.faddrL 3 (.s 5)), o 36 (.loadL false 1 (.s 35)), o 37 (.bin .neq (.s 36) (ci (-1))), o 38 (.mv (.s 37)), og 38 true 39 (.faddrL 3 (.s 5)),
 og 38 true 40 (.loadL false 1 (.s 39)), og 38 true 41 (.faddrL 0 (.s 1)), og 38 true 42 (.faddrL 3 (.s 41)), og 38 true 43 (.loadL false 1 (.s 42)), og 38 true 44 (.len (.s 43)),
 og 38 true 45 (.call false (cf 96) [(.s 40), (.s 44)]), og 38 true 46 (.un .not (.s 45)), o 47 (.pick (.s 38) (.s 46) (cb false)), o 34 (.mv (.s 47))]) (.cond (.s 34) .skip
 (.region false [ o 48 (.faddrL 5 (.s 5)), o 49 (.loadL false 1 (.s 48)), o 50 (.faddrL 0 (.s 1)), o 51 (.faddrL 1 (.s 50)), o 52 (.loadL false 1 (.s 51)), o 53 (.len (.s 52)),
 o 54 (.call false (cf 96) [(.s 49), (.s 53)]), o 55 (.un .not (.s 54)), o 34 (.mv (.s 55))]))) (.cond (.s 34) (.seq (.region false [ o 2 (.mv (ci 1))]) .ret) (.seq (.region false [
 o 57 (.mv (.s 3)), o 58 (.faddrL 0 (.s 5)), o 59 (.loadL false 1 (.s 58)), o 60 (.call true (cf 97) [(.s 57), (.s 59)]), o 56 (.mv (.s 60))]) (.cond (.s 56) (.seq (.region false [
 o 2 (.mv (ci 41))]) .ret) .skip))))))))) (.region false [ o 61 (.bin .add (.s 11) (ci 1)), o 11 (.mv (.s 61))]))))))) (.seq (.region false [ o 2 (.mv (ci 0))]) .ret))))⟩
def f81 : F := ⟨62, false, [.s 2], (.seq (.region false [ o 1 (.boxL 4 (.s 0)), o 2 (.mv (ci 0))]) (.seq (.region false [ o 6 (.mkmap), o 3 (.mv (.s 6))]) (.seq (.seq
 (.region false [ o 7 (.faddrL 0 (.s 1)), o 8 (.faddrL 1 (.s 7)), o 9 (.loadL false 1 (.s 8)), o 10 (.len (.s 9)), o 11 (.mv (ci 0))]) (.block 0 (.loop (.seq (.region false [
 o 12 (.bin .lss (.s 11) (.s 10))]) (.seq (.cond (.s 12) .skip (.exit 0)) (.seq (.block 1 (.seq (.region false [ o 13 (.iaddrS 11 (.s 9) (.s 11)), o 14 (.load true 11 (.s 13)),
 o 5 (.allocL [(.t (.str (bs []))), (.t (.str (bs []))), (.t (.int .i64 0)), (.t (.int .i64 0)), (.t (.int .i64 0)), (.t .nils), (.t (.int .i64 0)), (.t (.int .i64 0)), (.t (.int .i64 0)), (.t .nils), (.t .nils)]),
 on (.storeL 11 (.s 5) (.s 14))]) (.block 2 (.seq (.seq (.region false [ o 16 (.faddrL 0 (.s 5)), o 17 (.loadL false 1 (.s 16)), o 18 (.call false (cf 95) [(.s 17)]),
 o 19 (.un .not (.s 18)), o 15 (.mv (.s 19))]) (.cond (.s 15) .skip (.region false [ o 20 (.faddrL 1 (.s 5)), o 21 (.loadL false 1 (.s 20)), o 22 (.call false (cf 95) [(.s 21)]),
 o 23 (.un .not (.s 22)), o 15 (.mv (.s 23))]))) (.cond (.s 15) (.seq (.region false [ o 2 (.mv (ci 1))]) .ret) (.seq (.region false [ o 25 (.mv (.s 3)), o 26 (.faddrL 0 (.s 5)),
 o 27 (.loadL false 1 (.s 26)), o 28 (.call true (cf 97) [(.s 25), (.s 27)]), o 24 (.mv (.s 28))]) (.cond (.s 24) (.seq (.region false [ o 2 (.mv (ci 41))]) .ret) (.seq (.seq
 (.region false [ o 30 (.faddrL 2 (.s 5)), o 31 (.loadL true 4 (.s 30)), o 32 (.call false (cf 98) [(.s 31)]), o 33 (.un .not (.s 32)), o 34 (.mv (.s 33)),
 og 34 true 35 (.loadL true 4 (.s 1)), og 34 true 36 (.faddrL 2 (.s 5)), og 34 true 37 (.loadL true 4 (.s 36)), og 34 true 38 (.loadL true 4 (.s 1)),
 og 34 true 39 (.mkfn 100 [(.s 38)] []), og 34 true 40 (.call false (cf 99) [(.s 35), (.s 37), (cb true), (.s 39)]), og 34 true 41 (.un .not (.s 40)),
 o 42 (.pick (.s 34) (.s 41) (cb false)), o 29 (.mv (.s 42))]) (.cond (.s 29) .skip (.region false [ o 43 (.loadL true 4 (.s 1)), o 44 (.faddrL 6 (.s 5)),
 o 45 (.loadL true 4 (.s 44)), o 46 (.loadL true 4 (.s 1)), o 47 (.mkfn 100 [(.s 46)] []), o 48 (.call false (cf 99) [(.s 43), (.s 45), (cb true), (.s 47)]), o 49 (.un .not (.s 48)),
 o 29 (.mv (.s 49))]))) (.cond (.s 29) (.seq (.region false [ o 2 (.mv (ci 60))]) .ret) (.seq (.seq (.region false [ o 51 (.faddrL 10 (.s 5)), o 52 (.loadL false 1 (.s 51)),
 o 53 (.call false (cf 101) [(.s 52)]), o 54 (.un .not (.s 53)), o 50 (.mv (.s 54))]) (.cond (.s 50) .skip (.region false [ o 55 (.faddrL 10 (.s 5)), o 56 (.loadL false 1 (.s 55)),
 o 57 (.loadL true 4 (.s 1)), o 58 (.mkfn 100 [(.s 57)] []), o 59 (.call false (cf 102) [(.s 56), (.s 58)]), o 60 (.un .not (.s 59)), o 50 (.mv (.s 60))]))) (.cond (.s 50) (.seq
 (.region false [ o 2 (.mv (ci 1))]) .ret) .skip))))))))))) (.region false [ o 61 (.bin .add (.s 11) (ci 1)), o 11 (.mv (.s 61))]))))))) (.seq (.region false [ o 2 (.mv (ci 0))])
 .ret))))⟩
def f82 : F := ⟨73, false, [.s 2], (.seq (.region false [ o 1 (.boxL 4 (.s 0)), o 2 (.mv (ci 0))]) (.seq (.region false [ o 8 (.mkmap), o 3 (.mv (.s 8))]) (.seq (.seq
 (.region false [ o 9 (.faddrL 0 (.s 1)), o 10 (.faddrL 2 (.s 9)), o 11 (.loadL false 1 (.s 10)), o 12 (.len (.s 11)), o 13 (.mv (ci 0))]) (.block 0 (.loop (.seq (.region false [
 o 14 (.bin .lss (.s 13) (.s 12))]) (.seq (.cond (.s 14) .skip (.exit 0)) (.seq (.block 1 (.seq (.region false [ o 15 (.iaddrS 6 (.s 11) (.s 13)), o 16 (.load true 6 (.s 15)),
 o 5 (.allocL [(.t (.int .i64 0)), (.t (.int .i64 0)), (.t (.int .i64 0)), (.t (.int .i64 0)), (.t .nils), (.t (.int .i64 0))]), on (.storeL 6 (.s 5) (.s 16))]) (.seq (.seq
 (.region false [ o 17 (.loadL true 4 (.s 1)), o 18 (.faddrL 0 (.s 5)), o 19 (.loadL false 1 (.s 18)), o 20 (.call false (cf 100) [(.s 17), (.s 19)]), o 21 (.un .not (.s 20)),
 o 22 (.mv (.s 21)), og 22 false 23 (.faddrL 0 (.s 1)), og 22 false 24 (.faddrL 0 (.s 23)), og 22 false 25 (.loadL false 1 (.s 24)), og 22 false 26 (.faddrL 0 (.s 5)),
 og 22 false 27 (.loadL false 1 (.s 26)), og 22 false 28 (.iaddrS 6 (.s 25) (.s 27)), og 22 false 29 (.faddr 1 (.s 28)), og 22 false 30 (.load false 1 (.s 29)),
 og 22 false 31 (.bin .neq (.s 30) (ci 1)), o 32 (.pick (.s 22) (cb true) (.s 31)), o 33 (.mv (.s 32)), og 33 false 34 (.faddrL 0 (.s 1)), og 33 false 35 (.faddrL 0 (.s 34)),
 og 33 false 36 (.loadL false 1 (.s 35)), og 33 false 37 (.faddrL 0 (.s 5)), og 33 false 38 (.loadL false 1 (.s 37)), og 33 false 39 (.iaddrS 6 (.s 36) (.s 38)),
 og 33 false 40 (.faddr 4 (.s 39)), og 33 false 41 (.load false 1 (.s 40)), o 42 (.pick (.s 33) (cb true) (.s 41))]) (.cond (.s 42) (.seq (.region false [ o 2 (.mv (ci 1))]) .ret)
 .skip)) (.seq (.seq (.region false [ o 44 (.mv (.s 3)), o 45 (.faddrL 0 (.s 5)), o 46 (.loadL false 1 (.s 45)), o 47 (.lookup 0 (.agg []) true (.s 44) (.s 46)), o 43 (.mv (.s 47)),
 o 48 (.extr (.s 43) 0), o 49 (.extr (.s 43) 1), o 6 (.allocL []), on (.storeL 0 (.s 6) (.s 48)), o 7 (.mv (.s 49))]) (.seq (.region false [ o 50 (.mv (.s 7)), o 51 (.mv (.s 50)),
 og 51 false 52 (.faddrL 5 (.s 5)), og 51 false 53 (.loadL false 1 (.s 52)), og 51 false 54 (.faddrL 0 (.s 1)), og 51 false 55 (.faddrL 1 (.s 54)),
 og 51 false 56 (.loadL false 1 (.s 55)), og 51 false 57 (.len (.s 56)), og 51 false 58 (.call false (cf 96) [(.s 53), (.s 57)]), og 51 false 59 (.un .not (.s 58)),
 o 60 (.pick (.s 51) (cb true) (.s 59))]) (.cond (.s 60) (.seq (.region false [ o 2 (.mv (ci 1))]) .ret) .skip))) (.seq (.region false [ o 61 (.mv (.s 3)), o 62 (.faddrL 0 (.s 5)),
 o 63 (.loadL false 1 (.s 62)), o 64 (.build [] []), on (.mapupd 0 (.s 61) (.s 63) (.s 64))]) (.seq (.region false [ o 65 (.loadL true 4 (.s 1)), o 66 (.faddrL 1 (.s 5)),
 o 67 (.loadL true 4 (.s 66)), o 68 (.loadL true 4 (.s 1)), o 69 (.mkfn 100 [(.s 68)] []), o 70 (.call false (cf 99) [(.s 65), (.s 67), (cb false), (.s 69)]),
 o 71 (.un .not (.s 70))]) (.cond (.s 71) (.seq (.region false [ o 2 (.mv (ci 60))]) .ret) .skip))))))) (.region false [ o 72 (.bin .add (.s 13) (ci 1)), o 13 (.mv (.s 72))])))))))
 (.seq (.region false [ o 2 (.mv (ci 0))]) .ret))))⟩
def f83 : F := ⟨123, true, [.s 8, .s 9], (.seq (.region false [ o 4 (.boxH 4 (.s 0)), o 6 (.boxH 7 (.s 2)), o 8 (.mv (ci 0)), o 9 (.mv (ci 0))]) (.seq (.block 0 (.seq
 (.region false [ o 20 (.faddr 0 (.s 6)), o 21 (.load false 1 (.s 20)), o 22 (.call false (cf 95) [(.s 21)]), o 23 (.un .not (.s 22)), o 19 (.mv (.s 23))]) (.cond (.s 19) (.seq
 (.region false [ o 8 (.mv (ci 1)), o 9 (.mv (ci (-1)))]) .ret) (.seq (.region false [ o 25 (.mv (.s 3)), o 26 (.faddr 0 (.s 6)), o 27 (.load false 1 (.s 26)),
 o 28 (.call true (cf 97) [(.s 25), (.s 27)]), o 24 (.mv (.s 28))]) (.cond (.s 24) (.seq (.region false [ o 8 (.mv (ci 41)), o 9 (.mv (ci (-1)))]) .ret) (.seq (.seq (.region false [
 o 30 (.faddr 1 (.s 6)), o 31 (.load false 1 (.s 30)), o 32 (.bin .lss (.s 31) (ci 1)), o 29 (.mv (.s 32))]) (.cond (.s 29) .skip (.seq (.region false [ o 33 (.faddr 2 (.s 6)),
 o 34 (.load false 1 (.s 33)), o 35 (.len (.s 34)), o 36 (.faddr 1 (.s 6)), o 37 (.load false 1 (.s 36)), o 38 (.bin .neq (.s 35) (.s 37)), o 29 (.mv (.s 38))]) (.cond (.s 29) .skip
 (.region false [ o 39 (.faddr 3 (.s 6)), o 40 (.load false 1 (.s 39)), o 41 (.len (.s 40)), o 42 (.faddr 1 (.s 6)), o 43 (.load false 1 (.s 42)), o 44 (.bin .neq (.s 41) (.s 43)),
 o 29 (.mv (.s 44))]))))) (.cond (.s 29) (.seq (.region false [ o 8 (.mv (ci 1)), o 9 (.mv (ci (-1)))]) .ret) (.seq (.region false [ o 46 (.faddr 3 (.s 6)),
 o 47 (.load false 1 (.s 46)), o 48 (.mkfn 103 [] [(.s 4)]), o 49 (.call false (cf 102) [(.s 47), (.s 48)]), o 50 (.un .not (.s 49)), o 45 (.mv (.s 50))]) (.cond (.s 45) (.seq
 (.region false [ o 8 (.mv (ci 1)), o 9 (.mv (ci (-1)))]) .ret) .skip))))))))) (.seq (.region false [ o 51 (.load true 4 (.s 4)), o 52 (.mv (.s 1)),
 o 53 (.call false (cf 104) [(.s 51), (.s 52)]), o 10 (.mv (.s 53))]) (.seq (.seq (.region false [ o 54 (.faddr 2 (.s 6)), o 55 (.load false 1 (.s 54)), o 56 (.len (.s 55)),
 o 57 (.mv (ci 0))]) (.block 1 (.loop (.seq (.region false [ o 58 (.bin .lss (.s 57) (.s 56))]) (.seq (.cond (.s 58) .skip (.exit 1)) (.seq (.block 2 (.seq (.region false [
 o 59 (.iaddrS 4 (.s 55) (.s 57)), o 60 (.load true 4 (.s 59)), o 12 (.allocL [(.t (.int .i64 0)), (.t (.int .i64 0)), (.t (.int .i64 0)), (.t .nils)]),
 on (.storeL 4 (.s 12) (.s 60))]) (.seq (.region false [ o 61 (.load true 4 (.s 4)), o 62 (.loadL true 4 (.s 12)), o 63 (.mv (.s 10)),
 o 64 (.call false (cf 99) [(.s 61), (.s 62), (cb false), (.s 63)]), o 65 (.un .not (.s 64))]) (.cond (.s 65) (.seq (.region false [ o 8 (.mv (ci 60)), o 9 (.mv (ci (-1)))]) .ret)
 .skip)))) (.region false [ o 66 (.bin .add (.s 57) (ci 1)), o 57 (.mv (.s 66))]))))))) (.seq (.seq (.region false [ o 67 (.faddr 4 (.s 6)), o 68 (.load false 1 (.s 67)),
 o 69 (.len (.s 68)), o 70 (.mv (ci 0))]) (.block 3 (.loop (.seq (.region false [ o 71 (.bin .lss (.s 70) (.s 69))]) (.seq (.cond (.s 71) .skip (.exit 3)) (.seq (.block 4 (.seq
 (.region false [ o 72 (.mv (.s 70)), o 73 (.iaddrS 11 (.s 68) (.s 70)), o 74 (.load true 11 (.s 73)),
 o 14 (.allocL [(.t (.int .i64 0)), (.t (.int .i64 0)), (.t (.int .i64 0)), (.t (.int .i64 0)), (.t (.int .i64 0)), (.t (.int .i64 0)), (.t .nils), (.t .nils), (.t (.bool false)), (.t (.int .i64 0)), (.t (.int .i64 0))]),
 o 13 (.mv (.s 72)), on (.storeL 11 (.s 14) (.s 74))]) (.seq (.region false [ o 75 (.load true 4 (.s 4)), o 76 (.mv (.s 1)), o 77 (.load true 7 (.s 6)),
 o 78 (.loadL true 11 (.s 14)), o 79 (.call false (cf 105) [(.s 75), (.s 76), (.s 77), (.s 78)]), o 15 (.mv (.s 79))]) (.seq (.region false [ o 80 (.mv (.s 15)),
 o 81 (.bin .neq (.s 80) (ci 0))]) (.cond (.s 81) (.seq (.region false [ o 82 (.mv (.s 15)), o 83 (.mv (.s 13)), o 8 (.mv (.s 82)), o 9 (.mv (.s 83))]) .ret) .skip)))))
 (.region false [ o 84 (.bin .add (.s 70) (ci 1)), o 70 (.mv (.s 84))]))))))) (.seq (.seq (.region false [ o 85 (.faddr 5 (.s 6)), o 86 (.load false 1 (.s 85)), o 87 (.len (.s 86)),
 o 88 (.mv (ci 0))]) (.block 5 (.loop (.seq (.region false [ o 89 (.bin .lss (.s 88) (.s 87))]) (.seq (.cond (.s 89) .skip (.exit 5)) (.seq (.block 6 (.seq (.region false [
 o 90 (.iaddrS 6 (.s 86) (.s 88)), o 91 (.load true 6 (.s 90)),
 o 17 (.allocH [(.t (.int .i64 0)), (.t .nils), (.t (.int .i64 0)), (.t (.int .i64 0)), (.t (.int .i64 0)), (.t .nils)]), on (.store 6 (.s 17) (.s 91))]) (.seq (.region false [
 o 92 (.mkfn 106 [] [(.s 6), (.s 17)]), o 18 (.mv (.s 92))]) (.block 7 (.seq (.seq (.region false [ o 94 (.faddr 0 (.s 17)), o 95 (.load false 1 (.s 94)), o 96 (.faddr 1 (.s 6)),
 o 97 (.load false 1 (.s 96)), o 98 (.call false (cf 96) [(.s 95), (.s 97)]), o 99 (.un .not (.s 98)), o 93 (.mv (.s 99))]) (.cond (.s 93) .skip (.seq (.region false [
 o 100 (.faddr 1 (.s 17)), o 101 (.load false 1 (.s 100)), o 102 (.call false (cf 101) [(.s 101)]), o 103 (.un .not (.s 102)), o 93 (.mv (.s 103))]) (.cond (.s 93) .skip
 (.region false [ o 104 (.faddr 1 (.s 17)), o 105 (.load false 1 (.s 104)), o 106 (.mv (.s 18)), o 107 (.call false (cf 102) [(.s 105), (.s 106)]), o 108 (.un .not (.s 107)),
 o 93 (.mv (.s 108))]))))) (.cond (.s 93) (.seq (.region false [ o 8 (.mv (ci 1)), o 9 (.mv (ci (-1)))]) .ret) (.seq (.seq (.region false [ o 110 (.faddr 2 (.s 17)),
 o 111 (.load true 4 (.s 110)), o 112 (.faddr 0 (.s 4)), o 113 (.faddr 0 (.s 112)), o 114 (.load false 1 (.s 113)), o 115 (.call false (cf 107) [(.s 111), (.s 114), (cb false)]),
 o 116 (.un .not (.s 115)), o 109 (.mv (.s 116))]) (.cond (.s 109) .skip (.region false [ o 117 (.faddr 2 (.s 17)), o 118 (.load true 4 (.s 117)), o 119 (.mv (.s 10)),
 o 120 (.call false (cf 108) [(.s 118), (.s 119)]), o 121 (.un .not (.s 120)), o 109 (.mv (.s 121))]))) (.cond (.s 109) (.seq (.region false [ o 8 (.mv (ci 60)),
 o 9 (.mv (ci (-1)))]) .ret) .skip)))))))) (.region false [ o 122 (.bin .add (.s 88) (ci 1)), o 88 (.mv (.s 122))]))))))) (.seq (.region false [ o 8 (.mv (ci 0)),
 o 9 (.mv (ci (-1)))]) .ret)))))))⟩
end Rg
end

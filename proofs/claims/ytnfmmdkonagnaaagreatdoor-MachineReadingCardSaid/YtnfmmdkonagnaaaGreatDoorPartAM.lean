/- Part of the proof of the laws of the package relyguardlaw11: an abstract machine for the program's functions, what they compute, and that the machine is the program's. No condition. (Fn2) -/
import Derived.Test.YtnfmmdkonagnaaaGreatDoorPartAK
section
/- Functions of the program, as the abstract machine reads them (printed by a program). -/
namespace Rg
open Go
def f84 : F := ⟨56, false, [.s 2, .s 3], (.seq (.region false [ o 1 (.boxL 4 (.s 0)), o 2 (.mv (ci 0)), o 3 (.mv (ci 0))]) (.seq (.seq (.region false [ o 6 (.faddrL 0 (.s 1)),
 o 7 (.loadL false 1 (.s 6)), o 8 (.len (.s 7)), o 9 (.bin .gtr (.s 8) (ci 32)), o 10 (.mv (.s 9)), og 10 false 11 (.faddrL 1 (.s 1)), og 10 false 12 (.loadL false 1 (.s 11)),
 og 10 false 13 (.len (.s 12)), og 10 false 14 (.bin .gtr (.s 13) (ci 6)), o 15 (.pick (.s 10) (cb true) (.s 14)), o 16 (.mv (.s 15)), og 16 false 17 (.faddrL 2 (.s 1)),
 og 16 false 18 (.loadL false 1 (.s 17)), og 16 false 19 (.len (.s 18)), og 16 false 20 (.bin .gtr (.s 19) (ci 4)), o 21 (.pick (.s 16) (cb true) (.s 20)), o 22 (.mv (.s 21)),
 og 22 false 23 (.faddrL 3 (.s 1)), og 22 false 24 (.loadL false 1 (.s 23)), og 22 false 25 (.len (.s 24)), og 22 false 26 (.bin .gtr (.s 25) (ci 4)),
 o 27 (.pick (.s 22) (cb true) (.s 26))]) (.cond (.s 27) (.seq (.region false [ o 2 (.mv (ci 2)), o 3 (.mv (ci (-1)))]) .ret) .skip)) (.seq (.seq (.region false [ o 4 (.mv (ci 0))])
 (.block 0 (.loop (.seq (.seq (.region false [ o 28 (.mv (.s 4)), o 29 (.faddrL 3 (.s 1)), o 30 (.loadL false 1 (.s 29)), o 31 (.len (.s 30)), o 32 (.bin .lss (.s 28) (.s 31))])
 (.cond (.s 32) .skip (.exit 0))) (.seq (.block 1 (.seq (.region false [ o 35 (.faddrL 3 (.s 1)), o 36 (.loadL false 1 (.s 35)), o 37 (.mv (.s 4)), o 38 (.iaddrS 7 (.s 36) (.s 37)),
 o 39 (.load true 7 (.s 38)), o 5 (.allocL [(.t (.str (bs []))), (.t (.int .i64 0)), (.t .nils), (.t .nils), (.t .nils), (.t .nils), (.t (.bool false))]),
 on (.storeL 7 (.s 5) (.s 39))]) (.seq (.region false [ o 40 (.faddrL 1 (.s 5)), o 41 (.loadL false 1 (.s 40)), o 42 (.bin .gtr (.s 41) (ci 48)), o 43 (.mv (.s 42)),
 og 43 false 44 (.faddrL 4 (.s 5)), og 43 false 45 (.loadL false 1 (.s 44)), og 43 false 46 (.len (.s 45)), og 43 false 47 (.bin .gtr (.s 46) (ci 64)),
 o 48 (.pick (.s 43) (cb true) (.s 47)), o 49 (.mv (.s 48)), og 49 false 50 (.faddrL 5 (.s 5)), og 49 false 51 (.loadL false 1 (.s 50)), og 49 false 52 (.len (.s 51)),
 og 49 false 53 (.bin .gtr (.s 52) (ci 8)), o 54 (.pick (.s 49) (cb true) (.s 53))]) (.cond (.s 54) (.seq (.region false [ o 55 (.mv (.s 4)), o 2 (.mv (ci 2)), o 3 (.mv (.s 55))])
 .ret) .skip)))) (.region false [ o 33 (.mv (.s 4)), o 34 (.bin .add (.s 33) (ci 1)), o 4 (.mv (.s 34))])))))) (.seq (.region false [ o 2 (.mv (ci 0)), o 3 (.mv (ci (-1)))])
 .ret))))⟩
def f85 : F := ⟨81, false, [.s 2], (.seq (.region false [ o 1 (.boxL 4 (.s 0)), o 2 (.mv (ci 0))]) (.seq (.seq (.region false [ o 3 (.mv (ci 0))]) (.block 0 (.loop (.seq (.seq
 (.region false [ o 6 (.mv (.s 3)), o 7 (.faddrL 0 (.s 1)), o 8 (.loadL false 1 (.s 7)), o 9 (.len (.s 8)), o 10 (.bin .lss (.s 6) (.s 9))]) (.cond (.s 10) .skip (.exit 0))) (.seq
 (.block 1 (.seq (.region false [ o 13 (.faddrL 0 (.s 1)), o 14 (.loadL false 1 (.s 13)), o 15 (.mv (.s 3)), o 16 (.iaddrS 6 (.s 14) (.s 15)), o 17 (.load true 6 (.s 16)),
 o 4 (.allocL [(.t (.str (bs []))), (.t (.int .i64 0)), (.t (.int .i64 0)), (.t (.int .i64 0)), (.t (.bool false)), (.t (.int .i64 0))]), on (.storeL 6 (.s 4) (.s 17))]) (.seq (.seq
 (.region true [ o 18 (.faddrL 0 (.s 4)), o 19 (.loadL false 1 (.s 18)), o 20 (.call false (cf 109) [(.s 19)]), o 21 (.un .not (.s 20)), o 22 (.mv (.s 21)),
 og 22 false 23 (.faddrL 1 (.s 4)), og 22 false 24 (.loadL false 1 (.s 23)), og 22 false 25 (.bin .lss (.s 24) (ci 1)), o 26 (.pick (.s 22) (cb true) (.s 25)), o 27 (.mv (.s 26)),
 og 27 false 28 (.faddrL 1 (.s 4)), og 27 false 29 (.loadL false 1 (.s 28)), og 27 false 30 (.bin .gtr (.s 29) (ci 8)), o 31 (.pick (.s 27) (cb true) (.s 30)), o 32 (.mv (.s 31)),
 og 32 false 33 (.faddrL 2 (.s 4)), og 32 false 34 (.loadL false 1 (.s 33)), og 32 false 35 (.bin .lss (.s 34) (ci 0)), o 36 (.pick (.s 32) (cb true) (.s 35)), o 37 (.mv (.s 36)),
 og 37 false 38 (.faddrL 2 (.s 4)), og 37 false 39 (.loadL false 1 (.s 38)), og 37 false 40 (.faddrL 1 (.s 4)), og 37 false 41 (.loadL false 1 (.s 40)),
 og 37 false 42 (.call false (cf 33) [(.s 41)]), og 37 false 43 (.bin .geq (.s 39) (.s 42)), o 44 (.pick (.s 37) (cb true) (.s 43)), o 45 (.mv (.s 44)),
 og 45 false 46 (.faddrL 3 (.s 4)), og 45 false 47 (.loadL false 1 (.s 46)), og 45 false 48 (.bin .lss (.s 47) (ci (-1))), o 49 (.pick (.s 45) (cb true) (.s 48)), o 50 (.mv (.s 49)),
 og 50 false 51 (.faddrL 3 (.s 4)), og 50 false 52 (.loadL false 1 (.s 51)), og 50 false 53 (.faddrL 3 (.s 1)), og 50 false 54 (.loadL false 1 (.s 53)),
 og 50 false 55 (.len (.s 54)), og 50 false 56 (.bin .geq (.s 52) (.s 55)), o 57 (.pick (.s 50) (cb true) (.s 56)), o 58 (.mv (.s 57)), og 58 false 59 (.faddrL 5 (.s 4)),
 og 58 false 60 (.loadL false 1 (.s 59)), og 58 false 61 (.faddrL 1 (.s 1)), og 58 false 62 (.loadL false 1 (.s 61)), og 58 false 63 (.len (.s 62)),
 og 58 false 64 (.call false (cf 110) [(.s 60), (.s 63)]), og 58 false 65 (.un .not (.s 64)), o 66 (.pick (.s 58) (cb true) (.s 65))]) (.cond (.s 66) (.seq (.region false [
 o 2 (.mv (ci 1))]) .ret) .skip)) (.seq (.region false [ o 5 (.mv (ci 0))]) (.block 2 (.loop (.seq (.seq (.region false [ o 67 (.mv (.s 5)), o 68 (.mv (.s 3)),
 o 69 (.bin .lss (.s 67) (.s 68))]) (.cond (.s 69) .skip (.exit 2))) (.seq (.block 3 (.seq (.region true [ o 72 (.faddrL 0 (.s 1)), o 73 (.loadL false 1 (.s 72)), o 74 (.mv (.s 5)),
 o 75 (.iaddrS 6 (.s 73) (.s 74)), o 76 (.faddr 0 (.s 75)), o 77 (.load false 1 (.s 76)), o 78 (.faddrL 0 (.s 4)), o 79 (.loadL false 1 (.s 78)), o 80 (.bin .eql (.s 77) (.s 79))])
 (.cond (.s 80) (.seq (.region false [ o 2 (.mv (ci 41))]) .ret) .skip))) (.region false [ o 70 (.mv (.s 5)), o 71 (.bin .add (.s 70) (ci 1)), o 5 (.mv (.s 71))])))))))))
 (.region false [ o 11 (.mv (.s 3)), o 12 (.bin .add (.s 11) (ci 1)), o 3 (.mv (.s 12))])))))) (.seq (.region false [ o 2 (.mv (ci 0))]) .ret)))⟩
def f86 : F := ⟨95, false, [.s 2], (.seq (.region false [ o 1 (.boxL 4 (.s 0)), o 2 (.mv (ci 0))]) (.seq (.seq (.region false [ o 3 (.mv (ci 0))]) (.block 0 (.loop (.seq (.seq
 (.region false [ o 7 (.mv (.s 3)), o 8 (.faddrL 1 (.s 1)), o 9 (.loadL false 1 (.s 8)), o 10 (.len (.s 9)), o 11 (.bin .lss (.s 7) (.s 10))]) (.cond (.s 11) .skip (.exit 0))) (.seq
 (.block 1 (.seq (.region false [ o 14 (.faddrL 1 (.s 1)), o 15 (.loadL false 1 (.s 14)), o 16 (.mv (.s 3)), o 17 (.iaddrS 11 (.s 15) (.s 16)), o 18 (.load true 11 (.s 17)),
 o 4 (.allocL [(.t (.str (bs []))), (.t (.str (bs []))), (.t (.int .i64 0)), (.t (.int .i64 0)), (.t (.int .i64 0)), (.t .nils), (.t (.int .i64 0)), (.t (.int .i64 0)), (.t (.int .i64 0)), (.t .nils), (.t .nils)]),
 on (.storeL 11 (.s 4) (.s 18))]) (.seq (.seq (.region false [ o 19 (.faddrL 0 (.s 4)), o 20 (.loadL false 1 (.s 19)), o 21 (.call false (cf 109) [(.s 20)]), o 22 (.un .not (.s 21)),
 o 23 (.mv (.s 22)), og 23 false 24 (.faddrL 1 (.s 4)), og 23 false 25 (.loadL false 1 (.s 24)), og 23 false 26 (.call false (cf 109) [(.s 25)]), og 23 false 27 (.un .not (.s 26)),
 o 28 (.pick (.s 23) (cb true) (.s 27))]) (.cond (.s 28) (.seq (.region false [ o 2 (.mv (ci 1))]) .ret) .skip)) (.seq (.seq (.region false [ o 5 (.mv (ci 0))]) (.block 2 (.loop
 (.seq (.seq (.region false [ o 29 (.mv (.s 5)), o 30 (.mv (.s 3)), o 31 (.bin .lss (.s 29) (.s 30))]) (.cond (.s 31) .skip (.exit 2))) (.seq (.block 3 (.seq (.region true [
 o 34 (.faddrL 1 (.s 1)), o 35 (.loadL false 1 (.s 34)), o 36 (.mv (.s 5)), o 37 (.iaddrS 11 (.s 35) (.s 36)), o 38 (.faddr 0 (.s 37)), o 39 (.load false 1 (.s 38)),
 o 40 (.faddrL 0 (.s 4)), o 41 (.loadL false 1 (.s 40)), o 42 (.bin .eql (.s 39) (.s 41))]) (.cond (.s 42) (.seq (.region false [ o 2 (.mv (ci 41))]) .ret) .skip))) (.region false [
 o 32 (.mv (.s 5)), o 33 (.bin .add (.s 32) (ci 1)), o 5 (.mv (.s 33))])))))) (.seq (.seq (.region false [ o 43 (.faddrL 2 (.s 4)), o 44 (.loadL true 4 (.s 43)),
 o 45 (.call false (cf 111) [(.s 44)]), o 46 (.un .not (.s 45)), o 47 (.mv (.s 46)), og 47 true 48 (.loadL true 4 (.s 1)), og 47 true 49 (.faddrL 2 (.s 4)),
 og 47 true 50 (.loadL true 4 (.s 49)), og 47 true 51 (.call false (cf 112) [(.s 48), (.s 50), (cb true), (ci (-1))]), og 47 true 52 (.un .not (.s 51)),
 o 53 (.pick (.s 47) (.s 52) (cb false)), o 54 (.mv (.s 53)), og 54 false 55 (.loadL true 4 (.s 1)), og 54 false 56 (.faddrL 6 (.s 4)), og 54 false 57 (.loadL true 4 (.s 56)),
 og 54 false 58 (.call false (cf 112) [(.s 55), (.s 57), (cb true), (ci (-1))]), og 54 false 59 (.un .not (.s 58)), o 60 (.pick (.s 54) (cb true) (.s 59))]) (.cond (.s 60) (.seq
 (.region false [ o 2 (.mv (ci 60))]) .ret) .skip)) (.seq (.seq (.region false [ o 6 (.mv (ci 0))]) (.block 4 (.loop (.seq (.seq (.region false [ o 61 (.mv (.s 6)),
 o 62 (.faddrL 10 (.s 4)), o 63 (.loadL false 1 (.s 62)), o 64 (.len (.s 63)), o 65 (.bin .lss (.s 61) (.s 64))]) (.cond (.s 65) .skip (.exit 4))) (.seq (.block 5 (.seq
 (.region true [ o 68 (.faddrL 10 (.s 4)), o 69 (.loadL false 1 (.s 68)), o 70 (.mv (.s 6)), o 71 (.iaddrS 1 (.s 69) (.s 70)), o 72 (.load false 1 (.s 71)), o 73 (.faddrL 0 (.s 1)),
 o 74 (.loadL false 1 (.s 73)), o 75 (.len (.s 74)), o 76 (.call false (cf 110) [(.s 72), (.s 75)]), o 77 (.un .not (.s 76)), o 78 (.mv (.s 77)), og 78 false 79 (.faddrL 0 (.s 1)),
 og 78 false 80 (.loadL false 1 (.s 79)), og 78 false 81 (.faddrL 10 (.s 4)), og 78 false 82 (.loadL false 1 (.s 81)), og 78 false 83 (.mv (.s 6)),
 og 78 false 84 (.iaddrS 1 (.s 82) (.s 83)), og 78 false 85 (.load false 1 (.s 84)), og 78 false 86 (.iaddrS 6 (.s 80) (.s 85)), og 78 false 87 (.faddr 3 (.s 86)),
 og 78 false 88 (.load false 1 (.s 87)), og 78 false 89 (.bin .neq (.s 88) (ci (-1))), o 90 (.pick (.s 78) (cb true) (.s 89))]) (.cond (.s 90) (.seq (.region false [
 o 2 (.mv (ci 1))]) .ret) .skip))) (.region false [ o 66 (.mv (.s 6)), o 67 (.bin .add (.s 66) (ci 1)), o 6 (.mv (.s 67))])))))) (.seq (.region false [ o 91 (.faddrL 10 (.s 4)),
 o 92 (.loadL false 1 (.s 91)), o 93 (.call false (cf 113) [(.s 92)]), o 94 (.un .not (.s 93))]) (.cond (.s 94) (.seq (.region false [ o 2 (.mv (ci 1))]) .ret) .skip))))))))
 (.region false [ o 12 (.mv (.s 3)), o 13 (.bin .add (.s 12) (ci 1)), o 3 (.mv (.s 13))])))))) (.seq (.region false [ o 2 (.mv (ci 0))]) .ret)))⟩
def f87 : F := ⟨82, false, [.s 2], (.seq (.region false [ o 1 (.boxL 4 (.s 0)), o 2 (.mv (ci 0))]) (.seq (.seq (.region false [ o 3 (.mv (ci 0))]) (.block 0 (.loop (.seq (.seq
 (.region false [ o 6 (.mv (.s 3)), o 7 (.faddrL 2 (.s 1)), o 8 (.loadL false 1 (.s 7)), o 9 (.len (.s 8)), o 10 (.bin .lss (.s 6) (.s 9))]) (.cond (.s 10) .skip (.exit 0))) (.seq
 (.block 1 (.seq (.region false [ o 13 (.faddrL 2 (.s 1)), o 14 (.loadL false 1 (.s 13)), o 15 (.mv (.s 3)), o 16 (.iaddrS 6 (.s 14) (.s 15)), o 17 (.load true 6 (.s 16)),
 o 4 (.allocL [(.t (.int .i64 0)), (.t (.int .i64 0)), (.t (.int .i64 0)), (.t (.int .i64 0)), (.t .nils), (.t (.int .i64 0))]), on (.storeL 6 (.s 4) (.s 17))]) (.seq (.seq
 (.region false [ o 18 (.faddrL 0 (.s 4)), o 19 (.loadL false 1 (.s 18)), o 20 (.faddrL 0 (.s 1)), o 21 (.loadL false 1 (.s 20)), o 22 (.len (.s 21)),
 o 23 (.call false (cf 110) [(.s 19), (.s 22)]), o 24 (.un .not (.s 23)), o 25 (.mv (.s 24)), og 25 false 26 (.faddrL 0 (.s 1)), og 25 false 27 (.loadL false 1 (.s 26)),
 og 25 false 28 (.faddrL 0 (.s 4)), og 25 false 29 (.loadL false 1 (.s 28)), og 25 false 30 (.iaddrS 6 (.s 27) (.s 29)), og 25 false 31 (.faddr 3 (.s 30)),
 og 25 false 32 (.load false 1 (.s 31)), og 25 false 33 (.bin .neq (.s 32) (ci (-1))), o 34 (.pick (.s 25) (cb true) (.s 33)), o 35 (.mv (.s 34)), og 35 false 36 (.faddrL 0 (.s 1)),
 og 35 false 37 (.loadL false 1 (.s 36)), og 35 false 38 (.faddrL 0 (.s 4)), og 35 false 39 (.loadL false 1 (.s 38)), og 35 false 40 (.iaddrS 6 (.s 37) (.s 39)),
 og 35 false 41 (.faddr 1 (.s 40)), og 35 false 42 (.load false 1 (.s 41)), og 35 false 43 (.bin .neq (.s 42) (ci 1)), o 44 (.pick (.s 35) (cb true) (.s 43)), o 45 (.mv (.s 44)),
 og 45 false 46 (.faddrL 0 (.s 1)), og 45 false 47 (.loadL false 1 (.s 46)), og 45 false 48 (.faddrL 0 (.s 4)), og 45 false 49 (.loadL false 1 (.s 48)),
 og 45 false 50 (.iaddrS 6 (.s 47) (.s 49)), og 45 false 51 (.faddr 4 (.s 50)), og 45 false 52 (.load false 1 (.s 51)), o 53 (.pick (.s 45) (cb true) (.s 52)), o 54 (.mv (.s 53)),
 og 54 false 55 (.faddrL 5 (.s 4)), og 54 false 56 (.loadL false 1 (.s 55)), og 54 false 57 (.faddrL 1 (.s 1)), og 54 false 58 (.loadL false 1 (.s 57)),
 og 54 false 59 (.len (.s 58)), og 54 false 60 (.call false (cf 110) [(.s 56), (.s 59)]), og 54 false 61 (.un .not (.s 60)), o 62 (.pick (.s 54) (cb true) (.s 61))]) (.cond (.s 62)
 (.seq (.region false [ o 2 (.mv (ci 1))]) .ret) .skip)) (.seq (.seq (.region false [ o 5 (.mv (ci 0))]) (.block 2 (.loop (.seq (.seq (.region false [ o 63 (.mv (.s 5)),
 o 64 (.mv (.s 3)), o 65 (.bin .lss (.s 63) (.s 64))]) (.cond (.s 65) .skip (.exit 2))) (.seq (.block 3 (.seq (.region true [ o 68 (.faddrL 2 (.s 1)), o 69 (.loadL false 1 (.s 68)),
 o 70 (.mv (.s 5)), o 71 (.iaddrS 6 (.s 69) (.s 70)), o 72 (.faddr 0 (.s 71)), o 73 (.load false 1 (.s 72)), o 74 (.faddrL 0 (.s 4)), o 75 (.loadL false 1 (.s 74)),
 o 76 (.bin .eql (.s 73) (.s 75))]) (.cond (.s 76) (.seq (.region false [ o 2 (.mv (ci 1))]) .ret) .skip))) (.region false [ o 66 (.mv (.s 5)), o 67 (.bin .add (.s 66) (ci 1)),
 o 5 (.mv (.s 67))])))))) (.seq (.region false [ o 77 (.loadL true 4 (.s 1)), o 78 (.faddrL 1 (.s 4)), o 79 (.loadL true 4 (.s 78)),
 o 80 (.call false (cf 112) [(.s 77), (.s 79), (cb false), (ci (-1))]), o 81 (.un .not (.s 80))]) (.cond (.s 81) (.seq (.region false [ o 2 (.mv (ci 60))]) .ret) .skip))))))
 (.region false [ o 11 (.mv (.s 3)), o 12 (.bin .add (.s 11) (ci 1)), o 3 (.mv (.s 12))])))))) (.seq (.region false [ o 2 (.mv (ci 0))]) .ret)))⟩
def f88 : F := ⟨173, false, [.s 4, .s 5], (.seq (.region false [ o 2 (.boxL 4 (.s 0)), o 4 (.mv (ci 0)), o 5 (.mv (ci 0))]) (.seq (.region false [ o 15 (.faddrL 3 (.s 2)),
 o 16 (.loadL false 1 (.s 15)), o 17 (.mv (.s 1)), o 18 (.iaddrS 7 (.s 16) (.s 17)), o 19 (.load true 7 (.s 18)),
 o 6 (.allocL [(.t (.str (bs []))), (.t (.int .i64 0)), (.t .nils), (.t .nils), (.t .nils), (.t .nils), (.t (.bool false))]), on (.storeL 7 (.s 6) (.s 19))]) (.seq (.seq
 (.region false [ o 20 (.faddrL 0 (.s 6)), o 21 (.loadL false 1 (.s 20)), o 22 (.call false (cf 109) [(.s 21)]), o 23 (.un .not (.s 22))]) (.cond (.s 23) (.seq (.region false [
 o 4 (.mv (ci 1)), o 5 (.mv (ci (-1)))]) .ret) .skip)) (.seq (.seq (.region false [ o 7 (.mv (ci 0))]) (.block 0 (.loop (.seq (.seq (.region false [ o 24 (.mv (.s 7)),
 o 25 (.mv (.s 1)), o 26 (.bin .lss (.s 24) (.s 25))]) (.cond (.s 26) .skip (.exit 0))) (.seq (.block 1 (.seq (.region true [ o 29 (.faddrL 3 (.s 2)), o 30 (.loadL false 1 (.s 29)),
 o 31 (.mv (.s 7)), o 32 (.iaddrS 7 (.s 30) (.s 31)), o 33 (.faddr 0 (.s 32)), o 34 (.load false 1 (.s 33)), o 35 (.faddrL 0 (.s 6)), o 36 (.loadL false 1 (.s 35)),
 o 37 (.bin .eql (.s 34) (.s 36))]) (.cond (.s 37) (.seq (.region false [ o 4 (.mv (ci 41)), o 5 (.mv (ci (-1)))]) .ret) .skip))) (.region false [ o 27 (.mv (.s 7)),
 o 28 (.bin .add (.s 27) (ci 1)), o 7 (.mv (.s 28))])))))) (.seq (.seq (.region false [ o 38 (.faddrL 1 (.s 6)), o 39 (.loadL false 1 (.s 38)), o 40 (.bin .lss (.s 39) (ci 1)),
 o 41 (.mv (.s 40)), og 41 false 42 (.faddrL 2 (.s 6)), og 41 false 43 (.loadL false 1 (.s 42)), og 41 false 44 (.len (.s 43)), og 41 false 45 (.faddrL 1 (.s 6)),
 og 41 false 46 (.loadL false 1 (.s 45)), og 41 false 47 (.bin .neq (.s 44) (.s 46)), o 48 (.pick (.s 41) (cb true) (.s 47)), o 49 (.mv (.s 48)), og 49 false 50 (.faddrL 3 (.s 6)),
 og 49 false 51 (.loadL false 1 (.s 50)), og 49 false 52 (.len (.s 51)), og 49 false 53 (.faddrL 1 (.s 6)), og 49 false 54 (.loadL false 1 (.s 53)),
 og 49 false 55 (.bin .neq (.s 52) (.s 54)), o 56 (.pick (.s 49) (cb true) (.s 55))]) (.cond (.s 56) (.seq (.region false [ o 4 (.mv (ci 1)), o 5 (.mv (ci (-1)))]) .ret) .skip))
 (.seq (.seq (.region false [ o 8 (.mv (ci 0))]) (.block 2 (.loop (.seq (.seq (.region false [ o 57 (.mv (.s 8)), o 58 (.faddrL 3 (.s 6)), o 59 (.loadL false 1 (.s 58)),
 o 60 (.len (.s 59)), o 61 (.bin .lss (.s 57) (.s 60))]) (.cond (.s 61) .skip (.exit 2))) (.seq (.block 3 (.seq (.region true [ o 64 (.faddrL 3 (.s 6)),
 o 65 (.loadL false 1 (.s 64)), o 66 (.mv (.s 8)), o 67 (.iaddrS 1 (.s 65) (.s 66)), o 68 (.load false 1 (.s 67)), o 69 (.faddrL 1 (.s 2)), o 70 (.loadL false 1 (.s 69)),
 o 71 (.len (.s 70)), o 72 (.call false (cf 110) [(.s 68), (.s 71)]), o 73 (.un .not (.s 72))]) (.cond (.s 73) (.seq (.region false [ o 4 (.mv (ci 1)), o 5 (.mv (ci (-1)))]) .ret)
 .skip))) (.region false [ o 62 (.mv (.s 8)), o 63 (.bin .add (.s 62) (ci 1)), o 8 (.mv (.s 63))])))))) (.seq (.seq (.region false [ o 9 (.mv (ci 0))]) (.block 4 (.loop (.seq (.seq
 (.region false [ o 74 (.mv (.s 9)), o 75 (.faddrL 2 (.s 6)), o 76 (.loadL false 1 (.s 75)), o 77 (.len (.s 76)), o 78 (.bin .lss (.s 74) (.s 77))]) (.cond (.s 78) .skip (.exit 4)))
 (.seq (.block 5 (.seq (.region true [ o 81 (.loadL true 4 (.s 2)), o 82 (.faddrL 2 (.s 6)), o 83 (.loadL false 1 (.s 82)), o 84 (.mv (.s 9)), o 85 (.iaddrS 4 (.s 83) (.s 84)),
 o 86 (.load true 4 (.s 85)), o 87 (.mv (.s 1)), o 88 (.call false (cf 112) [(.s 81), (.s 86), (cb false), (.s 87)]), o 89 (.un .not (.s 88))]) (.cond (.s 89) (.seq (.region false [
 o 4 (.mv (ci 60)), o 5 (.mv (ci (-1)))]) .ret) .skip))) (.region false [ o 79 (.mv (.s 9)), o 80 (.bin .add (.s 79) (ci 1)), o 9 (.mv (.s 80))])))))) (.seq (.seq (.region false [
 o 10 (.mv (ci 0))]) (.block 6 (.loop (.seq (.seq (.region false [ o 90 (.mv (.s 10)), o 91 (.faddrL 4 (.s 6)), o 92 (.loadL false 1 (.s 91)), o 93 (.len (.s 92)),
 o 94 (.bin .lss (.s 90) (.s 93))]) (.cond (.s 94) .skip (.exit 6))) (.seq (.block 7 (.seq (.region true [ o 97 (.loadL true 4 (.s 2)), o 98 (.mv (.s 1)), o 99 (.faddrL 4 (.s 6)),
 o 100 (.loadL false 1 (.s 99)), o 101 (.mv (.s 10)), o 102 (.iaddrS 11 (.s 100) (.s 101)), o 103 (.load true 11 (.s 102)), o 104 (.call false (cf 114) [(.s 97), (.s 98), (.s 103)]),
 o 11 (.mv (.s 104))]) (.seq (.region false [ o 105 (.mv (.s 11)), o 106 (.bin .neq (.s 105) (ci 0))]) (.cond (.s 106) (.seq (.region false [ o 107 (.mv (.s 11)),
 o 108 (.mv (.s 10)), o 4 (.mv (.s 107)), o 5 (.mv (.s 108))]) .ret) .skip)))) (.region false [ o 95 (.mv (.s 10)), o 96 (.bin .add (.s 95) (ci 1)), o 10 (.mv (.s 96))])))))) (.seq
 (.seq (.region false [ o 12 (.mv (ci 0))]) (.block 8 (.loop (.seq (.seq (.region false [ o 109 (.mv (.s 12)), o 110 (.faddrL 5 (.s 6)), o 111 (.loadL false 1 (.s 110)),
 o 112 (.len (.s 111)), o 113 (.bin .lss (.s 109) (.s 112))]) (.cond (.s 113) .skip (.exit 8))) (.seq (.block 9 (.seq (.region false [ o 116 (.faddrL 5 (.s 6)),
 o 117 (.loadL false 1 (.s 116)), o 118 (.mv (.s 12)), o 119 (.iaddrS 6 (.s 117) (.s 118)), o 120 (.load true 6 (.s 119)),
 o 13 (.allocL [(.t (.int .i64 0)), (.t .nils), (.t (.int .i64 0)), (.t (.int .i64 0)), (.t (.int .i64 0)), (.t .nils)]), on (.storeL 6 (.s 13) (.s 120))]) (.seq (.seq
 (.region false [ o 121 (.faddrL 0 (.s 13)), o 122 (.loadL false 1 (.s 121)), o 123 (.faddrL 1 (.s 6)), o 124 (.loadL false 1 (.s 123)),
 o 125 (.call false (cf 110) [(.s 122), (.s 124)]), o 126 (.un .not (.s 125)), o 127 (.mv (.s 126)), og 127 false 128 (.faddrL 1 (.s 13)), og 127 false 129 (.loadL false 1 (.s 128)),
 og 127 false 130 (.call false (cf 113) [(.s 129)]), og 127 false 131 (.un .not (.s 130)), o 132 (.pick (.s 127) (cb true) (.s 131))]) (.cond (.s 132) (.seq (.region false [
 o 4 (.mv (ci 1)), o 5 (.mv (ci (-1)))]) .ret) .skip)) (.seq (.seq (.region false [ o 14 (.mv (ci 0))]) (.block 10 (.loop (.seq (.seq (.region false [ o 133 (.mv (.s 14)),
 o 134 (.faddrL 1 (.s 13)), o 135 (.loadL false 1 (.s 134)), o 136 (.len (.s 135)), o 137 (.bin .lss (.s 133) (.s 136))]) (.cond (.s 137) .skip (.exit 10))) (.seq (.block 11 (.seq
 (.region true [ o 140 (.faddrL 1 (.s 13)), o 141 (.loadL false 1 (.s 140)), o 142 (.mv (.s 14)), o 143 (.iaddrS 1 (.s 141) (.s 142)), o 144 (.load false 1 (.s 143)),
 o 145 (.faddrL 1 (.s 6)), o 146 (.loadL false 1 (.s 145)), o 147 (.call false (cf 110) [(.s 144), (.s 146)]), o 148 (.un .not (.s 147)), o 149 (.mv (.s 148)),
 og 149 false 150 (.faddrL 1 (.s 13)), og 149 false 151 (.loadL false 1 (.s 150)), og 149 false 152 (.mv (.s 14)), og 149 false 153 (.iaddrS 1 (.s 151) (.s 152)),
 og 149 false 154 (.load false 1 (.s 153)), og 149 false 155 (.faddrL 0 (.s 13)), og 149 false 156 (.loadL false 1 (.s 155)), og 149 false 157 (.bin .eql (.s 154) (.s 156)),
 o 158 (.pick (.s 149) (cb true) (.s 157))]) (.cond (.s 158) (.seq (.region false [ o 4 (.mv (ci 1)), o 5 (.mv (ci (-1)))]) .ret) .skip))) (.region false [ o 138 (.mv (.s 14)),
 o 139 (.bin .add (.s 138) (ci 1)), o 14 (.mv (.s 139))])))))) (.seq (.region false [ o 159 (.faddrL 2 (.s 13)), o 160 (.loadL true 4 (.s 159)), o 161 (.faddrL 0 (.s 2)),
 o 162 (.loadL false 1 (.s 161)), o 163 (.call false (cf 24) [(.s 160), (.s 162), (cb false)]), o 164 (.un .not (.s 163)), o 165 (.mv (.s 164)),
 og 165 false 166 (.loadL true 4 (.s 2)), og 165 false 167 (.faddrL 2 (.s 13)), og 165 false 168 (.loadL true 4 (.s 167)), og 165 false 169 (.mv (.s 1)),
 og 165 false 170 (.call false (cf 115) [(.s 166), (.s 168), (cb true), (.s 169)]), og 165 false 171 (.un .not (.s 170)), o 172 (.pick (.s 165) (cb true) (.s 171))]) (.cond (.s 172)
 (.seq (.region false [ o 4 (.mv (ci 60)), o 5 (.mv (ci (-1)))]) .ret) .skip)))))) (.region false [ o 114 (.mv (.s 12)), o 115 (.bin .add (.s 114) (ci 1)), o 12 (.mv (.s 115))]))))))
 (.seq (.region false [ o 4 (.mv (ci 0)), o 5 (.mv (ci (-1)))]) .ret))))))))))⟩
def f89 : F := ⟨142, false, [.s 2], (.seq (.region false [ o 1 (.boxL 4 (.s 0)), o 2 (.mv (cb false))]) (.seq (.seq (.region true [ o 3 (.faddrL 0 (.s 1)),
 o 4 (.loadL false 1 (.s 3)), o 5 (.call false (cf 116) [(.s 4)]), o 6 (.faddrL 3 (.s 1)), o 7 (.loadL false 1 (.s 6)), o 8 (.len (.s 7)), o 9 (.bin .neq (.s 5) (.s 8)),
 o 10 (.mv (.s 9)), og 10 false 11 (.faddrL 1 (.s 1)), og 10 false 12 (.loadL false 1 (.s 11)), og 10 false 13 (.bin .lss (.s 12) (ci 1)), o 14 (.pick (.s 10) (cb true) (.s 13)),
 o 15 (.mv (.s 14)), og 15 false 16 (.faddrL 1 (.s 1)), og 15 false 17 (.loadL false 1 (.s 16)), og 15 false 18 (.bin .gtr (.s 17) (ci 8)), o 19 (.pick (.s 15) (cb true) (.s 18))])
 (.cond (.s 19) (.seq (.region false [ o 2 (.mv (cb false))]) .ret) .skip)) (.seq (.seq (.region false [ o 20 (.faddrL 0 (.s 1)), o 21 (.loadL false 1 (.s 20))]) (.block 0 (.seq
 (.region false [ o 23 (.bin .eql (.s 21) (ci 1)), o 22 (.mv (.s 23))]) (.cond (.s 22) (.seq (.region true [ o 24 (.faddrL 2 (.s 1)), o 25 (.loadL false 1 (.s 24)),
 o 26 (.bin .geq (.s 25) (ci 0)), o 27 (.mv (.s 26)), og 27 true 28 (.faddrL 2 (.s 1)), og 27 true 29 (.loadL false 1 (.s 28)), og 27 true 30 (.faddrL 1 (.s 1)),
 og 27 true 31 (.loadL false 1 (.s 30)), og 27 true 32 (.call false (cf 33) [(.s 31)]), og 27 true 33 (.bin .lss (.s 29) (.s 32)), o 34 (.pick (.s 27) (.s 33) (cb false)),
 o 2 (.mv (.s 34))]) .ret) (.seq (.seq (.region false [ o 36 (.bin .eql (.s 21) (ci 2)), o 35 (.mv (.s 36))]) (.cond (.s 35) .skip (.region false [ o 37 (.bin .eql (.s 21) (ci 3)),
 o 35 (.mv (.s 37))]))) (.cond (.s 35) (.seq (.region false [ o 38 (.faddrL 2 (.s 1)), o 39 (.loadL false 1 (.s 38)), o 40 (.bin .geq (.s 39) (ci 0)), o 41 (.mv (.s 40)),
 og 41 true 42 (.faddrL 2 (.s 1)), og 41 true 43 (.loadL false 1 (.s 42)), og 41 true 44 (.bin .lss (.s 43) (ci 32)), o 45 (.pick (.s 41) (.s 44) (cb false)), o 2 (.mv (.s 45))])
 .ret) (.seq (.region false [ o 47 (.bin .eql (.s 21) (ci 4)), o 46 (.mv (.s 47))]) (.cond (.s 46) (.seq (.region true [ o 48 (.faddrL 2 (.s 1)), o 49 (.loadL false 1 (.s 48)),
 o 50 (.bin .eql (.s 49) (ci 0)), o 51 (.mv (.s 50)), og 51 true 52 (.faddrL 3 (.s 1)), og 51 true 53 (.loadL false 1 (.s 52)), og 51 true 54 (.iaddrS 4 (.s 53) (ci 0)),
 og 51 true 55 (.faddr 1 (.s 54)), og 51 true 56 (.load false 1 (.s 55)), og 51 true 57 (.faddrL 1 (.s 1)), og 51 true 58 (.loadL false 1 (.s 57)),
 og 51 true 59 (.bin .eql (.s 56) (.s 58)), o 60 (.pick (.s 51) (.s 59) (cb false)), o 2 (.mv (.s 60))]) .ret) (.seq (.seq (.region false [ o 62 (.bin .eql (.s 21) (ci 11)),
 o 61 (.mv (.s 62))]) (.cond (.s 61) .skip (.seq (.region false [ o 63 (.bin .eql (.s 21) (ci 12)), o 61 (.mv (.s 63))]) (.cond (.s 61) .skip (.region false [
 o 64 (.bin .eql (.s 21) (ci 13)), o 61 (.mv (.s 64))]))))) (.cond (.s 61) (.seq (.region true [ o 65 (.faddrL 2 (.s 1)), o 66 (.loadL false 1 (.s 65)),
 o 67 (.bin .eql (.s 66) (ci 0)), o 68 (.mv (.s 67)), og 68 true 69 (.faddrL 1 (.s 1)), og 68 true 70 (.loadL false 1 (.s 69)), og 68 true 71 (.bin .eql (.s 70) (ci 1)),
 o 72 (.pick (.s 68) (.s 71) (cb false)), o 73 (.mv (.s 72)), og 73 true 74 (.faddrL 3 (.s 1)), og 73 true 75 (.loadL false 1 (.s 74)), og 73 true 76 (.iaddrS 4 (.s 75) (ci 0)),
 og 73 true 77 (.faddr 1 (.s 76)), og 73 true 78 (.load false 1 (.s 77)), og 73 true 79 (.faddrL 3 (.s 1)), og 73 true 80 (.loadL false 1 (.s 79)),
 og 73 true 81 (.iaddrS 4 (.s 80) (ci 1)), og 73 true 82 (.faddr 1 (.s 81)), og 73 true 83 (.load false 1 (.s 82)), og 73 true 84 (.bin .eql (.s 78) (.s 83)),
 o 85 (.pick (.s 73) (.s 84) (cb false)), o 2 (.mv (.s 85))]) .ret) (.seq (.region false [ o 87 (.bin .eql (.s 21) (ci 14)), o 86 (.mv (.s 87))]) (.cond (.s 86) (.seq (.region true [
 o 88 (.faddrL 2 (.s 1)), o 89 (.loadL false 1 (.s 88)), o 90 (.bin .eql (.s 89) (ci 0)), o 91 (.mv (.s 90)), og 91 true 92 (.faddrL 3 (.s 1)),
 og 91 true 93 (.loadL false 1 (.s 92)), og 91 true 94 (.iaddrS 4 (.s 93) (ci 0)), og 91 true 95 (.faddr 1 (.s 94)), og 91 true 96 (.load false 1 (.s 95)),
 og 91 true 97 (.bin .eql (.s 96) (ci 1)), o 98 (.pick (.s 91) (.s 97) (cb false)), o 99 (.mv (.s 98)), og 99 true 100 (.faddrL 3 (.s 1)), og 99 true 101 (.loadL false 1 (.s 100)),
 og 99 true 102 (.iaddrS 4 (.s 101) (ci 1)), og 99 true 103 (.faddr 1 (.s 102)), og 99 true 104 (.load false 1 (.s 103)), og 99 true 105 (.faddrL 1 (.s 1)),
 og 99 true 106 (.loadL false 1 (.s 105)), og 99 true 107 (.bin .eql (.s 104) (.s 106)), o 108 (.pick (.s 99) (.s 107) (cb false)), o 109 (.mv (.s 108)),
 og 109 true 110 (.faddrL 3 (.s 1)), og 109 true 111 (.loadL false 1 (.s 110)), og 109 true 112 (.iaddrS 4 (.s 111) (ci 2)), og 109 true 113 (.faddr 1 (.s 112)),
 og 109 true 114 (.load false 1 (.s 113)), og 109 true 115 (.faddrL 1 (.s 1)), og 109 true 116 (.loadL false 1 (.s 115)), og 109 true 117 (.bin .eql (.s 114) (.s 116)),
 o 118 (.pick (.s 109) (.s 117) (cb false)), o 2 (.mv (.s 118))]) .ret) .skip)))))))))))) (.seq (.region true [ o 119 (.faddrL 2 (.s 1)), o 120 (.loadL false 1 (.s 119)),
 o 121 (.bin .eql (.s 120) (ci 0)), o 122 (.mv (.s 121)), og 122 true 123 (.faddrL 3 (.s 1)), og 122 true 124 (.loadL false 1 (.s 123)), og 122 true 125 (.iaddrS 4 (.s 124) (ci 0)),
 og 122 true 126 (.faddr 1 (.s 125)), og 122 true 127 (.load false 1 (.s 126)), og 122 true 128 (.faddrL 1 (.s 1)), og 122 true 129 (.loadL false 1 (.s 128)),
 og 122 true 130 (.bin .eql (.s 127) (.s 129)), o 131 (.pick (.s 122) (.s 130) (cb false)), o 132 (.mv (.s 131)), og 132 true 133 (.faddrL 3 (.s 1)),
 og 132 true 134 (.loadL false 1 (.s 133)), og 132 true 135 (.iaddrS 4 (.s 134) (ci 1)), og 132 true 136 (.faddr 1 (.s 135)), og 132 true 137 (.load false 1 (.s 136)),
 og 132 true 138 (.faddrL 1 (.s 1)), og 132 true 139 (.loadL false 1 (.s 138)), og 132 true 140 (.bin .eql (.s 137) (.s 139)), o 141 (.pick (.s 132) (.s 140) (cb false)),
 o 2 (.mv (.s 141))]) .ret))))⟩
def f90 : F := ⟨50, false, [.s 6], (.seq (.region false [ o 3 (.boxL 4 (.s 0)), o 6 (.mv (ci 0))]) (.seq (.seq (.region false [ o 9 (.faddrL 0 (.s 3)), o 10 (.loadL false 1 (.s 9)),
 o 11 (.bin .eql (.s 10) (ci 2))]) (.cond (.s 11) (.seq (.region true [ o 12 (.mv (.s 2)), o 13 (.faddrL 2 (.s 3)), o 14 (.loadL false 1 (.s 13)),
 o 15 (.call false (cf 118) [(.s 12), (.s 14)]), o 16 (.faddrL 1 (.s 3)), o 17 (.loadL false 1 (.s 16)), o 18 (.call false (cf 117) [(.s 15), (.s 17)]), o 6 (.mv (.s 18))]) .ret)
 .skip)) (.seq (.seq (.region false [ o 19 (.faddrL 0 (.s 3)), o 20 (.loadL false 1 (.s 19)), o 21 (.bin .eql (.s 20) (ci 3))]) (.cond (.s 21) (.seq (.region true [
 o 22 (.mv (.s 1)), o 23 (.faddrL 2 (.s 3)), o 24 (.loadL false 1 (.s 23)), o 25 (.call false (cf 118) [(.s 22), (.s 24)]), o 26 (.faddrL 1 (.s 3)), o 27 (.loadL false 1 (.s 26)),
 o 28 (.call false (cf 117) [(.s 25), (.s 27)]), o 6 (.mv (.s 28))]) .ret) .skip)) (.seq (.region false [ o 7 (.mv (.c (.t .nils)))]) (.seq (.seq (.region false [ o 8 (.mv (ci 0))])
 (.block 0 (.loop (.seq (.seq (.region false [ o 29 (.mv (.s 8)), o 30 (.faddrL 3 (.s 3)), o 31 (.loadL false 1 (.s 30)), o 32 (.len (.s 31)), o 33 (.bin .lss (.s 29) (.s 32))])
 (.cond (.s 33) .skip (.exit 0))) (.seq (.block 1 (.region false [ o 36 (.mv (.s 7)), o 37 (.faddrL 3 (.s 3)), o 38 (.loadL false 1 (.s 37)), o 39 (.mv (.s 8)),
 o 40 (.iaddrS 4 (.s 38) (.s 39)), o 41 (.load true 4 (.s 40)), o 42 (.mv (.s 1)), o 43 (.mv (.s 2)), o 44 (.call false (cf 90) [(.s 41), (.s 42), (.s 43)]),
 o 45 (.bslice 1 1 [(.t (.int .i64 0))] [(0, (.s 44))]), o 46 (.append 1 8 (.s 36) (.s 45)), o 7 (.mv (.s 46))])) (.region false [ o 34 (.mv (.s 8)), o 35 (.bin .add (.s 34) (ci 1)),
 o 8 (.mv (.s 35))])))))) (.seq (.region false [ o 47 (.loadL true 4 (.s 3)), o 48 (.mv (.s 7)), o 49 (.call false (cf 119) [(.s 47), (.s 48)]), o 6 (.mv (.s 49))]) .ret))))))⟩
def f91 : F := ⟨27, false, [.s 4], (.seq (.region false [ o 4 (.mv (cb false))]) (.seq (.seq (.region false [ o 7 (.mv (.s 0)), o 8 (.len (.s 7)), o 9 (.mv (.s 1)),
 o 10 (.len (.s 9)), o 11 (.bin .neq (.s 8) (.s 10))]) (.cond (.s 11) (.seq (.region false [ o 4 (.mv (cb false))]) .ret) .skip)) (.seq (.seq (.region false [ o 12 (.mv (.s 1)),
 o 13 (.len (.s 12)), o 14 (.mv (ci 0))]) (.block 0 (.loop (.seq (.region false [ o 15 (.bin .lss (.s 14) (.s 13))]) (.seq (.cond (.s 15) .skip (.exit 0)) (.seq (.block 1 (.seq
 (.region false [ o 16 (.mv (.s 14)), o 17 (.iaddrS 1 (.s 12) (.s 14)), o 18 (.load false 1 (.s 17)), o 5 (.mv (.s 16)), o 6 (.mv (.s 18))]) (.seq (.region false [ o 19 (.mv (.s 0)),
 o 20 (.mv (.s 5)), o 21 (.iaddrS 4 (.s 19) (.s 20)), o 22 (.faddr 1 (.s 21)), o 23 (.load false 1 (.s 22)), o 24 (.mv (.s 6)), o 25 (.bin .neq (.s 23) (.s 24))]) (.cond (.s 25)
 (.seq (.region false [ o 4 (.mv (cb false))]) .ret) .skip)))) (.region false [ o 26 (.bin .add (.s 14) (ci 1)), o 14 (.mv (.s 26))]))))))) (.seq (.region false [
 o 4 (.mv (cb true))]) .ret))))⟩
def f92 : F := ⟨4, false, [.s 2], (.seq (.region false [ o 2 (.mv (ci 0))]) (.seq (.seq (.region false [ o 3 (.mv (.s 0))]) (.cond (.s 3) (.seq (.region false [ o 2 (.mv (ci 1))])
 .ret) .skip)) (.seq (.region false [ o 2 (.mv (ci 0))]) .ret)))⟩
def f95 : F := ⟨28, false, [.s 2], (.seq (.region false [ o 2 (.mv (cb false))]) (.seq (.seq (.region false [ o 4 (.mv (.s 0)), o 5 (.slen (.s 4)), o 6 (.bin .lss (.s 5) (ci 1)),
 o 7 (.mv (.s 6)), og 7 false 8 (.mv (.s 0)), og 7 false 9 (.slen (.s 8)), og 7 false 10 (.bin .gtr (.s 9) (ci 64)), o 11 (.pick (.s 7) (cb true) (.s 10))]) (.cond (.s 11) (.seq
 (.region false [ o 2 (.mv (cb false))]) .ret) .skip)) (.seq (.seq (.region false [ o 12 (.mv (.s 0)), o 13 (.slen (.s 12)), o 14 (.mv (ci 0))]) (.block 0 (.loop (.seq
 (.region false [ o 15 (.bin .lss (.s 14) (.s 13))]) (.seq (.cond (.s 15) .skip (.exit 0)) (.seq (.block 1 (.seq (.region false [ o 16 (.mv (.s 14)), o 3 (.mv (.s 16))]) (.seq
 (.region false [ o 17 (.mv (.s 0)), o 18 (.mv (.s 3)), o 19 (.idxS (.s 17) (.s 18)), o 20 (.bin .lss (.s 19) (.c (.t (.int .u8 33)))), o 21 (.mv (.s 20)),
 og 21 false 22 (.mv (.s 0)), og 21 false 23 (.mv (.s 3)), og 21 false 24 (.idxS (.s 22) (.s 23)), og 21 false 25 (.bin .gtr (.s 24) (.c (.t (.int .u8 126)))),
 o 26 (.pick (.s 21) (cb true) (.s 25))]) (.cond (.s 26) (.seq (.region false [ o 2 (.mv (cb false))]) .ret) .skip)))) (.region false [ o 27 (.bin .add (.s 14) (ci 1)),
 o 14 (.mv (.s 27))]))))))) (.seq (.region false [ o 2 (.mv (cb true))]) .ret))))⟩
def f96 : F := ⟨12, false, [.s 4], (.seq (.region false [ o 4 (.mv (cb false))]) (.seq (.region false [ o 5 (.mv (.s 0)), o 6 (.bin .geq (.s 5) (ci 0)), o 7 (.mv (.s 6)),
 og 7 true 8 (.mv (.s 0)), og 7 true 9 (.mv (.s 1)), og 7 true 10 (.bin .lss (.s 8) (.s 9)), o 11 (.pick (.s 7) (.s 10) (cb false)), o 4 (.mv (.s 11))]) .ret))⟩
def f97 : F := ⟨17, true, [.s 4], (.seq (.region false [ o 4 (.mv (cb false))]) (.seq (.region false [ o 8 (.mv (.s 0)), o 9 (.mv (.s 1)),
 o 10 (.lookup 2 (.agg []) true (.s 8) (.s 9)), o 7 (.mv (.s 10)), o 11 (.extr (.s 7) 0), o 12 (.extr (.s 7) 1), o 5 (.allocL []), on (.storeL 0 (.s 5) (.s 11)), o 6 (.mv (.s 12))])
 (.seq (.region false [ o 13 (.mv (.s 0)), o 14 (.mv (.s 1)), o 15 (.build [] []), on (.mapupd 2 (.s 13) (.s 14) (.s 15))]) (.seq (.region false [ o 16 (.mv (.s 6)),
 o 4 (.mv (.s 16))]) .ret))))⟩
def f98 : F := ⟨22, false, [.s 2], (.seq (.region false [ o 1 (.boxL 4 (.s 0)), o 2 (.mv (cb false))]) (.seq (.region false [ o 3 (.faddrL 0 (.s 1)), o 4 (.loadL false 1 (.s 3)),
 o 5 (.bin .eql (.s 4) (ci 0)), o 6 (.mv (.s 5)), og 6 true 7 (.faddrL 1 (.s 1)), og 6 true 8 (.loadL false 1 (.s 7)), og 6 true 9 (.bin .eql (.s 8) (ci 0)),
 o 10 (.pick (.s 6) (.s 9) (cb false)), o 11 (.mv (.s 10)), og 11 true 12 (.faddrL 2 (.s 1)), og 11 true 13 (.loadL false 1 (.s 12)), og 11 true 14 (.bin .eql (.s 13) (ci 0)),
 o 15 (.pick (.s 11) (.s 14) (cb false)), o 16 (.mv (.s 15)), og 16 true 17 (.faddrL 3 (.s 1)), og 16 true 18 (.loadL false 1 (.s 17)), og 16 true 19 (.len (.s 18)),
 og 16 true 20 (.bin .eql (.s 19) (ci 0)), o 21 (.pick (.s 16) (.s 20) (cb false)), o 2 (.mv (.s 21))]) .ret))⟩
def f99 : F := ⟨25, false, [.s 8], (.seq (.region false [ o 4 (.boxL 4 (.s 0)), o 5 (.boxL 4 (.s 1)), o 8 (.mv (cb false))]) (.seq (.region false [ o 9 (.faddrL 1 (.s 5)),
 o 10 (.loadL false 1 (.s 9)), o 11 (.bin .eql (.s 10) (ci 1)), o 12 (.mv (.s 11)), og 12 true 13 (.loadL true 4 (.s 5)), og 12 true 14 (.faddrL 0 (.s 4)),
 og 12 true 15 (.faddrL 0 (.s 14)), og 12 true 16 (.loadL false 1 (.s 15)), og 12 true 17 (.mv (.s 2)), og 12 true 18 (.call false (cf 107) [(.s 13), (.s 16), (.s 17)]),
 o 19 (.pick (.s 12) (.s 18) (cb false)), o 20 (.mv (.s 19)), og 20 true 21 (.loadL true 4 (.s 5)), og 20 true 22 (.mv (.s 3)),
 og 20 true 23 (.call false (cf 108) [(.s 21), (.s 22)]), o 24 (.pick (.s 20) (.s 23) (cb false)), o 8 (.mv (.s 24))]) .ret))⟩
def f100 : F := ⟨21, false, [.s 4], (.seq (.region false [ o 2 (.boxL 4 (.s 0)), o 4 (.mv (cb false))]) (.seq (.region false [ o 5 (.mv (.s 1)), o 6 (.faddrL 0 (.s 2)),
 o 7 (.faddrL 0 (.s 6)), o 8 (.loadL false 1 (.s 7)), o 9 (.len (.s 8)), o 10 (.call false (cf 96) [(.s 5), (.s 9)]), o 11 (.mv (.s 10)), og 11 true 12 (.faddrL 0 (.s 2)),
 og 11 true 13 (.faddrL 0 (.s 12)), og 11 true 14 (.loadL false 1 (.s 13)), og 11 true 15 (.mv (.s 1)), og 11 true 16 (.iaddrS 6 (.s 14) (.s 15)), og 11 true 17 (.faddr 3 (.s 16)),
 og 11 true 18 (.load false 1 (.s 17)), og 11 true 19 (.bin .eql (.s 18) (ci (-1))), o 20 (.pick (.s 11) (.s 19) (cb false)), o 4 (.mv (.s 20))]) .ret))⟩
def f101 : F := ⟨20, false, [.s 2], (.seq (.region false [ o 2 (.mv (cb false))]) (.seq (.seq (.region false [ o 3 (.mv (ci 1))]) (.block 0 (.loop (.seq (.seq (.region false [
 o 4 (.mv (.s 3)), o 5 (.mv (.s 0)), o 6 (.len (.s 5)), o 7 (.bin .lss (.s 4) (.s 6))]) (.cond (.s 7) .skip (.exit 0))) (.seq (.block 1 (.seq (.region true [ o 10 (.mv (.s 0)),
 o 11 (.mv (.s 3)), o 12 (.iaddrS 1 (.s 10) (.s 11)), o 13 (.load false 1 (.s 12)), o 14 (.mv (.s 0)), o 15 (.mv (.s 3)), o 16 (.bin .sub (.s 15) (ci 1)),
 o 17 (.iaddrS 1 (.s 14) (.s 16)), o 18 (.load false 1 (.s 17)), o 19 (.bin .leq (.s 13) (.s 18))]) (.cond (.s 19) (.seq (.region false [ o 2 (.mv (cb false))]) .ret) .skip)))
 (.region false [ o 8 (.mv (.s 3)), o 9 (.bin .add (.s 8) (ci 1)), o 3 (.mv (.s 9))])))))) (.seq (.region false [ o 2 (.mv (cb true))]) .ret)))⟩
def f102 : F := ⟨9, false, [.s 4], (.seq (.region false [ o 3 (.boxH 1 (.s 1)), o 4 (.mv (cb false))]) (.seq (.region false [ o 5 (.mv (.s 0)), o 6 (.mkfn 132 [] [(.s 3)]),
 o 7 (.call false (cf 131) [(.s 5), (.s 6)]), o 8 (.un .not (.s 7)), o 4 (.mv (.s 8))]) .ret))⟩
def f103 : F := ⟨10, false, [.s 3], (.seq (.region false [ o 3 (.mv (cb false))]) (.seq (.region false [ o 4 (.mv (.s 0)), o 5 (.faddr 0 (.s 1)), o 6 (.faddr 1 (.s 5)),
 o 7 (.load false 1 (.s 6)), o 8 (.len (.s 7)), o 9 (.call false (cf 96) [(.s 4), (.s 8)]), o 3 (.mv (.s 9))]) .ret))⟩
def f104 : F := ⟨10, false, [.s 4], (.seq (.region false [ o 2 (.boxH 4 (.s 0)), o 4 (.mv (.c (.t .nilf)))]) (.seq (.region false [ o 6 (.load true 4 (.s 2)), o 7 (.mv (.s 1)),
 o 8 (.call false (cf 133) [(.s 6), (.s 7)]), o 5 (.allocH [(.t .nilf)]), on (.store 1 (.s 5) (.s 8))]) (.seq (.region false [ o 9 (.mkfn 134 [] [(.s 2), (.s 5)]), o 4 (.mv (.s 9))])
 .ret)))⟩
def f105 : F := ⟨141, false, [.s 8], (.seq (.region false [ o 4 (.boxL 4 (.s 0)), o 6 (.boxL 7 (.s 2)), o 7 (.boxL 11 (.s 3)), o 8 (.mv (ci 0))]) (.seq (.region false [
 o 15 (.faddrL 0 (.s 7)), o 16 (.loadL false 1 (.s 15)), o 17 (.bin .eql (.s 16) (ci 6)), o 18 (.mv (.s 17)), og 18 false 19 (.faddrL 0 (.s 7)),
 og 18 false 20 (.loadL false 1 (.s 19)), og 18 false 21 (.bin .eql (.s 20) (ci 7)), o 22 (.pick (.s 18) (cb true) (.s 21)), o 9 (.mv (.s 22))]) (.seq (.block 0 (.seq (.seq
 (.region false [ o 24 (.faddrL 0 (.s 7)), o 25 (.loadL false 1 (.s 24)), o 26 (.bin .lss (.s 25) (ci 1)), o 23 (.mv (.s 26))]) (.cond (.s 23) .skip (.region false [
 o 27 (.faddrL 0 (.s 7)), o 28 (.loadL false 1 (.s 27)), o 29 (.bin .gtr (.s 28) (ci 7)), o 23 (.mv (.s 29))]))) (.cond (.s 23) (.seq (.region false [ o 8 (.mv (ci 70))]) .ret) (.seq
 (.seq (.region false [ o 31 (.faddrL 1 (.s 7)), o 32 (.loadL false 1 (.s 31)), o 33 (.faddrL 1 (.s 6)), o 34 (.loadL false 1 (.s 33)), o 35 (.bin .sub (.s 34) (ci 1)),
 o 36 (.call false (cf 96) [(.s 32), (.s 35)]), o 37 (.un .not (.s 36)), o 30 (.mv (.s 37))]) (.cond (.s 30) .skip (.seq (.region false [ o 38 (.faddrL 2 (.s 7)),
 o 39 (.loadL false 1 (.s 38)), o 40 (.faddrL 1 (.s 6)), o 41 (.loadL false 1 (.s 40)), o 42 (.call false (cf 96) [(.s 39), (.s 41)]), o 43 (.un .not (.s 42)), o 30 (.mv (.s 43))])
 (.cond (.s 30) .skip (.region false [ o 44 (.faddrL 10 (.s 7)), o 45 (.loadL false 1 (.s 44)), o 46 (.faddrL 0 (.s 4)), o 47 (.faddrL 1 (.s 46)), o 48 (.loadL false 1 (.s 47)),
 o 49 (.len (.s 48)), o 50 (.call false (cf 96) [(.s 45), (.s 49)]), o 51 (.un .not (.s 50)), o 30 (.mv (.s 51))]))))) (.cond (.s 30) (.seq (.region false [ o 8 (.mv (ci 70))]) .ret)
 (.seq (.seq (.region false [ o 53 (.faddrL 8 (.s 7)), o 54 (.loadL false 1 (.s 53)), o 55 (.mv (.s 54)), og 55 true 56 (.faddrL 0 (.s 7)), og 55 true 57 (.loadL false 1 (.s 56)),
 og 55 true 58 (.bin .neq (.s 57) (ci 3)), o 59 (.pick (.s 55) (.s 58) (cb false)), o 52 (.mv (.s 59))]) (.cond (.s 52) .skip (.region false [ o 60 (.faddrL 9 (.s 7)),
 o 61 (.loadL false 1 (.s 60)), o 62 (.bin .neq (.s 61) (ci 0)), o 63 (.mv (.s 62)), og 63 true 64 (.mv (.s 9)), og 63 true 65 (.un .not (.s 64)),
 o 66 (.pick (.s 63) (.s 65) (cb false)), o 52 (.mv (.s 66))]))) (.cond (.s 52) (.seq (.region false [ o 8 (.mv (ci 70))]) .ret) (.seq (.seq (.region false [ o 68 (.faddrL 3 (.s 7)),
 o 69 (.faddrL 1 (.s 68)), o 70 (.loadL false 1 (.s 69)), o 71 (.bin .neq (.s 70) (ci 1)), o 67 (.mv (.s 71))]) (.cond (.s 67) .skip (.region false [ o 72 (.faddrL 3 (.s 7)),
 o 73 (.loadL true 4 (.s 72)), o 74 (.faddrL 0 (.s 4)), o 75 (.faddrL 0 (.s 74)), o 76 (.loadL false 1 (.s 75)), o 77 (.call false (cf 107) [(.s 73), (.s 76), (cb false)]),
 o 78 (.un .not (.s 77)), o 67 (.mv (.s 78))]))) (.cond (.s 67) (.seq (.region false [ o 8 (.mv (ci 60))]) .ret) .skip))))))))) (.seq (.region false [ o 79 (.mkmap),
 o 10 (.mv (.s 79))]) (.seq (.seq (.region false [ o 80 (.faddrL 7 (.s 7)), o 81 (.loadL false 1 (.s 80)), o 82 (.len (.s 81)), o 83 (.mv (ci 0))]) (.block 1 (.loop (.seq
 (.region false [ o 84 (.bin .lss (.s 83) (.s 82))]) (.seq (.cond (.s 84) .skip (.exit 1)) (.seq (.block 2 (.seq (.region false [ o 85 (.iaddrS 5 (.s 81) (.s 83)),
 o 86 (.load true 5 (.s 85)), o 12 (.allocL [(.t (.int .i64 0)), (.t (.int .i64 0)), (.t (.int .i64 0)), (.t (.int .i64 0)), (.t .nils)]), on (.storeL 5 (.s 12) (.s 86))]) (.seq
 (.seq (.region false [ o 88 (.mv (.s 10)), o 89 (.faddrL 0 (.s 12)), o 90 (.loadL false 1 (.s 89)), o 91 (.lookup 0 (.agg []) true (.s 88) (.s 90)), o 87 (.mv (.s 91)),
 o 92 (.extr (.s 87) 0), o 93 (.extr (.s 87) 1), o 13 (.allocL []), on (.storeL 0 (.s 13) (.s 92)), o 14 (.mv (.s 93))]) (.seq (.region false [ o 94 (.mv (.s 14)),
 o 95 (.mv (.s 94)), og 95 false 96 (.faddrL 0 (.s 12)), og 95 false 97 (.loadL false 1 (.s 96)), og 95 false 98 (.faddrL 0 (.s 4)), og 95 false 99 (.faddrL 0 (.s 98)),
 og 95 false 100 (.loadL false 1 (.s 99)), og 95 false 101 (.len (.s 100)), og 95 false 102 (.call false (cf 96) [(.s 97), (.s 101)]), og 95 false 103 (.un .not (.s 102)),
 o 104 (.pick (.s 95) (cb true) (.s 103))]) (.cond (.s 104) (.seq (.region false [ o 8 (.mv (ci 70))]) .ret) .skip))) (.seq (.region false [ o 105 (.mv (.s 10)),
 o 106 (.faddrL 0 (.s 12)), o 107 (.loadL false 1 (.s 106)), o 108 (.build [] []), on (.mapupd 0 (.s 105) (.s 107) (.s 108))]) (.seq (.region true [ o 109 (.faddrL 1 (.s 12)),
 o 110 (.faddrL 1 (.s 109)), o 111 (.loadL false 1 (.s 110)), o 112 (.faddrL 0 (.s 4)), o 113 (.faddrL 0 (.s 112)), o 114 (.loadL false 1 (.s 113)), o 115 (.faddrL 0 (.s 12)),
 o 116 (.loadL false 1 (.s 115)), o 117 (.iaddrS 6 (.s 114) (.s 116)), o 118 (.faddr 1 (.s 117)), o 119 (.load false 1 (.s 118)), o 120 (.bin .neq (.s 111) (.s 119)),
 o 121 (.mv (.s 120)), og 121 false 122 (.faddrL 1 (.s 12)), og 121 false 123 (.loadL true 4 (.s 122)), og 121 false 124 (.faddrL 0 (.s 4)), og 121 false 125 (.faddrL 0 (.s 124)),
 og 121 false 126 (.loadL false 1 (.s 125)), og 121 false 127 (.call false (cf 107) [(.s 123), (.s 126), (cb false)]), og 121 false 128 (.un .not (.s 127)),
 o 129 (.pick (.s 121) (cb true) (.s 128))]) (.cond (.s 129) (.seq (.region false [ o 8 (.mv (ci 60))]) .ret) .skip)))))) (.region false [ o 130 (.bin .add (.s 83) (ci 1)),
 o 83 (.mv (.s 130))]))))))) (.seq (.seq (.region true [ o 131 (.call false (cf 135) []), o 132 (.faddrL 0 (.s 7)), o 133 (.loadL false 1 (.s 132)),
 o 134 (.idxA true 8 1 (.s 131) (.s 133)), o 135 (.field false 0 1 (.s 134)), o 136 (.loadL true 4 (.s 4)), o 137 (.mv (.s 1)), o 138 (.loadL true 11 (.s 7)),
 o 139 (.call false (.s 135) [(.s 136), (.s 137), (.s 138)]), o 140 (.un .not (.s 139))]) (.cond (.s 140) (.seq (.region false [ o 8 (.mv (ci 70))]) .ret) .skip)) (.seq
 (.region false [ o 8 (.mv (ci 0))]) .ret)))))))⟩
def f106 : F := ⟨15, false, [.s 4], (.seq (.region false [ o 4 (.mv (cb false))]) (.seq (.region false [ o 5 (.mv (.s 0)), o 6 (.faddr 1 (.s 1)), o 7 (.load false 1 (.s 6)),
 o 8 (.call false (cf 96) [(.s 5), (.s 7)]), o 9 (.mv (.s 8)), og 9 true 10 (.mv (.s 0)), og 9 true 11 (.faddr 0 (.s 2)), og 9 true 12 (.load false 1 (.s 11)),
 og 9 true 13 (.bin .neq (.s 10) (.s 12)), o 14 (.pick (.s 9) (.s 13) (cb false)), o 4 (.mv (.s 14))]) .ret))⟩
def f107 : F := ⟨14, false, [.s 6], (.seq (.region false [ o 3 (.boxH 4 (.s 0)), o 4 (.boxH 1 (.s 1)), o 5 (.boxH 1 (.s 2)), o 6 (.mv (cb false))]) (.seq (.seq (.region false [
 o 8 (.load true 4 (.s 3)), o 9 (.call false (cf 51) [(.s 8)]), o 10 (.un .not (.s 9))]) (.cond (.s 10) (.seq (.region false [ o 6 (.mv (cb false))]) .ret) .skip)) (.seq
 (.region false [ o 7 (.allocH [(.t (.bool false))]), on (.store 1 (.s 7) (cb true))]) (.seq (.region false [ o 11 (.mkfn 136 [] [(.s 4), (.s 5), (.s 7)]),
 o 12 (.call true (cf 76) [(.s 3), (.s 11)])]) (.seq (.region false [ o 13 (.load false 1 (.s 7)), o 6 (.mv (.s 13))]) .ret)))))⟩
def f108 : F := ⟨20, false, [.s 4], (.seq (.region false [ o 2 (.boxL 4 (.s 0)), o 4 (.mv (cb false))]) (.seq (.region false [ o 8 (.loadL true 4 (.s 2)),
 o 9 (.call true (cf 60) [(.s 8)]), o 7 (.mv (.s 9)), o 10 (.extr (.s 7) 0), o 11 (.extr (.s 7) 1), o 5 (.mv (.s 10)), o 6 (.mv (.s 11))]) (.seq (.region false [ o 12 (.mv (.s 5)),
 o 13 (.mv (.s 1)), o 14 (.call false (cf 102) [(.s 12), (.s 13)]), o 15 (.mv (.s 14)), og 15 true 16 (.mv (.s 6)), og 15 true 17 (.mv (.s 1)),
 og 15 true 18 (.call false (cf 102) [(.s 16), (.s 17)]), o 19 (.pick (.s 15) (.s 18) (cb false)), o 4 (.mv (.s 19))]) .ret)))⟩
def f109 : F := ⟨28, false, [.s 2], (.seq (.region false [ o 2 (.mv (cb false))]) (.seq (.seq (.region false [ o 3 (.mv (ci 0))]) (.block 0 (.loop (.seq (.seq (.region false [
 o 4 (.mv (.s 3)), o 5 (.mv (.s 0)), o 6 (.slen (.s 5)), o 7 (.bin .lss (.s 4) (.s 6))]) (.cond (.s 7) .skip (.exit 0))) (.seq (.block 1 (.seq (.region false [ o 10 (.mv (.s 0)),
 o 11 (.mv (.s 3)), o 12 (.idxS (.s 10) (.s 11)), o 13 (.bin .lss (.s 12) (.c (.t (.int .u8 33)))), o 14 (.mv (.s 13)), og 14 false 15 (.mv (.s 0)), og 14 false 16 (.mv (.s 3)),
 og 14 false 17 (.idxS (.s 15) (.s 16)), og 14 false 18 (.bin .gtr (.s 17) (.c (.t (.int .u8 126)))), o 19 (.pick (.s 14) (cb true) (.s 18))]) (.cond (.s 19) (.seq (.region false [
 o 2 (.mv (cb false))]) .ret) .skip))) (.region false [ o 8 (.mv (.s 3)), o 9 (.bin .add (.s 8) (ci 1)), o 3 (.mv (.s 9))])))))) (.seq (.region false [ o 20 (.mv (.s 0)),
 o 21 (.slen (.s 20)), o 22 (.bin .geq (.s 21) (ci 1)), o 23 (.mv (.s 22)), og 23 true 24 (.mv (.s 0)), og 23 true 25 (.slen (.s 24)), og 23 true 26 (.bin .leq (.s 25) (ci 64)),
 o 27 (.pick (.s 23) (.s 26) (cb false)), o 2 (.mv (.s 27))]) .ret)))⟩
def f110 : F := ⟨12, false, [.s 4], (.seq (.region false [ o 4 (.mv (cb false))]) (.seq (.region false [ o 5 (.mv (.s 0)), o 6 (.bin .geq (.s 5) (ci 0)), o 7 (.mv (.s 6)),
 og 7 true 8 (.mv (.s 0)), og 7 true 9 (.mv (.s 1)), og 7 true 10 (.bin .lss (.s 8) (.s 9)), o 11 (.pick (.s 7) (.s 10) (cb false)), o 4 (.mv (.s 11))]) .ret))⟩
def f111 : F := ⟨22, false, [.s 2], (.seq (.region false [ o 1 (.boxL 4 (.s 0)), o 2 (.mv (cb false))]) (.seq (.region false [ o 3 (.faddrL 0 (.s 1)), o 4 (.loadL false 1 (.s 3)),
 o 5 (.bin .eql (.s 4) (ci 0)), o 6 (.mv (.s 5)), og 6 true 7 (.faddrL 1 (.s 1)), og 6 true 8 (.loadL false 1 (.s 7)), og 6 true 9 (.bin .eql (.s 8) (ci 0)),
 o 10 (.pick (.s 6) (.s 9) (cb false)), o 11 (.mv (.s 10)), og 11 true 12 (.faddrL 2 (.s 1)), og 11 true 13 (.loadL false 1 (.s 12)), og 11 true 14 (.bin .eql (.s 13) (ci 0)),
 o 15 (.pick (.s 11) (.s 14) (cb false)), o 16 (.mv (.s 15)), og 16 true 17 (.faddrL 3 (.s 1)), og 16 true 18 (.loadL false 1 (.s 17)), og 16 true 19 (.len (.s 18)),
 og 16 true 20 (.bin .eql (.s 19) (ci 0)), o 21 (.pick (.s 16) (.s 20) (cb false)), o 2 (.mv (.s 21))]) .ret))⟩
def f112 : F := ⟨25, false, [.s 8], (.seq (.region false [ o 4 (.boxL 4 (.s 0)), o 5 (.boxL 4 (.s 1)), o 8 (.mv (cb false))]) (.seq (.region false [ o 9 (.loadL true 4 (.s 5)),
 o 10 (.faddrL 0 (.s 4)), o 11 (.loadL false 1 (.s 10)), o 12 (.mv (.s 2)), o 13 (.call false (cf 24) [(.s 9), (.s 11), (.s 12)]), o 14 (.mv (.s 13)),
 og 14 true 15 (.faddrL 1 (.s 5)), og 14 true 16 (.loadL false 1 (.s 15)), og 14 true 17 (.bin .eql (.s 16) (ci 1)), o 18 (.pick (.s 14) (.s 17) (cb false)), o 19 (.mv (.s 18)),
 og 19 true 20 (.loadL true 4 (.s 4)), og 19 true 21 (.loadL true 4 (.s 5)), og 19 true 22 (.mv (.s 3)), og 19 true 23 (.call false (cf 115) [(.s 20), (.s 21), (cb true), (.s 22)]),
 o 24 (.pick (.s 19) (.s 23) (cb false)), o 8 (.mv (.s 24))]) .ret))⟩
def f113 : F := ⟨20, false, [.s 2], (.seq (.region false [ o 2 (.mv (cb false))]) (.seq (.seq (.region false [ o 3 (.mv (ci 1))]) (.block 0 (.loop (.seq (.seq (.region false [
 o 4 (.mv (.s 3)), o 5 (.mv (.s 0)), o 6 (.len (.s 5)), o 7 (.bin .lss (.s 4) (.s 6))]) (.cond (.s 7) .skip (.exit 0))) (.seq (.block 1 (.seq (.region true [ o 10 (.mv (.s 0)),
 o 11 (.mv (.s 3)), o 12 (.bin .sub (.s 11) (ci 1)), o 13 (.iaddrS 1 (.s 10) (.s 12)), o 14 (.load false 1 (.s 13)), o 15 (.mv (.s 0)), o 16 (.mv (.s 3)),
 o 17 (.iaddrS 1 (.s 15) (.s 16)), o 18 (.load false 1 (.s 17)), o 19 (.bin .geq (.s 14) (.s 18))]) (.cond (.s 19) (.seq (.region false [ o 2 (.mv (cb false))]) .ret) .skip)))
 (.region false [ o 8 (.mv (.s 3)), o 9 (.bin .add (.s 8) (ci 1)), o 3 (.mv (.s 9))])))))) (.seq (.region false [ o 2 (.mv (cb true))]) .ret)))⟩
def f114 : F := ⟨151, false, [.s 6], (.seq (.region false [ o 3 (.boxL 4 (.s 0)), o 5 (.boxL 11 (.s 2)), o 6 (.mv (ci 0))]) (.seq (.region false [ o 12 (.faddrL 3 (.s 3)),
 o 13 (.loadL false 1 (.s 12)), o 14 (.mv (.s 1)), o 15 (.iaddrS 7 (.s 13) (.s 14)), o 16 (.faddr 1 (.s 15)), o 17 (.load false 1 (.s 16)), o 7 (.mv (.s 17))]) (.seq (.region false [
 o 18 (.faddrL 0 (.s 5)), o 19 (.loadL false 1 (.s 18)), o 20 (.bin .eql (.s 19) (ci 6)), o 21 (.mv (.s 20)), og 21 false 22 (.faddrL 0 (.s 5)),
 og 21 false 23 (.loadL false 1 (.s 22)), og 21 false 24 (.bin .eql (.s 23) (ci 7)), o 25 (.pick (.s 21) (cb true) (.s 24)), o 8 (.mv (.s 25))]) (.seq (.seq (.region false [
 o 26 (.faddrL 0 (.s 5)), o 27 (.loadL false 1 (.s 26)), o 28 (.bin .lss (.s 27) (ci 1)), o 29 (.mv (.s 28)), og 29 false 30 (.faddrL 0 (.s 5)),
 og 29 false 31 (.loadL false 1 (.s 30)), og 29 false 32 (.bin .gtr (.s 31) (ci 7)), o 33 (.pick (.s 29) (cb true) (.s 32)), o 34 (.mv (.s 33)), og 34 false 35 (.faddrL 1 (.s 5)),
 og 34 false 36 (.loadL false 1 (.s 35)), og 34 false 37 (.mv (.s 7)), og 34 false 38 (.bin .sub (.s 37) (ci 1)), og 34 false 39 (.call false (cf 110) [(.s 36), (.s 38)]),
 og 34 false 40 (.un .not (.s 39)), o 41 (.pick (.s 34) (cb true) (.s 40)), o 42 (.mv (.s 41)), og 42 false 43 (.faddrL 2 (.s 5)), og 42 false 44 (.loadL false 1 (.s 43)),
 og 42 false 45 (.mv (.s 7)), og 42 false 46 (.call false (cf 110) [(.s 44), (.s 45)]), og 42 false 47 (.un .not (.s 46)), o 48 (.pick (.s 42) (cb true) (.s 47)), o 49 (.mv (.s 48)),
 og 49 false 50 (.faddrL 10 (.s 5)), og 49 false 51 (.loadL false 1 (.s 50)), og 49 false 52 (.faddrL 1 (.s 3)), og 49 false 53 (.loadL false 1 (.s 52)),
 og 49 false 54 (.len (.s 53)), og 49 false 55 (.call false (cf 110) [(.s 51), (.s 54)]), og 49 false 56 (.un .not (.s 55)), o 57 (.pick (.s 49) (cb true) (.s 56)),
 o 58 (.mv (.s 57)), og 58 false 59 (.faddrL 8 (.s 5)), og 58 false 60 (.loadL false 1 (.s 59)), og 58 false 61 (.mv (.s 60)), og 61 true 62 (.faddrL 0 (.s 5)),
 og 61 true 63 (.loadL false 1 (.s 62)), og 61 true 64 (.bin .neq (.s 63) (ci 3)), og 58 false 65 (.pick (.s 61) (.s 64) (cb false)), o 66 (.pick (.s 58) (cb true) (.s 65)),
 o 67 (.mv (.s 66)), og 67 false 68 (.faddrL 9 (.s 5)), og 67 false 69 (.loadL false 1 (.s 68)), og 67 false 70 (.bin .neq (.s 69) (ci 0)), og 67 false 71 (.mv (.s 70)),
 og 71 true 72 (.mv (.s 8)), og 71 true 73 (.un .not (.s 72)), og 67 false 74 (.pick (.s 71) (.s 73) (cb false)), o 75 (.pick (.s 67) (cb true) (.s 74))]) (.cond (.s 75) (.seq
 (.region false [ o 6 (.mv (ci 70))]) .ret) .skip)) (.seq (.seq (.region false [ o 76 (.faddrL 3 (.s 5)), o 77 (.loadL true 4 (.s 76)), o 78 (.faddrL 0 (.s 3)),
 o 79 (.loadL false 1 (.s 78)), o 80 (.call false (cf 24) [(.s 77), (.s 79), (cb false)]), o 81 (.un .not (.s 80)), o 82 (.mv (.s 81)), og 82 false 83 (.faddrL 3 (.s 5)),
 og 82 false 84 (.faddrL 1 (.s 83)), og 82 false 85 (.loadL false 1 (.s 84)), og 82 false 86 (.bin .neq (.s 85) (ci 1)), o 87 (.pick (.s 82) (cb true) (.s 86))]) (.cond (.s 87) (.seq
 (.region false [ o 6 (.mv (ci 60))]) .ret) .skip)) (.seq (.seq (.region false [ o 9 (.mv (ci 0))]) (.block 0 (.loop (.seq (.seq (.region false [ o 88 (.mv (.s 9)),
 o 89 (.faddrL 7 (.s 5)), o 90 (.loadL false 1 (.s 89)), o 91 (.len (.s 90)), o 92 (.bin .lss (.s 88) (.s 91))]) (.cond (.s 92) .skip (.exit 0))) (.seq (.block 1 (.seq
 (.region false [ o 95 (.faddrL 7 (.s 5)), o 96 (.loadL false 1 (.s 95)), o 97 (.mv (.s 9)), o 98 (.iaddrS 5 (.s 96) (.s 97)), o 99 (.faddr 0 (.s 98)), o 100 (.load false 1 (.s 99)),
 o 10 (.mv (.s 100))]) (.seq (.seq (.region false [ o 101 (.mv (.s 10)), o 102 (.faddrL 0 (.s 3)), o 103 (.loadL false 1 (.s 102)), o 104 (.len (.s 103)),
 o 105 (.call false (cf 110) [(.s 101), (.s 104)]), o 106 (.un .not (.s 105))]) (.cond (.s 106) (.seq (.region false [ o 6 (.mv (ci 70))]) .ret) .skip)) (.seq (.seq (.region false [
 o 11 (.mv (ci 0))]) (.block 2 (.loop (.seq (.seq (.region false [ o 107 (.mv (.s 11)), o 108 (.mv (.s 9)), o 109 (.bin .lss (.s 107) (.s 108))]) (.cond (.s 109) .skip (.exit 2)))
 (.seq (.block 3 (.seq (.region false [ o 112 (.faddrL 7 (.s 5)), o 113 (.loadL false 1 (.s 112)), o 114 (.mv (.s 11)), o 115 (.iaddrS 5 (.s 113) (.s 114)),
 o 116 (.faddr 0 (.s 115)), o 117 (.load false 1 (.s 116)), o 118 (.mv (.s 10)), o 119 (.bin .eql (.s 117) (.s 118))]) (.cond (.s 119) (.seq (.region false [ o 6 (.mv (ci 70))])
 .ret) .skip))) (.region false [ o 110 (.mv (.s 11)), o 111 (.bin .add (.s 110) (ci 1)), o 11 (.mv (.s 111))])))))) (.seq (.region true [ o 120 (.faddrL 7 (.s 5)),
 o 121 (.loadL false 1 (.s 120)), o 122 (.mv (.s 9)), o 123 (.iaddrS 5 (.s 121) (.s 122)), o 124 (.faddr 1 (.s 123)), o 125 (.load true 4 (.s 124)), o 126 (.faddrL 0 (.s 3)),
 o 127 (.loadL false 1 (.s 126)), o 128 (.call false (cf 24) [(.s 125), (.s 127), (cb false)]), o 129 (.un .not (.s 128)), o 130 (.mv (.s 129)), og 130 false 131 (.faddrL 7 (.s 5)),
 og 130 false 132 (.loadL false 1 (.s 131)), og 130 false 133 (.mv (.s 9)), og 130 false 134 (.iaddrS 5 (.s 132) (.s 133)), og 130 false 135 (.faddr 1 (.s 134)),
 og 130 false 136 (.faddr 1 (.s 135)), og 130 false 137 (.load false 1 (.s 136)), og 130 false 138 (.faddrL 0 (.s 3)), og 130 false 139 (.loadL false 1 (.s 138)),
 og 130 false 140 (.mv (.s 10)), og 130 false 141 (.iaddrS 6 (.s 139) (.s 140)), og 130 false 142 (.faddr 1 (.s 141)), og 130 false 143 (.load false 1 (.s 142)),
 og 130 false 144 (.bin .neq (.s 137) (.s 143)), o 145 (.pick (.s 130) (cb true) (.s 144))]) (.cond (.s 145) (.seq (.region false [ o 6 (.mv (ci 60))]) .ret) .skip))))))
 (.region false [ o 93 (.mv (.s 9)), o 94 (.bin .add (.s 93) (ci 1)), o 9 (.mv (.s 94))])))))) (.seq (.seq (.region false [ o 146 (.loadL true 4 (.s 3)), o 147 (.mv (.s 1)),
 o 148 (.loadL true 11 (.s 5)), o 149 (.call false (cf 137) [(.s 146), (.s 147), (.s 148)]), o 150 (.un .not (.s 149))]) (.cond (.s 150) (.seq (.region false [ o 6 (.mv (ci 70))])
 .ret) .skip)) (.seq (.region false [ o 6 (.mv (ci 0))]) .ret))))))))⟩
def f115 : F := ⟨54, false, [.s 8], (.seq (.region false [ o 4 (.boxL 4 (.s 0)), o 5 (.boxL 4 (.s 1)), o 8 (.mv (cb false))]) (.seq (.region false [ o 15 (.loadL true 4 (.s 5)),
 o 16 (.call false (cf 138) [(.s 15)]), o 14 (.mv (.s 16)), o 17 (.extr (.s 14) 0), o 18 (.extr (.s 14) 1), o 9 (.mv (.s 17)), o 10 (.mv (.s 18))]) (.seq (.region false [
 o 19 (.bslice 1 0 [(.t (.int .i64 0))] []), o 20 (.mv (.s 9)), o 21 (.append 1 8 (.s 19) (.s 20)), o 22 (.mv (.s 10)), o 23 (.append 1 8 (.s 21) (.s 22)), o 11 (.mv (.s 23))]) (.seq
 (.seq (.region false [ o 12 (.mv (ci 0))]) (.block 0 (.loop (.seq (.seq (.region false [ o 24 (.mv (.s 12)), o 25 (.mv (.s 11)), o 26 (.len (.s 25)),
 o 27 (.bin .lss (.s 24) (.s 26))]) (.cond (.s 27) .skip (.exit 0))) (.seq (.block 1 (.seq (.region true [ o 30 (.faddrL 0 (.s 4)), o 31 (.loadL false 1 (.s 30)), o 32 (.mv (.s 11)),
 o 33 (.mv (.s 12)), o 34 (.iaddrS 1 (.s 32) (.s 33)), o 35 (.load false 1 (.s 34)), o 36 (.iaddrS 6 (.s 31) (.s 35)), o 37 (.faddr 3 (.s 36)), o 38 (.load false 1 (.s 37)),
 o 13 (.mv (.s 38))]) (.seq (.region false [ o 39 (.mv (.s 13)), o 40 (.bin .eql (.s 39) (ci (-1))), o 41 (.mv (.s 40)), og 41 true 42 (.mv (.s 2)), og 41 true 43 (.un .not (.s 42)),
 o 44 (.pick (.s 41) (.s 43) (cb false)), o 45 (.mv (.s 44)), og 45 false 46 (.mv (.s 13)), og 45 false 47 (.bin .geq (.s 46) (ci 0)), og 45 false 48 (.mv (.s 47)),
 og 48 true 49 (.mv (.s 13)), og 48 true 50 (.mv (.s 3)), og 48 true 51 (.bin .neq (.s 49) (.s 50)), og 45 false 52 (.pick (.s 48) (.s 51) (cb false)),
 o 53 (.pick (.s 45) (cb true) (.s 52))]) (.cond (.s 53) (.seq (.region false [ o 8 (.mv (cb false))]) .ret) .skip)))) (.region false [ o 28 (.mv (.s 12)),
 o 29 (.bin .add (.s 28) (ci 1)), o 12 (.mv (.s 29))])))))) (.seq (.region false [ o 8 (.mv (cb true))]) .ret)))))⟩
def f116 : F := ⟨19, false, [.s 2], (.seq (.region false [ o 2 (.mv (ci 0))]) (.seq (.seq (.region false [ o 3 (.mv (.s 0)), o 4 (.bin .geq (.s 3) (ci 1)), o 5 (.mv (.s 4)),
 og 5 true 6 (.mv (.s 0)), og 5 true 7 (.bin .leq (.s 6) (ci 3)), o 8 (.pick (.s 5) (.s 7) (cb false))]) (.cond (.s 8) (.seq (.region false [ o 2 (.mv (ci 0))]) .ret) .skip)) (.seq
 (.seq (.region false [ o 9 (.mv (.s 0)), o 10 (.bin .eql (.s 9) (ci 4))]) (.cond (.s 10) (.seq (.region false [ o 2 (.mv (ci 1))]) .ret) .skip)) (.seq (.seq (.region false [
 o 11 (.mv (.s 0)), o 12 (.bin .geq (.s 11) (ci 5)), o 13 (.mv (.s 12)), og 13 true 14 (.mv (.s 0)), og 13 true 15 (.bin .leq (.s 14) (ci 13)),
 o 16 (.pick (.s 13) (.s 15) (cb false))]) (.cond (.s 16) (.seq (.region false [ o 2 (.mv (ci 2))]) .ret) .skip)) (.seq (.seq (.region false [ o 17 (.mv (.s 0)),
 o 18 (.bin .eql (.s 17) (ci 14))]) (.cond (.s 18) (.seq (.region false [ o 2 (.mv (ci 3))]) .ret) .skip)) (.seq (.region false [ o 2 (.mv (ci (-1)))]) .ret))))))⟩
def f117 : F := ⟨10, false, [.s 4], (.seq (.region false [ o 4 (.mv (ci 0))]) (.seq (.region false [ o 5 (.mv (.s 0)), o 6 (.mv (.s 1)), o 7 (.call false (cf 33) [(.s 6)]),
 o 8 (.bin .sub (.s 7) (ci 1)), o 9 (.bin .and (.s 5) (.s 8)), o 4 (.mv (.s 9))]) .ret))⟩
def f118 : F := ⟨13, false, [.s 4], (.seq (.region false [ o 4 (.mv (ci 0))]) (.seq (.seq (.region false [ o 5 (.mv (.s 1)), o 6 (.mv (.s 0)), o 7 (.len (.s 6)),
 o 8 (.bin .lss (.s 5) (.s 7))]) (.cond (.s 8) (.seq (.region false [ o 9 (.mv (.s 0)), o 10 (.mv (.s 1)), o 11 (.iaddrS 1 (.s 9) (.s 10)), o 12 (.load false 1 (.s 11)),
 o 4 (.mv (.s 12))]) .ret) .skip)) (.seq (.region false [ o 4 (.mv (ci 0))]) .ret)))⟩
def f119 : F := ⟨137, false, [.s 4], (.seq (.region false [ o 2 (.boxL 4 (.s 0)), o 4 (.mv (ci 0))]) (.seq (.seq (.region false [ o 5 (.faddrL 0 (.s 2)),
 o 6 (.loadL false 1 (.s 5))]) (.block 0 (.seq (.region false [ o 8 (.bin .eql (.s 6) (ci 1)), o 7 (.mv (.s 8))]) (.cond (.s 7) (.seq (.region false [ o 9 (.faddrL 2 (.s 2)),
 o 10 (.loadL false 1 (.s 9)), o 4 (.mv (.s 10))]) .ret) (.seq (.region false [ o 12 (.bin .eql (.s 6) (ci 4)), o 11 (.mv (.s 12))]) (.cond (.s 11) (.seq (.region true [
 o 13 (.faddrL 1 (.s 2)), o 14 (.loadL false 1 (.s 13)), o 15 (.call false (cf 33) [(.s 14)]), o 16 (.bin .sub (.s 15) (ci 1)), o 17 (.mv (.s 1)), o 18 (.iaddrS 1 (.s 17) (ci 0)),
 o 19 (.load false 1 (.s 18)), o 20 (.bin .sub (.s 16) (.s 19)), o 4 (.mv (.s 20))]) .ret) (.seq (.region false [ o 22 (.bin .eql (.s 6) (ci 5)), o 21 (.mv (.s 22))]) (.cond (.s 21)
 (.seq (.region true [ o 23 (.mv (.s 1)), o 24 (.iaddrS 1 (.s 23) (ci 0)), o 25 (.load false 1 (.s 24)), o 26 (.mv (.s 1)), o 27 (.iaddrS 1 (.s 26) (ci 1)),
 o 28 (.load false 1 (.s 27)), o 29 (.bin .and (.s 25) (.s 28)), o 4 (.mv (.s 29))]) .ret) (.seq (.region false [ o 31 (.bin .eql (.s 6) (ci 6)), o 30 (.mv (.s 31))]) (.cond (.s 30)
 (.seq (.region true [ o 32 (.mv (.s 1)), o 33 (.iaddrS 1 (.s 32) (ci 0)), o 34 (.load false 1 (.s 33)), o 35 (.mv (.s 1)), o 36 (.iaddrS 1 (.s 35) (ci 1)),
 o 37 (.load false 1 (.s 36)), o 38 (.bin .or (.s 34) (.s 37)), o 4 (.mv (.s 38))]) .ret) (.seq (.region false [ o 40 (.bin .eql (.s 6) (ci 7)), o 39 (.mv (.s 40))]) (.cond (.s 39)
 (.seq (.region true [ o 41 (.mv (.s 1)), o 42 (.iaddrS 1 (.s 41) (ci 0)), o 43 (.load false 1 (.s 42)), o 44 (.mv (.s 1)), o 45 (.iaddrS 1 (.s 44) (ci 1)),
 o 46 (.load false 1 (.s 45)), o 47 (.bin .xor (.s 43) (.s 46)), o 4 (.mv (.s 47))]) .ret) (.seq (.region false [ o 49 (.bin .eql (.s 6) (ci 8)), o 48 (.mv (.s 49))]) (.cond (.s 48)
 (.seq (.region true [ o 50 (.mv (.s 1)), o 51 (.iaddrS 1 (.s 50) (ci 0)), o 52 (.load false 1 (.s 51)), o 53 (.mv (.s 1)), o 54 (.iaddrS 1 (.s 53) (ci 1)),
 o 55 (.load false 1 (.s 54)), o 56 (.bin .add (.s 52) (.s 55)), o 57 (.faddrL 1 (.s 2)), o 58 (.loadL false 1 (.s 57)), o 59 (.call false (cf 117) [(.s 56), (.s 58)]),
 o 4 (.mv (.s 59))]) .ret) (.seq (.region false [ o 61 (.bin .eql (.s 6) (ci 9)), o 60 (.mv (.s 61))]) (.cond (.s 60) (.seq (.region true [ o 62 (.mv (.s 1)),
 o 63 (.iaddrS 1 (.s 62) (ci 0)), o 64 (.load false 1 (.s 63)), o 65 (.mv (.s 1)), o 66 (.iaddrS 1 (.s 65) (ci 1)), o 67 (.load false 1 (.s 66)), o 68 (.bin .sub (.s 64) (.s 67)),
 o 69 (.faddrL 1 (.s 2)), o 70 (.loadL false 1 (.s 69)), o 71 (.call false (cf 33) [(.s 70)]), o 72 (.bin .add (.s 68) (.s 71)), o 73 (.faddrL 1 (.s 2)),
 o 74 (.loadL false 1 (.s 73)), o 75 (.call false (cf 117) [(.s 72), (.s 74)]), o 4 (.mv (.s 75))]) .ret) (.seq (.region false [ o 77 (.bin .eql (.s 6) (ci 10)), o 76 (.mv (.s 77))])
 (.cond (.s 76) (.seq (.region true [ o 78 (.mv (.s 1)), o 79 (.iaddrS 1 (.s 78) (ci 0)), o 80 (.load false 1 (.s 79)), o 81 (.mv (.s 1)), o 82 (.iaddrS 1 (.s 81) (ci 1)),
 o 83 (.load false 1 (.s 82)), o 84 (.bin .mul (.s 80) (.s 83)), o 85 (.faddrL 1 (.s 2)), o 86 (.loadL false 1 (.s 85)), o 87 (.call false (cf 117) [(.s 84), (.s 86)]),
 o 4 (.mv (.s 87))]) .ret) (.seq (.region false [ o 89 (.bin .eql (.s 6) (ci 14)), o 88 (.mv (.s 89))]) (.cond (.s 88) (.seq (.region false [ o 90 (.mv (.s 1)), o 91 (.mv (.s 1)),
 o 92 (.iaddrS 1 (.s 91) (ci 0)), o 93 (.load false 1 (.s 92)), o 94 (.bin .sub (ci 2) (.s 93)), o 95 (.iaddrS 1 (.s 90) (.s 94)), o 96 (.load false 1 (.s 95)), o 4 (.mv (.s 96))])
 .ret) .skip)))))))))))))))))))) (.seq (.seq (.region true [ o 97 (.faddrL 0 (.s 2)), o 98 (.loadL false 1 (.s 97)), o 99 (.bin .eql (.s 98) (ci 11)), o 100 (.mv (.s 99)),
 og 100 true 101 (.mv (.s 1)), og 100 true 102 (.iaddrS 1 (.s 101) (ci 0)), og 100 true 103 (.load false 1 (.s 102)), og 100 true 104 (.mv (.s 1)),
 og 100 true 105 (.iaddrS 1 (.s 104) (ci 1)), og 100 true 106 (.load false 1 (.s 105)), og 100 true 107 (.bin .eql (.s 103) (.s 106)), o 108 (.pick (.s 100) (.s 107) (cb false)),
 o 109 (.mv (.s 108)), og 109 false 110 (.faddrL 0 (.s 2)), og 109 false 111 (.loadL false 1 (.s 110)), og 109 false 112 (.bin .eql (.s 111) (ci 12)),
 og 109 false 113 (.mv (.s 112)), og 113 true 114 (.mv (.s 1)), og 113 true 115 (.iaddrS 1 (.s 114) (ci 0)), og 113 true 116 (.load false 1 (.s 115)), og 113 true 117 (.mv (.s 1)),
 og 113 true 118 (.iaddrS 1 (.s 117) (ci 1)), og 113 true 119 (.load false 1 (.s 118)), og 113 true 120 (.bin .lss (.s 116) (.s 119)),
 og 109 false 121 (.pick (.s 113) (.s 120) (cb false)), o 122 (.pick (.s 109) (cb true) (.s 121)), o 123 (.mv (.s 122)), og 123 false 124 (.faddrL 0 (.s 2)),
 og 123 false 125 (.loadL false 1 (.s 124)), og 123 false 126 (.bin .eql (.s 125) (ci 13)), og 123 false 127 (.mv (.s 126)), og 127 true 128 (.mv (.s 1)),
 og 127 true 129 (.iaddrS 1 (.s 128) (ci 0)), og 127 true 130 (.load false 1 (.s 129)), og 127 true 131 (.mv (.s 1)), og 127 true 132 (.iaddrS 1 (.s 131) (ci 1)),
 og 127 true 133 (.load false 1 (.s 132)), og 127 true 134 (.bin .leq (.s 130) (.s 133)), og 123 false 135 (.pick (.s 127) (.s 134) (cb false)),
 o 136 (.pick (.s 123) (cb true) (.s 135))]) (.cond (.s 136) (.seq (.region false [ o 4 (.mv (ci 1))]) .ret) .skip)) (.seq (.region false [ o 4 (.mv (ci 0))]) .ret))))⟩
def f131 : F := ⟨9, false, [.s 4], (.seq (.region false [ o 4 (.mv (cb false))]) (.seq (.region false [ o 5 (.mv (.s 0)), o 6 (.mv (.s 1)),
 o 7 (.call false (cf 145) [(.s 5), (.s 6)]), o 8 (.bin .geq (.s 7) (ci 0)), o 4 (.mv (.s 8))]) .ret))⟩
def f132 : F := ⟨8, false, [.s 3], (.seq (.region false [ o 3 (.mv (cb false))]) (.seq (.region false [ o 4 (.load false 1 (.s 1)), o 5 (.mv (.s 0)),
 o 6 (.call false (.s 4) [(.s 5)]), o 7 (.un .not (.s 6)), o 3 (.mv (.s 7))]) .ret))⟩
def f133 : F := ⟨6, false, [.s 4], (.seq (.region false [ o 2 (.boxH 4 (.s 0)), o 3 (.boxH 1 (.s 1)), o 4 (.mv (.c (.t .nilf)))]) (.seq (.region false [
 o 5 (.mkfn 146 [] [(.s 2), (.s 3)]), o 4 (.mv (.s 5))]) .ret))⟩
def f134 : F := ⟨13, false, [.s 4], (.seq (.region false [ o 4 (.mv (cb false))]) (.seq (.region false [ o 5 (.load true 4 (.s 1)), o 6 (.mv (.s 0)),
 o 7 (.call false (cf 100) [(.s 5), (.s 6)]), o 8 (.mv (.s 7)), og 8 false 9 (.load false 1 (.s 2)), og 8 false 10 (.mv (.s 0)), og 8 false 11 (.call false (.s 9) [(.s 10)]),
 o 12 (.pick (.s 8) (cb true) (.s 11)), o 4 (.mv (.s 12))]) .ret))⟩
def f135 : F := ⟨9, false, [.l 0 true 8], (.seq (.region false [ o 0 (.allocL [(.t .nilf), (.t .nilf), (.t .nilf), (.t .nilf), (.t .nilf), (.t .nilf), (.t .nilf), (.t .nilf)])])
 (.seq (.region false [ o 1 (.build [(.t .nilf)] [(0, 1, (cf 147))]), o 2 (.build [(.t .nilf)] [(0, 1, (cf 148))]), o 3 (.build [(.t .nilf)] [(0, 1, (cf 149))]),
 o 4 (.build [(.t .nilf)] [(0, 1, (cf 150))]), o 5 (.build [(.t .nilf)] [(0, 1, (cf 151))]), o 6 (.build [(.t .nilf)] [(0, 1, (cf 152))]),
 o 7 (.build [(.t .nilf)] [(0, 1, (cf 153))]),
 o 8 (.build [(.t .nilf), (.t .nilf), (.t .nilf), (.t .nilf), (.t .nilf), (.t .nilf), (.t .nilf), (.t .nilf)] [(1, 1, (.s 1)), (2, 1, (.s 2)), (3, 1, (.s 3)), (4, 1, (.s 4)), (5, 1, (.s 5)), (6, 1, (.s 6)), (7, 1, (.s 7))]),
 on (.storeL 8 (.s 0) (.s 8))]) .ret))⟩
def f136 : F := ⟨45, true, [], (.seq (.region true [ o 5 (.mv (.s 0)), o 6 (.nilchk (.s 5)), o 7 (.faddr 0 (.s 6)), o 8 (.load false 1 (.s 7)), o 9 (.bin .neq (.s 8) (ci 1)),
 o 10 (.mv (.s 9)), og 10 true 11 (.mv (.s 0)), og 10 true 12 (.nilchk (.s 11)), og 10 true 13 (.faddr 2 (.s 12)), og 10 true 14 (.load false 1 (.s 13)),
 og 10 true 15 (.load false 1 (.s 1)), og 10 true 16 (.len (.s 15)), og 10 true 17 (.bin .geq (.s 14) (.s 16)), og 10 true 18 (.mv (.s 17)), og 18 false 19 (.load false 1 (.s 1)),
 og 18 false 20 (.mv (.s 0)), og 18 false 21 (.nilchk (.s 20)), og 18 false 22 (.faddr 2 (.s 21)), og 18 false 23 (.load false 1 (.s 22)), og 18 false 24 (.iaddrS 6 (.s 19) (.s 23)),
 og 18 false 25 (.faddr 1 (.s 24)), og 18 false 26 (.load false 1 (.s 25)), og 18 false 27 (.mv (.s 0)), og 18 false 28 (.nilchk (.s 27)), og 18 false 29 (.faddr 1 (.s 28)),
 og 18 false 30 (.load false 1 (.s 29)), og 18 false 31 (.bin .neq (.s 26) (.s 30)), og 10 true 32 (.pick (.s 18) (cb true) (.s 31)), og 10 true 33 (.mv (.s 32)),
 og 33 false 34 (.mv (.s 0)), og 33 false 35 (.nilchk (.s 34)), og 33 false 36 (.faddr 0 (.s 35)), og 33 false 37 (.load false 1 (.s 36)), og 33 false 38 (.bin .eql (.s 37) (ci 3)),
 og 33 false 39 (.mv (.s 38)), og 39 true 40 (.load false 1 (.s 2)), og 39 true 41 (.un .not (.s 40)), og 33 false 42 (.pick (.s 39) (.s 41) (cb false)),
 og 10 true 43 (.pick (.s 33) (cb true) (.s 42)), o 44 (.pick (.s 10) (.s 43) (cb false))]) (.cond (.s 44) (.region false [ on (.store 1 (.s 3) (cb false))]) .skip))⟩
def f137 : F := ⟨252, false, [.s 6], (.seq (.region false [ o 3 (.boxL 4 (.s 0)), o 5 (.boxL 11 (.s 2)), o 6 (.mv (cb false))]) (.seq (.region false [ o 15 (.faddrL 7 (.s 5)),
 o 16 (.loadL false 1 (.s 15)), o 17 (.len (.s 16)), o 7 (.mv (.s 17))]) (.seq (.region false [ o 18 (.faddrL 0 (.s 5)), o 19 (.loadL false 1 (.s 18)),
 o 20 (.bin .eql (.s 19) (ci 4)), o 8 (.mv (.s 20))]) (.seq (.seq (.region false [ o 21 (.loadL true 4 (.s 3)), o 22 (.faddrL 3 (.s 5)), o 23 (.loadL true 4 (.s 22)),
 o 24 (.mv (.s 8)), o 25 (.mv (.s 1)), o 26 (.call false (cf 115) [(.s 21), (.s 23), (.s 24), (.s 25)]), o 27 (.un .not (.s 26))]) (.cond (.s 27) (.seq (.region false [
 o 6 (.mv (cb false))]) .ret) .skip)) (.seq (.seq (.region false [ o 9 (.mv (ci 0))]) (.block 0 (.loop (.seq (.seq (.region false [ o 28 (.mv (.s 9)), o 29 (.mv (.s 7)),
 o 30 (.bin .lss (.s 28) (.s 29))]) (.cond (.s 30) .skip (.exit 0))) (.seq (.block 1 (.seq (.seq (.region true [ o 33 (.mv (.s 9)), o 34 (.bin .gtr (.s 33) (ci 0)),
 o 35 (.mv (.s 34)), og 35 false 36 (.faddrL 0 (.s 5)), og 35 false 37 (.loadL false 1 (.s 36)), og 35 false 38 (.bin .neq (.s 37) (ci 2)), o 39 (.pick (.s 35) (cb true) (.s 38)),
 o 40 (.mv (.s 39)), og 40 true 41 (.loadL true 4 (.s 3)), og 40 true 42 (.faddrL 7 (.s 5)), og 40 true 43 (.loadL false 1 (.s 42)), og 40 true 44 (.mv (.s 9)),
 og 40 true 45 (.iaddrS 5 (.s 43) (.s 44)), og 40 true 46 (.faddr 1 (.s 45)), og 40 true 47 (.load true 4 (.s 46)), og 40 true 48 (.mv (.s 8)), og 40 true 49 (.mv (.s 1)),
 og 40 true 50 (.call false (cf 115) [(.s 41), (.s 47), (.s 48), (.s 49)]), og 40 true 51 (.un .not (.s 50)), o 52 (.pick (.s 40) (.s 51) (cb false))]) (.cond (.s 52) (.seq
 (.region false [ o 6 (.mv (cb false))]) .ret) .skip)) (.seq (.region false [ o 53 (.faddrL 7 (.s 5)), o 54 (.loadL false 1 (.s 53)), o 55 (.mv (.s 9)),
 o 56 (.iaddrS 5 (.s 54) (.s 55)), o 57 (.faddr 0 (.s 56)), o 58 (.load false 1 (.s 57)), o 10 (.mv (.s 58))]) (.seq (.region false [ o 59 (.loadL true 4 (.s 3)), o 60 (.mv (.s 10)),
 o 61 (.mv (.s 1)), o 62 (.call false (cf 154) [(.s 59), (.s 60), (.s 61)]), o 63 (.un .not (.s 62)), o 64 (.mv (.s 63)), og 64 true 65 (.loadL true 4 (.s 3)),
 og 64 true 66 (.mv (.s 10)), og 64 true 67 (.call false (cf 155) [(.s 65), (.s 66)]), og 64 true 68 (.un .not (.s 67)), o 69 (.pick (.s 64) (.s 68) (cb false))]) (.cond (.s 69)
 (.seq (.region false [ o 6 (.mv (cb false))]) .ret) .skip))))) (.region false [ o 31 (.mv (.s 9)), o 32 (.bin .add (.s 31) (ci 1)), o 9 (.mv (.s 32))])))))) (.seq (.seq
 (.region false [ o 70 (.faddrL 0 (.s 5)), o 71 (.loadL false 1 (.s 70))]) (.block 2 (.seq (.region false [ o 73 (.bin .eql (.s 71) (ci 1)), o 72 (.mv (.s 73))]) (.cond (.s 72) (.seq
 (.seq (.region false [ o 11 (.mv (ci 0))]) (.block 3 (.loop (.seq (.seq (.region false [ o 74 (.mv (.s 11)), o 75 (.mv (.s 7)), o 76 (.bin .lss (.s 74) (.s 75))]) (.cond (.s 76)
 .skip (.exit 3))) (.seq (.block 4 (.seq (.region true [ o 79 (.loadL true 4 (.s 3)), o 80 (.faddrL 7 (.s 5)), o 81 (.loadL false 1 (.s 80)), o 82 (.mv (.s 11)),
 o 83 (.iaddrS 5 (.s 81) (.s 82)), o 84 (.faddr 0 (.s 83)), o 85 (.load false 1 (.s 84)), o 86 (.mv (.s 1)), o 87 (.call false (cf 154) [(.s 79), (.s 85), (.s 86)]),
 o 88 (.un .not (.s 87))]) (.cond (.s 88) (.seq (.region false [ o 6 (.mv (cb false))]) .ret) .skip))) (.region false [ o 77 (.mv (.s 11)), o 78 (.bin .add (.s 77) (ci 1)),
 o 11 (.mv (.s 78))])))))) (.seq (.region false [ o 6 (.mv (cb true))]) .ret)) (.seq (.region false [ o 90 (.bin .eql (.s 71) (ci 2)), o 89 (.mv (.s 90))]) (.cond (.s 89) (.seq (.seq
 (.region true [ o 91 (.mv (.s 7)), o 92 (.bin .eql (.s 91) (ci 0)), o 93 (.mv (.s 92)), og 93 false 94 (.loadL true 4 (.s 3)), og 93 false 95 (.faddrL 7 (.s 5)),
 og 93 false 96 (.loadL false 1 (.s 95)), og 93 false 97 (.iaddrS 5 (.s 96) (ci 0)), og 93 false 98 (.faddr 0 (.s 97)), og 93 false 99 (.load false 1 (.s 98)),
 og 93 false 100 (.mv (.s 1)), og 93 false 101 (.call false (cf 154) [(.s 94), (.s 99), (.s 100)]), og 93 false 102 (.un .not (.s 101)), o 103 (.pick (.s 93) (cb true) (.s 102)),
 o 104 (.mv (.s 103)), og 104 false 105 (.faddrL 0 (.s 3)), og 104 false 106 (.loadL false 1 (.s 105)), og 104 false 107 (.faddrL 7 (.s 5)),
 og 104 false 108 (.loadL false 1 (.s 107)), og 104 false 109 (.iaddrS 5 (.s 108) (ci 0)), og 104 false 110 (.faddr 0 (.s 109)), og 104 false 111 (.load false 1 (.s 110)),
 og 104 false 112 (.iaddrS 6 (.s 106) (.s 111)), og 104 false 113 (.faddr 4 (.s 112)), og 104 false 114 (.load false 1 (.s 113)), o 115 (.pick (.s 104) (cb true) (.s 114))])
 (.cond (.s 115) (.seq (.region false [ o 6 (.mv (cb false))]) .ret) .skip)) (.seq (.region false [ o 116 (.faddrL 7 (.s 5)), o 117 (.loadL false 1 (.s 116)),
 o 118 (.iaddrS 5 (.s 117) (ci 0)), o 119 (.faddr 1 (.s 118)), o 120 (.load true 4 (.s 119)), o 12 (.allocL [(.t (.int .i64 0)), (.t (.int .i64 0)), (.t (.int .i64 0)), (.t .nils)]),
 on (.storeL 4 (.s 12) (.s 120))]) (.seq (.seq (.region false [ o 121 (.faddrL 0 (.s 12)), o 122 (.loadL false 1 (.s 121)), o 123 (.bin .neq (.s 122) (ci 2)), o 124 (.mv (.s 123)),
 og 124 false 125 (.loadL true 4 (.s 3)), og 124 false 126 (.faddrL 2 (.s 12)), og 124 false 127 (.loadL false 1 (.s 126)),
 og 124 false 128 (.call false (cf 155) [(.s 125), (.s 127)]), og 124 false 129 (.un .not (.s 128)), o 130 (.pick (.s 124) (cb true) (.s 129)), o 131 (.mv (.s 130)),
 og 131 false 132 (.faddrL 0 (.s 3)), og 131 false 133 (.loadL false 1 (.s 132)), og 131 false 134 (.faddrL 2 (.s 12)), og 131 false 135 (.loadL false 1 (.s 134)),
 og 131 false 136 (.iaddrS 6 (.s 133) (.s 135)), og 131 false 137 (.faddr 4 (.s 136)), og 131 false 138 (.load false 1 (.s 137)), o 139 (.pick (.s 131) (cb true) (.s 138))])
 (.cond (.s 139) (.seq (.region false [ o 6 (.mv (cb false))]) .ret) .skip)) (.seq (.seq (.region false [ o 13 (.mv (ci 1))]) (.block 5 (.loop (.seq (.seq (.region false [
 o 140 (.mv (.s 13)), o 141 (.mv (.s 7)), o 142 (.bin .lss (.s 140) (.s 141))]) (.cond (.s 142) .skip (.exit 5))) (.seq (.block 6 (.seq (.region true [ o 145 (.loadL true 4 (.s 3)),
 o 146 (.faddrL 7 (.s 5)), o 147 (.loadL false 1 (.s 146)), o 148 (.mv (.s 13)), o 149 (.iaddrS 5 (.s 147) (.s 148)), o 150 (.faddr 0 (.s 149)), o 151 (.load false 1 (.s 150)),
 o 152 (.mv (.s 1)), o 153 (.call false (cf 154) [(.s 145), (.s 151), (.s 152)]), o 154 (.un .not (.s 153)), o 155 (.mv (.s 154)), og 155 false 156 (.faddrL 0 (.s 3)),
 og 155 false 157 (.loadL false 1 (.s 156)), og 155 false 158 (.faddrL 7 (.s 5)), og 155 false 159 (.loadL false 1 (.s 158)), og 155 false 160 (.mv (.s 13)),
 og 155 false 161 (.iaddrS 5 (.s 159) (.s 160)), og 155 false 162 (.faddr 0 (.s 161)), og 155 false 163 (.load false 1 (.s 162)), og 155 false 164 (.iaddrS 6 (.s 157) (.s 163)),
 og 155 false 165 (.faddr 4 (.s 164)), og 155 false 166 (.load false 1 (.s 165)), og 155 false 167 (.un .not (.s 166)), o 168 (.pick (.s 155) (cb true) (.s 167))]) (.cond (.s 168)
 (.seq (.region false [ o 6 (.mv (cb false))]) .ret) .skip))) (.region false [ o 143 (.mv (.s 13)), o 144 (.bin .add (.s 143) (ci 1)), o 13 (.mv (.s 144))])))))) (.seq
 (.region false [ o 6 (.mv (cb true))]) .ret))))) (.seq (.region false [ o 170 (.bin .eql (.s 71) (ci 3)), o 169 (.mv (.s 170))]) (.cond (.s 169) (.seq (.seq (.region true [
 o 171 (.mv (.s 7)), o 172 (.bin .eql (.s 171) (ci 0)), o 173 (.mv (.s 172)), og 173 false 174 (.loadL true 4 (.s 3)), og 173 false 175 (.faddrL 7 (.s 5)),
 og 173 false 176 (.loadL false 1 (.s 175)), og 173 false 177 (.iaddrS 5 (.s 176) (ci 0)), og 173 false 178 (.faddr 0 (.s 177)), og 173 false 179 (.load false 1 (.s 178)),
 og 173 false 180 (.call false (cf 155) [(.s 174), (.s 179)]), og 173 false 181 (.un .not (.s 180)), o 182 (.pick (.s 173) (cb true) (.s 181)), o 183 (.mv (.s 182)),
 og 183 false 184 (.faddrL 0 (.s 3)), og 183 false 185 (.loadL false 1 (.s 184)), og 183 false 186 (.faddrL 7 (.s 5)), og 183 false 187 (.loadL false 1 (.s 186)),
 og 183 false 188 (.iaddrS 5 (.s 187) (ci 0)), og 183 false 189 (.faddr 0 (.s 188)), og 183 false 190 (.load false 1 (.s 189)), og 183 false 191 (.iaddrS 6 (.s 185) (.s 190)),
 og 183 false 192 (.faddr 4 (.s 191)), og 183 false 193 (.load false 1 (.s 192)), o 194 (.pick (.s 183) (cb true) (.s 193))]) (.cond (.s 194) (.seq (.region false [
 o 6 (.mv (cb false))]) .ret) .skip)) (.seq (.seq (.region false [ o 14 (.mv (ci 1))]) (.block 7 (.loop (.seq (.seq (.region false [ o 195 (.mv (.s 14)), o 196 (.mv (.s 7)),
 o 197 (.bin .lss (.s 195) (.s 196))]) (.cond (.s 197) .skip (.exit 7))) (.seq (.block 8 (.seq (.region true [ o 200 (.faddrL 0 (.s 3)), o 201 (.loadL false 1 (.s 200)),
 o 202 (.faddrL 7 (.s 5)), o 203 (.loadL false 1 (.s 202)), o 204 (.mv (.s 14)), o 205 (.iaddrS 5 (.s 203) (.s 204)), o 206 (.faddr 0 (.s 205)), o 207 (.load false 1 (.s 206)),
 o 208 (.iaddrS 6 (.s 201) (.s 207)), o 209 (.faddr 4 (.s 208)), o 210 (.load false 1 (.s 209)), o 211 (.un .not (.s 210))]) (.cond (.s 211) (.seq (.region false [
 o 6 (.mv (cb false))]) .ret) .skip))) (.region false [ o 198 (.mv (.s 14)), o 199 (.bin .add (.s 198) (ci 1)), o 14 (.mv (.s 199))])))))) (.seq (.region false [
 o 6 (.mv (cb true))]) .ret))) (.seq (.region false [ o 213 (.bin .eql (.s 71) (ci 4)), o 212 (.mv (.s 213))]) (.cond (.s 212) (.seq (.region false [ o 6 (.mv (cb true))]) .ret)
 .skip)))))))))) (.seq (.seq (.region true [ o 214 (.mv (.s 7)), o 215 (.bin .gtr (.s 214) (ci 0)), o 216 (.mv (.s 215)), og 216 false 217 (.faddrL 3 (.s 5)),
 og 216 false 218 (.loadL true 4 (.s 217)), og 216 false 219 (.call false (cf 157) []), og 216 false 220 (.call false (cf 156) [(.s 218), (.s 219)]),
 og 216 false 221 (.un .not (.s 220)), o 222 (.pick (.s 216) (cb true) (.s 221))]) (.cond (.s 222) (.seq (.region false [ o 6 (.mv (cb false))]) .ret) .skip)) (.seq (.seq
 (.region false [ o 223 (.faddrL 0 (.s 5)), o 224 (.loadL false 1 (.s 223)), o 225 (.bin .eql (.s 224) (ci 5))]) (.cond (.s 225) (.seq (.region false [ o 6 (.mv (cb true))]) .ret)
 .skip)) (.seq (.region false [ o 226 (.faddrL 9 (.s 5)), o 227 (.loadL false 1 (.s 226)), o 228 (.faddrL 3 (.s 3)), o 229 (.loadL false 1 (.s 228)), o 230 (.len (.s 229)),
 o 231 (.call false (cf 110) [(.s 227), (.s 230)]), o 232 (.mv (.s 231)), og 232 true 233 (.faddrL 9 (.s 5)), og 232 true 234 (.loadL false 1 (.s 233)), og 232 true 235 (.mv (.s 1)),
 og 232 true 236 (.bin .neq (.s 234) (.s 235)), o 237 (.pick (.s 232) (.s 236) (cb false)), o 238 (.mv (.s 237)), og 238 true 239 (.faddrL 0 (.s 5)),
 og 238 true 240 (.loadL false 1 (.s 239)), og 238 true 241 (.bin .eql (.s 240) (ci 7)), og 238 true 242 (.mv (.s 241)), og 242 false 243 (.faddrL 3 (.s 3)),
 og 242 false 244 (.loadL false 1 (.s 243)), og 242 false 245 (.faddrL 9 (.s 5)), og 242 false 246 (.loadL false 1 (.s 245)), og 242 false 247 (.iaddrS 7 (.s 244) (.s 246)),
 og 242 false 248 (.faddr 6 (.s 247)), og 242 false 249 (.load false 1 (.s 248)), og 238 true 250 (.pick (.s 242) (cb true) (.s 249)), o 251 (.pick (.s 238) (.s 250) (cb false)),
 o 6 (.mv (.s 251))]) .ret)))))))))⟩
def f138 : F := ⟨19, false, [.s 2, .s 3], (.seq (.region false [ o 1 (.boxL 4 (.s 0)), o 2 (.mv (.c (.t .nils))), o 3 (.mv (.c (.t .nils)))]) (.seq (.seq (.region false [
 o 6 (.loadL true 4 (.s 1)), o 7 (.call false (cf 48) [(.s 6)]), o 8 (.un .not (.s 7))]) (.cond (.s 8) (.seq (.region false [ o 2 (.mv (.c (.t .nils))), o 3 (.mv (.c (.t .nils)))])
 .ret) .skip)) (.seq (.region false [ o 9 (.mkslice 1 1 [(.t (.bool false))] (ci 32) (ci 32)), o 4 (.mv (.s 9))]) (.seq (.region false [
 o 10 (.mkslice 1 1 [(.t (.bool false))] (ci 32) (ci 32)), o 5 (.mv (.s 10))]) (.seq (.region false [ o 11 (.loadL true 4 (.s 1)), o 12 (.mv (.s 4)), o 13 (.mv (.s 5)),
 o 14 (.call true (cf 158) [(.s 11), (.s 12), (.s 13)])]) (.seq (.region false [ o 15 (.mv (.s 4)), o 16 (.call false (cf 159) [(.s 15)]), o 17 (.mv (.s 5)),
 o 18 (.call false (cf 159) [(.s 17)]), o 2 (.mv (.s 16)), o 3 (.mv (.s 18))]) .ret))))))⟩
def f145 : F := ⟨19, false, [.s 4], (.seq (.region false [ o 4 (.mv (ci 0))]) (.seq (.seq (.region false [ o 6 (.mv (.s 0)), o 7 (.len (.s 6)), o 8 (.mv (ci 0))]) (.block 0 (.loop
 (.seq (.region false [ o 9 (.bin .lss (.s 8) (.s 7))]) (.seq (.cond (.s 9) .skip (.exit 0)) (.seq (.block 1 (.seq (.region false [ o 10 (.mv (.s 8)), o 5 (.mv (.s 10))]) (.seq
 (.region false [ o 11 (.mv (.s 1)), o 12 (.mv (.s 0)), o 13 (.mv (.s 5)), o 14 (.iaddrS 1 (.s 12) (.s 13)), o 15 (.load false 1 (.s 14)), o 16 (.call false (.s 11) [(.s 15)])])
 (.cond (.s 16) (.seq (.region false [ o 17 (.mv (.s 5)), o 4 (.mv (.s 17))]) .ret) .skip)))) (.region false [ o 18 (.bin .add (.s 8) (ci 1)), o 8 (.mv (.s 18))]))))))) (.seq
 (.region false [ o 4 (.mv (ci (-1)))]) .ret)))⟩
def f146 : F := ⟨22, false, [.s 4], (.seq (.region false [ o 4 (.mv (cb false))]) (.seq (.region true [ o 5 (.mv (.s 0)), o 6 (.faddr 0 (.s 1)), o 7 (.faddr 0 (.s 6)),
 o 8 (.load false 1 (.s 7)), o 9 (.len (.s 8)), o 10 (.call false (cf 96) [(.s 5), (.s 9)]), o 11 (.mv (.s 10)), og 11 true 12 (.faddr 0 (.s 1)), og 11 true 13 (.faddr 0 (.s 12)),
 og 11 true 14 (.load false 1 (.s 13)), og 11 true 15 (.mv (.s 0)), og 11 true 16 (.iaddrS 6 (.s 14) (.s 15)), og 11 true 17 (.faddr 3 (.s 16)),
 og 11 true 18 (.load false 1 (.s 17)), og 11 true 19 (.load false 1 (.s 2)), og 11 true 20 (.bin .eql (.s 18) (.s 19)), o 21 (.pick (.s 11) (.s 20) (cb false)), o 4 (.mv (.s 21))])
 .ret))⟩
def f147 : F := ⟨20, false, [.s 6], (.seq (.region false [ o 3 (.boxL 4 (.s 0)), o 5 (.boxL 11 (.s 2)), o 6 (.mv (cb false))]) (.seq (.region false [ o 8 (.loadL true 4 (.s 3)),
 o 9 (.mv (.s 1)), o 10 (.call false (cf 133) [(.s 8), (.s 9)]), o 7 (.mv (.s 10))]) (.seq (.region false [ o 11 (.loadL true 11 (.s 5)), o 12 (.mv (.s 7)),
 o 13 (.call false (cf 161) [(.s 11), (.s 12)]), o 14 (.mv (.s 13)), og 14 true 15 (.faddrL 7 (.s 5)), og 14 true 16 (.loadL false 1 (.s 15)), og 14 true 17 (.mv (.s 7)),
 og 14 true 18 (.call false (cf 162) [(.s 16), (.s 17)]), o 19 (.pick (.s 14) (.s 18) (cb false)), o 6 (.mv (.s 19))]) .ret)))⟩
def f148 : F := ⟨91, false, [.s 6], (.seq (.region false [ o 3 (.boxL 4 (.s 0)), o 5 (.boxL 11 (.s 2)), o 6 (.mv (cb false))]) (.seq (.region false [ o 12 (.loadL true 4 (.s 3)),
 o 13 (.mv (.s 1)), o 14 (.call false (cf 133) [(.s 12), (.s 13)]), o 7 (.mv (.s 14))]) (.seq (.seq (.region false [ o 15 (.faddrL 7 (.s 5)), o 16 (.loadL false 1 (.s 15)),
 o 17 (.len (.s 16)), o 18 (.bin .eql (.s 17) (ci 0)), o 19 (.mv (.s 18)), og 19 false 20 (.faddrL 3 (.s 5)), og 19 false 21 (.loadL true 4 (.s 20)), og 19 false 22 (.mv (.s 7)),
 og 19 false 23 (.call false (cf 108) [(.s 21), (.s 22)]), og 19 false 24 (.un .not (.s 23)), o 25 (.pick (.s 19) (cb true) (.s 24))]) (.cond (.s 25) (.seq (.region false [
 o 6 (.mv (cb false))]) .ret) .skip)) (.seq (.region true [ o 26 (.faddrL 7 (.s 5)), o 27 (.loadL false 1 (.s 26)), o 28 (.iaddrS 5 (.s 27) (ci 0)), o 29 (.faddr 0 (.s 28)),
 o 30 (.load false 1 (.s 29)), o 31 (.faddrL 7 (.s 5)), o 32 (.loadL false 1 (.s 31)), o 33 (.iaddrS 5 (.s 32) (ci 0)), o 34 (.faddr 1 (.s 33)), o 35 (.load true 4 (.s 34)),
 o 9 (.allocL [(.t (.int .i64 0)), (.t (.int .i64 0)), (.t (.int .i64 0)), (.t .nils)]), o 8 (.mv (.s 30)), on (.storeL 4 (.s 9) (.s 35))]) (.seq (.seq (.region false [
 o 36 (.mv (.s 7)), o 37 (.mv (.s 8)), o 38 (.call false (.s 36) [(.s 37)]), o 39 (.un .not (.s 38)), o 40 (.mv (.s 39)), og 40 false 41 (.loadL true 4 (.s 3)),
 og 40 false 42 (.mv (.s 8)), og 40 false 43 (.call false (cf 163) [(.s 41), (.s 42)]), o 44 (.pick (.s 40) (cb true) (.s 43)), o 45 (.mv (.s 44)), og 45 false 46 (.faddrL 0 (.s 9)),
 og 45 false 47 (.loadL false 1 (.s 46)), og 45 false 48 (.bin .neq (.s 47) (ci 2)), o 49 (.pick (.s 45) (cb true) (.s 48)), o 50 (.mv (.s 49)),
 og 50 false 51 (.loadL true 4 (.s 3)), og 50 false 52 (.faddrL 2 (.s 9)), og 50 false 53 (.loadL false 1 (.s 52)), og 50 false 54 (.call false (cf 100) [(.s 51), (.s 53)]),
 og 50 false 55 (.un .not (.s 54)), o 56 (.pick (.s 50) (cb true) (.s 55)), o 57 (.mv (.s 56)), og 57 false 58 (.loadL true 4 (.s 3)), og 57 false 59 (.faddrL 2 (.s 9)),
 og 57 false 60 (.loadL false 1 (.s 59)), og 57 false 61 (.call false (cf 163) [(.s 58), (.s 60)]), o 62 (.pick (.s 57) (cb true) (.s 61))]) (.cond (.s 62) (.seq (.region false [
 o 6 (.mv (cb false))]) .ret) .skip)) (.seq (.seq (.region false [ o 63 (.faddrL 7 (.s 5)), o 64 (.loadL false 1 (.s 63)), o 65 (.slice 5 (.s 64) (some (ci 1)) none none),
 o 66 (.len (.s 65)), o 67 (.mv (ci 0))]) (.block 0 (.loop (.seq (.region false [ o 68 (.bin .lss (.s 67) (.s 66))]) (.seq (.cond (.s 68) .skip (.exit 0)) (.seq (.block 1 (.seq
 (.region false [ o 69 (.iaddrS 5 (.s 65) (.s 67)), o 70 (.load true 5 (.s 69)),
 o 11 (.allocL [(.t (.int .i64 0)), (.t (.int .i64 0)), (.t (.int .i64 0)), (.t (.int .i64 0)), (.t .nils)]), on (.storeL 5 (.s 11) (.s 70))]) (.seq (.region false [
 o 71 (.mv (.s 7)), o 72 (.faddrL 0 (.s 11)), o 73 (.loadL false 1 (.s 72)), o 74 (.call false (.s 71) [(.s 73)]), o 75 (.un .not (.s 74)), o 76 (.mv (.s 75)),
 og 76 false 77 (.loadL true 4 (.s 3)), og 76 false 78 (.faddrL 0 (.s 11)), og 76 false 79 (.loadL false 1 (.s 78)), og 76 false 80 (.call false (cf 163) [(.s 77), (.s 79)]),
 og 76 false 81 (.un .not (.s 80)), o 82 (.pick (.s 76) (cb true) (.s 81)), o 83 (.mv (.s 82)), og 83 false 84 (.faddrL 1 (.s 11)), og 83 false 85 (.loadL true 4 (.s 84)),
 og 83 false 86 (.mv (.s 7)), og 83 false 87 (.call false (cf 108) [(.s 85), (.s 86)]), og 83 false 88 (.un .not (.s 87)), o 89 (.pick (.s 83) (cb true) (.s 88))]) (.cond (.s 89)
 (.seq (.region false [ o 6 (.mv (cb false))]) .ret) .skip)))) (.region false [ o 90 (.bin .add (.s 67) (ci 1)), o 67 (.mv (.s 90))]))))))) (.seq (.region false [
 o 6 (.mv (cb true))]) .ret)))))))⟩
def f149 : F := ⟨43, false, [.s 6], (.seq (.region false [ o 3 (.boxH 4 (.s 0)), o 5 (.boxL 11 (.s 2)), o 6 (.mv (cb false))]) (.seq (.seq (.region true [ o 9 (.faddrL 7 (.s 5)),
 o 10 (.loadL false 1 (.s 9)), o 11 (.len (.s 10)), o 12 (.bin .eql (.s 11) (ci 0)), o 13 (.mv (.s 12)), og 13 false 14 (.loadL true 11 (.s 5)), og 13 false 15 (.load true 4 (.s 3)),
 og 13 false 16 (.mv (.s 1)), og 13 false 17 (.call false (cf 133) [(.s 15), (.s 16)]), og 13 false 18 (.call false (cf 161) [(.s 14), (.s 17)]), og 13 false 19 (.un .not (.s 18)),
 o 20 (.pick (.s 13) (cb true) (.s 19))]) (.cond (.s 20) (.seq (.region false [ o 6 (.mv (cb false))]) .ret) .skip)) (.seq (.seq (.region false [ o 21 (.faddrL 7 (.s 5)),
 o 22 (.loadL false 1 (.s 21)), o 23 (.iaddrS 5 (.s 22) (ci 0)), o 24 (.faddr 0 (.s 23)), o 25 (.load false 1 (.s 24)), o 7 (.mv (.s 25))]) (.seq (.region false [
 o 26 (.load true 4 (.s 3)), o 27 (.mv (.s 7)), o 28 (.call false (cf 100) [(.s 26), (.s 27)]), o 29 (.un .not (.s 28)), o 30 (.mv (.s 29)), og 30 false 31 (.load true 4 (.s 3)),
 og 30 false 32 (.mv (.s 7)), og 30 false 33 (.call false (cf 163) [(.s 31), (.s 32)]), o 34 (.pick (.s 30) (cb true) (.s 33))]) (.cond (.s 34) (.seq (.region false [
 o 6 (.mv (cb false))]) .ret) .skip))) (.seq (.region false [ o 35 (.load true 4 (.s 3)), o 36 (.mv (.s 1)), o 37 (.call false (cf 104) [(.s 35), (.s 36)]),
 o 8 (.allocH [(.t .nilf)]), on (.store 1 (.s 8) (.s 37))]) (.seq (.region false [ o 38 (.faddrL 7 (.s 5)), o 39 (.loadL false 1 (.s 38)),
 o 40 (.slice 5 (.s 39) (some (ci 1)) none none), o 41 (.mkfn 164 [] [(.s 3), (.s 8)]), o 42 (.call false (cf 162) [(.s 40), (.s 41)]), o 6 (.mv (.s 42))]) .ret)))))⟩
def f150 : F := ⟨20, false, [.s 6], (.seq (.region false [ o 3 (.boxL 4 (.s 0)), o 5 (.boxL 11 (.s 2)), o 6 (.mv (cb false))]) (.seq (.region false [ o 8 (.loadL true 4 (.s 3)),
 o 9 (.mv (.s 1)), o 10 (.call false (cf 104) [(.s 8), (.s 9)]), o 7 (.mv (.s 10))]) (.seq (.region false [ o 11 (.loadL true 11 (.s 5)), o 12 (.mv (.s 7)),
 o 13 (.call false (cf 161) [(.s 11), (.s 12)]), o 14 (.mv (.s 13)), og 14 true 15 (.faddrL 7 (.s 5)), og 14 true 16 (.loadL false 1 (.s 15)), og 14 true 17 (.mv (.s 7)),
 og 14 true 18 (.call false (cf 162) [(.s 16), (.s 17)]), o 19 (.pick (.s 14) (.s 18) (cb false)), o 6 (.mv (.s 19))]) .ret)))⟩
def f151 : F := ⟨9, false, [.s 6], (.seq (.region false [ o 3 (.boxL 4 (.s 0)), o 5 (.boxL 11 (.s 2)), o 6 (.mv (cb false))]) (.seq (.region false [ o 7 (.loadL true 11 (.s 5)),
 o 8 (.call false (cf 165) [(.s 7)]), o 6 (.mv (.s 8))]) .ret))⟩
def f152 : F := ⟨21, false, [.s 6], (.seq (.region false [ o 3 (.boxL 4 (.s 0)), o 5 (.boxL 11 (.s 2)), o 6 (.mv (cb false))]) (.seq (.region false [ o 7 (.loadL true 4 (.s 3)),
 o 8 (.mv (.s 1)), o 9 (.loadL true 11 (.s 5)), o 10 (.call false (cf 153) [(.s 7), (.s 8), (.s 9)]), o 11 (.mv (.s 10)), og 11 true 12 (.faddrL 0 (.s 3)),
 og 11 true 13 (.faddrL 3 (.s 12)), og 11 true 14 (.loadL false 1 (.s 13)), og 11 true 15 (.faddrL 9 (.s 5)), og 11 true 16 (.loadL false 1 (.s 15)),
 og 11 true 17 (.iaddrS 7 (.s 14) (.s 16)), og 11 true 18 (.faddr 6 (.s 17)), og 11 true 19 (.load false 1 (.s 18)), o 20 (.pick (.s 11) (.s 19) (cb false)), o 6 (.mv (.s 20))])
 .ret))⟩
def f153 : F := ⟨24, false, [.s 6], (.seq (.region false [ o 3 (.boxL 4 (.s 0)), o 5 (.boxL 11 (.s 2)), o 6 (.mv (cb false))]) (.seq (.region false [ o 7 (.loadL true 11 (.s 5)),
 o 8 (.call false (cf 165) [(.s 7)]), o 9 (.mv (.s 8)), og 9 true 10 (.faddrL 9 (.s 5)), og 9 true 11 (.loadL false 1 (.s 10)), og 9 true 12 (.mv (.s 1)),
 og 9 true 13 (.bin .neq (.s 11) (.s 12)), o 14 (.pick (.s 9) (.s 13) (cb false)), o 15 (.mv (.s 14)), og 15 true 16 (.faddrL 9 (.s 5)), og 15 true 17 (.loadL false 1 (.s 16)),
 og 15 true 18 (.faddrL 0 (.s 3)), og 15 true 19 (.faddrL 3 (.s 18)), og 15 true 20 (.loadL false 1 (.s 19)), og 15 true 21 (.len (.s 20)),
 og 15 true 22 (.call false (cf 96) [(.s 17), (.s 21)]), o 23 (.pick (.s 15) (.s 22) (cb false)), o 6 (.mv (.s 23))]) .ret))⟩
def f154 : F := ⟨15, false, [.s 6], (.seq (.region false [ o 3 (.boxL 4 (.s 0)), o 6 (.mv (cb false))]) (.seq (.region false [ o 7 (.faddrL 0 (.s 3)), o 8 (.loadL false 1 (.s 7)),
 o 9 (.mv (.s 1)), o 10 (.iaddrS 6 (.s 8) (.s 9)), o 11 (.faddr 3 (.s 10)), o 12 (.load false 1 (.s 11)), o 13 (.mv (.s 2)), o 14 (.bin .eql (.s 12) (.s 13)), o 6 (.mv (.s 14))])
 .ret))⟩
def f155 : F := ⟨12, false, [.s 4], (.seq (.region false [ o 2 (.boxL 4 (.s 0)), o 4 (.mv (cb false))]) (.seq (.region false [ o 5 (.faddrL 0 (.s 2)), o 6 (.loadL false 1 (.s 5)),
 o 7 (.mv (.s 1)), o 8 (.iaddrS 6 (.s 6) (.s 7)), o 9 (.faddr 3 (.s 8)), o 10 (.load false 1 (.s 9)), o 11 (.bin .eql (.s 10) (ci (-1))), o 4 (.mv (.s 11))]) .ret))⟩
def f156 : F := ⟨53, false, [.s 4], (.seq (.region false [ o 2 (.boxL 4 (.s 0)), o 3 (.boxL 4 (.s 1)), o 4 (.mv (cb false))]) (.seq (.seq (.region false [ o 6 (.faddrL 0 (.s 2)),
 o 7 (.loadL false 1 (.s 6)), o 8 (.faddrL 0 (.s 3)), o 9 (.loadL false 1 (.s 8)), o 10 (.bin .neq (.s 7) (.s 9)), o 11 (.mv (.s 10)), og 11 false 12 (.faddrL 1 (.s 2)),
 og 11 false 13 (.loadL false 1 (.s 12)), og 11 false 14 (.faddrL 1 (.s 3)), og 11 false 15 (.loadL false 1 (.s 14)), og 11 false 16 (.bin .neq (.s 13) (.s 15)),
 o 17 (.pick (.s 11) (cb true) (.s 16)), o 18 (.mv (.s 17)), og 18 false 19 (.faddrL 2 (.s 2)), og 18 false 20 (.loadL false 1 (.s 19)), og 18 false 21 (.faddrL 2 (.s 3)),
 og 18 false 22 (.loadL false 1 (.s 21)), og 18 false 23 (.bin .neq (.s 20) (.s 22)), o 24 (.pick (.s 18) (cb true) (.s 23)), o 25 (.mv (.s 24)), og 25 false 26 (.faddrL 3 (.s 2)),
 og 25 false 27 (.loadL false 1 (.s 26)), og 25 false 28 (.len (.s 27)), og 25 false 29 (.faddrL 3 (.s 3)), og 25 false 30 (.loadL false 1 (.s 29)), og 25 false 31 (.len (.s 30)),
 og 25 false 32 (.bin .neq (.s 28) (.s 31)), o 33 (.pick (.s 25) (cb true) (.s 32))]) (.cond (.s 33) (.seq (.region false [ o 4 (.mv (cb false))]) .ret) .skip)) (.seq (.seq
 (.region false [ o 5 (.mv (ci 0))]) (.block 0 (.loop (.seq (.seq (.region false [ o 34 (.mv (.s 5)), o 35 (.faddrL 3 (.s 2)), o 36 (.loadL false 1 (.s 35)), o 37 (.len (.s 36)),
 o 38 (.bin .lss (.s 34) (.s 37))]) (.cond (.s 38) .skip (.exit 0))) (.seq (.block 1 (.seq (.region true [ o 41 (.faddrL 3 (.s 2)), o 42 (.loadL false 1 (.s 41)), o 43 (.mv (.s 5)),
 o 44 (.iaddrS 4 (.s 42) (.s 43)), o 45 (.load true 4 (.s 44)), o 46 (.faddrL 3 (.s 3)), o 47 (.loadL false 1 (.s 46)), o 48 (.mv (.s 5)), o 49 (.iaddrS 4 (.s 47) (.s 48)),
 o 50 (.load true 4 (.s 49)), o 51 (.call false (cf 156) [(.s 45), (.s 50)]), o 52 (.un .not (.s 51))]) (.cond (.s 52) (.seq (.region false [ o 4 (.mv (cb false))]) .ret) .skip)))
 (.region false [ o 39 (.mv (.s 5)), o 40 (.bin .add (.s 39) (ci 1)), o 5 (.mv (.s 40))])))))) (.seq (.region false [ o 4 (.mv (cb true))]) .ret))))⟩
def f157 : F := ⟨2, false, [.l 0 true 4], (.seq (.region false [ o 0 (.allocL [(.t (.int .i64 0)), (.t (.int .i64 0)), (.t (.int .i64 0)), (.t .nils)])]) (.seq (.region false [
 o 1 (.call false (cf 61) [(ci 1), (ci 1)]), on (.storeL 4 (.s 0) (.s 1))]) .ret))⟩
def f158 : F := ⟨36, true, [], (.seq (.region false [ o 3 (.boxL 4 (.s 0))]) (.seq (.seq (.region false [ o 7 (.faddrL 0 (.s 3)), o 8 (.loadL false 1 (.s 7)),
 o 9 (.bin .eql (.s 8) (ci 3))]) (.cond (.s 9) (.region false [ o 10 (.mv (.s 1)), o 11 (.faddrL 2 (.s 3)), o 12 (.loadL false 1 (.s 11)), o 13 (.iaddrS 1 (.s 10) (.s 12)),
 on (.store 1 (.s 13) (cb true))]) .skip)) (.seq (.seq (.region false [ o 14 (.faddrL 0 (.s 3)), o 15 (.loadL false 1 (.s 14)), o 16 (.bin .eql (.s 15) (ci 2))]) (.cond (.s 16)
 (.region false [ o 17 (.mv (.s 2)), o 18 (.faddrL 2 (.s 3)), o 19 (.loadL false 1 (.s 18)), o 20 (.iaddrS 1 (.s 17) (.s 19)), on (.store 1 (.s 20) (cb true))]) .skip)) (.seq
 (.region false [ o 6 (.mv (ci 0))]) (.block 0 (.loop (.seq (.seq (.region false [ o 21 (.mv (.s 6)), o 22 (.faddrL 3 (.s 3)), o 23 (.loadL false 1 (.s 22)), o 24 (.len (.s 23)),
 o 25 (.bin .lss (.s 21) (.s 24))]) (.cond (.s 25) .skip (.exit 0))) (.seq (.block 1 (.region false [ o 28 (.faddrL 3 (.s 3)), o 29 (.loadL false 1 (.s 28)), o 30 (.mv (.s 6)),
 o 31 (.iaddrS 4 (.s 29) (.s 30)), o 32 (.load true 4 (.s 31)), o 33 (.mv (.s 1)), o 34 (.mv (.s 2)), o 35 (.call true (cf 158) [(.s 32), (.s 33), (.s 34)])])) (.region false [
 o 26 (.mv (.s 6)), o 27 (.bin .add (.s 26) (ci 1)), o 6 (.mv (.s 27))])))))))))⟩
def f159 : F := ⟨20, false, [.s 2], (.seq (.region false [ o 2 (.mv (.c (.t .nils)))]) (.seq (.region false [ o 3 (.mv (.c (.t .nils)))]) (.seq (.seq (.region false [
 o 4 (.mv (ci 0))]) (.block 0 (.loop (.seq (.seq (.region false [ o 5 (.mv (.s 4)), o 6 (.mv (.s 0)), o 7 (.len (.s 6)), o 8 (.bin .lss (.s 5) (.s 7))]) (.cond (.s 8) .skip
 (.exit 0))) (.seq (.block 1 (.seq (.region false [ o 11 (.mv (.s 0)), o 12 (.mv (.s 4)), o 13 (.iaddrS 1 (.s 11) (.s 12)), o 14 (.load false 1 (.s 13))]) (.cond (.s 14)
 (.region false [ o 15 (.mv (.s 3)), o 16 (.mv (.s 4)), o 17 (.bslice 1 1 [(.t (.int .i64 0))] [(0, (.s 16))]), o 18 (.append 1 8 (.s 15) (.s 17)), o 3 (.mv (.s 18))]) .skip)))
 (.region false [ o 9 (.mv (.s 4)), o 10 (.bin .add (.s 9) (ci 1)), o 4 (.mv (.s 10))])))))) (.seq (.region false [ o 19 (.mv (.s 3)), o 2 (.mv (.s 19))]) .ret))))⟩
def f161 : F := ⟨25, false, [.s 4], (.seq (.region false [ o 2 (.boxL 11 (.s 0)), o 4 (.mv (cb false))]) (.seq (.seq (.region false [ o 7 (.faddrL 3 (.s 2)),
 o 8 (.loadL true 4 (.s 7)), o 9 (.mv (.s 1)), o 10 (.call false (cf 108) [(.s 8), (.s 9)]), o 11 (.un .not (.s 10))]) (.cond (.s 11) (.seq (.region false [ o 4 (.mv (cb false))])
 .ret) .skip)) (.seq (.seq (.region false [ o 12 (.faddrL 7 (.s 2)), o 13 (.loadL false 1 (.s 12)), o 14 (.len (.s 13)), o 15 (.mv (ci 0))]) (.block 0 (.loop (.seq (.region false [
 o 16 (.bin .lss (.s 15) (.s 14))]) (.seq (.cond (.s 16) .skip (.exit 0)) (.seq (.block 1 (.seq (.region false [ o 17 (.iaddrS 5 (.s 13) (.s 15)), o 18 (.load true 5 (.s 17)),
 o 6 (.allocL [(.t (.int .i64 0)), (.t (.int .i64 0)), (.t (.int .i64 0)), (.t (.int .i64 0)), (.t .nils)]), on (.storeL 5 (.s 6) (.s 18))]) (.seq (.region false [
 o 19 (.faddrL 1 (.s 6)), o 20 (.loadL true 4 (.s 19)), o 21 (.mv (.s 1)), o 22 (.call false (cf 108) [(.s 20), (.s 21)]), o 23 (.un .not (.s 22))]) (.cond (.s 23) (.seq
 (.region false [ o 4 (.mv (cb false))]) .ret) .skip)))) (.region false [ o 24 (.bin .add (.s 15) (ci 1)), o 15 (.mv (.s 24))]))))))) (.seq (.region false [ o 4 (.mv (cb true))])
 .ret))))⟩
def f162 : F := ⟨19, false, [.s 4], (.seq (.region false [ o 4 (.mv (cb false))]) (.seq (.seq (.region false [ o 7 (.mv (.s 0)), o 8 (.len (.s 7)), o 9 (.mv (ci 0))]) (.block 0
 (.loop (.seq (.region false [ o 10 (.bin .lss (.s 9) (.s 8))]) (.seq (.cond (.s 10) .skip (.exit 0)) (.seq (.block 1 (.seq (.region false [ o 11 (.iaddrS 5 (.s 7) (.s 9)),
 o 12 (.load true 5 (.s 11)), o 6 (.allocL [(.t (.int .i64 0)), (.t (.int .i64 0)), (.t (.int .i64 0)), (.t (.int .i64 0)), (.t .nils)]), on (.storeL 5 (.s 6) (.s 12))]) (.seq
 (.region false [ o 13 (.mv (.s 1)), o 14 (.faddrL 0 (.s 6)), o 15 (.loadL false 1 (.s 14)), o 16 (.call false (.s 13) [(.s 15)]), o 17 (.un .not (.s 16))]) (.cond (.s 17) (.seq
 (.region false [ o 4 (.mv (cb false))]) .ret) .skip)))) (.region false [ o 18 (.bin .add (.s 9) (ci 1)), o 9 (.mv (.s 18))]))))))) (.seq (.region false [ o 4 (.mv (cb true))])
 .ret)))⟩
def f163 : F := ⟨12, false, [.s 4], (.seq (.region false [ o 2 (.boxL 4 (.s 0)), o 4 (.mv (cb false))]) (.seq (.region false [ o 5 (.faddrL 0 (.s 2)), o 6 (.faddrL 0 (.s 5)),
 o 7 (.loadL false 1 (.s 6)), o 8 (.mv (.s 1)), o 9 (.iaddrS 6 (.s 7) (.s 8)), o 10 (.faddr 4 (.s 9)), o 11 (.load false 1 (.s 10)), o 4 (.mv (.s 11))]) .ret))⟩
def f164 : F := ⟨13, false, [.s 4], (.seq (.region false [ o 4 (.mv (cb false))]) (.seq (.region false [ o 5 (.load true 4 (.s 1)), o 6 (.mv (.s 0)),
 o 7 (.call false (cf 163) [(.s 5), (.s 6)]), o 8 (.mv (.s 7)), og 8 true 9 (.load false 1 (.s 2)), og 8 true 10 (.mv (.s 0)), og 8 true 11 (.call false (.s 9) [(.s 10)]),
 o 12 (.pick (.s 8) (.s 11) (cb false)), o 4 (.mv (.s 12))]) .ret))⟩
def f165 : F := ⟨12, false, [.s 2], (.seq (.region false [ o 1 (.boxL 11 (.s 0)), o 2 (.mv (cb false))]) (.seq (.region false [ o 3 (.faddrL 3 (.s 1)), o 4 (.loadL true 4 (.s 3)),
 o 5 (.call false (cf 166) [(.s 4)]), o 6 (.mv (.s 5)), og 6 true 7 (.faddrL 7 (.s 1)), og 6 true 8 (.loadL false 1 (.s 7)), og 6 true 9 (.len (.s 8)),
 og 6 true 10 (.bin .eql (.s 9) (ci 0)), o 11 (.pick (.s 6) (.s 10) (cb false)), o 2 (.mv (.s 11))]) .ret))⟩
def f166 : F := ⟨22, false, [.s 2], (.seq (.region false [ o 1 (.boxL 4 (.s 0)), o 2 (.mv (cb false))]) (.seq (.region false [ o 3 (.faddrL 0 (.s 1)), o 4 (.loadL false 1 (.s 3)),
 o 5 (.bin .eql (.s 4) (ci 1)), o 6 (.mv (.s 5)), og 6 true 7 (.faddrL 1 (.s 1)), og 6 true 8 (.loadL false 1 (.s 7)), og 6 true 9 (.bin .eql (.s 8) (ci 1)),
 o 10 (.pick (.s 6) (.s 9) (cb false)), o 11 (.mv (.s 10)), og 11 true 12 (.faddrL 2 (.s 1)), og 11 true 13 (.loadL false 1 (.s 12)), og 11 true 14 (.bin .eql (.s 13) (ci 1)),
 o 15 (.pick (.s 11) (.s 14) (cb false)), o 16 (.mv (.s 15)), og 16 true 17 (.faddrL 3 (.s 1)), og 16 true 18 (.loadL false 1 (.s 17)), og 16 true 19 (.len (.s 18)),
 og 16 true 20 (.bin .eql (.s 19) (ci 0)), o 21 (.pick (.s 16) (.s 20) (cb false)), o 2 (.mv (.s 21))]) .ret))⟩
end Rg
end

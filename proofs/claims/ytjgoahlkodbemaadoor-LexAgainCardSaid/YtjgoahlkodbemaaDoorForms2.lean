/-
  Layer 5: the program in the engine form (written by gen2.py), each held against the program.
-/
import Derived.Test.YtjgoahlkodbemaaDoorEd
import Derived.KernelRfl
import Derived.Test.YtjgoahlkodbemaaDoorChecked
namespace Go.Eng.L05
open Go.Eng Go.Proofs
def f3_r3 : IC := .seq (.reg false [⟨some 18, .call 7 [], none⟩, ⟨some 19, .mov (.t 18), none⟩, ⟨some 20, .mov (.t 3), some (19, true)⟩, ⟨some 21, .lenL (.t 20), some (19, true)⟩, ⟨some 22, .bin .eql (.t 21) (.k (.d (.i .i64 0))), some (19, true)⟩, ⟨some 23, .pick (.t 19) (.t 22) (.k (.d (.b false))), none⟩, ⟨some 24, .mov (.t 23), none⟩, ⟨some 25, .mov (.t 5), some (24, true)⟩, ⟨some 26, .bin .geq (.t 25) (.k (.d (.i .i64 0))), some (24, true)⟩, ⟨some 27, .pick (.t 24) (.t 26) (.k (.d (.b false))), none⟩, ⟨some 28, .mov (.t 27), none⟩, ⟨some 29, .mov (.t 5), some (28, true)⟩, ⟨some 30, .mov (.t 0), some (28, true)⟩, ⟨some 31, .lenS (.t 30), some (28, true)⟩, ⟨some 32, .bin .lss (.t 29) (.t 31), some (28, true)⟩, ⟨some 33, .mov (.t 32), some (28, true)⟩, ⟨some 34, .mov (.t 4), some (33, false)⟩, ⟨some 35, .bin .eql (.t 34) (.k (.d (.i .i64 2))), some (33, false)⟩, ⟨some 36, .pick (.t 33) (.k (.d (.b true))) (.t 35), some (28, true)⟩, ⟨some 37, .pick (.t 28) (.t 36) (.k (.d (.b false))), none⟩, ⟨some 2, .mov (.t 37), none⟩] [0, 3, 4, 5, 18, 19, 20, 21, 22, 23, 24, 25, 26, 27, 28, 29, 30, 31, 32, 33, 34, 35, 36, 37]) (.ret)
def f3_r2 : IC := .cond (.t 17) (f3_r3) (.skip)
def f3_r7 : IC := .cond (.t 41) (.skip) (.exit 0)
def f3_r12 : IC := .seq (.reg false [⟨some 2, .mov (.k (.d (.b false))), none⟩] []) (.ret)
def f3_r11 : IC := .cond (.t 88) (f3_r12) (.skip)
def f3_r13 : IC := .reg false [⟨some 89, .faddr (.t 8) 1, none⟩, ⟨some 90, .load (.t 89) 1 false, none⟩, ⟨some 91, .mov (.t 9), none⟩, ⟨some 92, .bin .add (.t 90) (.t 91), none⟩, ⟨some 6, .mov (.t 92), none⟩] [8, 9, 89, 90, 91, 92]
def f3_r10 : IC := .seq (.seq (.reg true [⟨some 51, .mov (.t 9), none⟩, ⟨some 52, .bin .eql (.t 51) (.k (.d (.i .i64 0))), none⟩, ⟨some 53, .mov (.t 52), none⟩, ⟨some 54, .faddr (.t 8) 1, some (53, false)⟩, ⟨some 55, .load (.t 54) 1 false, some (53, false)⟩, ⟨some 56, .mov (.t 6), some (53, false)⟩, ⟨some 57, .bin .lss (.t 55) (.t 56), some (53, false)⟩, ⟨some 58, .pick (.t 53) (.k (.d (.b true))) (.t 57), none⟩, ⟨some 59, .mov (.t 58), none⟩, ⟨some 60, .faddr (.t 8) 1, some (59, false)⟩, ⟨some 61, .load (.t 60) 1 false, some (59, false)⟩, ⟨some 62, .mov (.t 0), some (59, false)⟩, ⟨some 63, .lenS (.t 62), some (59, false)⟩, ⟨some 64, .mov (.t 9), some (59, false)⟩, ⟨some 65, .bin .sub (.t 63) (.t 64), some (59, false)⟩, ⟨some 66, .bin .gtr (.t 61) (.t 65), some (59, false)⟩, ⟨some 67, .pick (.t 59) (.k (.d (.b true))) (.t 66), none⟩, ⟨some 68, .mov (.t 67), none⟩, ⟨some 69, .mov (.t 0), some (68, false)⟩, ⟨some 70, .faddr (.t 8) 1, some (68, false)⟩, ⟨some 71, .load (.t 70) 1 false, some (68, false)⟩, ⟨some 72, .faddr (.t 8) 1, some (68, false)⟩, ⟨some 73, .load (.t 72) 1 false, some (68, false)⟩, ⟨some 74, .mov (.t 9), some (68, false)⟩, ⟨some 75, .bin .add (.t 73) (.t 74), some (68, false)⟩, ⟨some 76, .slc 0 (.t 69) (some (.t 71)) (some (.t 75)), some (68, false)⟩, ⟨some 77, .faddr (.t 8) 2, some (68, false)⟩, ⟨some 78, .load (.t 77) 1 false, some (68, false)⟩, ⟨some 79, .bin .neq (.t 76) (.t 78), some (68, false)⟩, ⟨some 80, .pick (.t 68) (.k (.d (.b true))) (.t 79), none⟩, ⟨some 81, .mov (.t 80), none⟩, ⟨some 82, .mov (.t 0), some (81, false)⟩, ⟨some 83, .mov (.t 6), some (81, false)⟩, ⟨some 84, .faddr (.t 8) 1, some (81, false)⟩, ⟨some 85, .load (.t 84) 1 false, some (81, false)⟩, ⟨some 86, .callP 8 [.t 82, .t 83, .t 85], some (81, false)⟩, ⟨some 87, .un .not (.t 86), some (81, false)⟩, ⟨some 88, .pick (.t 81) (.k (.d (.b true))) (.t 87), none⟩] [6, 51, 52, 53, 54, 55, 56, 57, 58, 59, 60, 61, 62, 63, 64, 65, 66, 67, 68, 69, 70, 71, 72, 73, 74, 75, 76, 77, 78, 79, 80, 81, 82, 83, 84, 85, 86, 87]) (f3_r11)) (f3_r13)
def f3_r9 : IC := .seq (.reg false [⟨some 48, .faddr (.t 8) 2, none⟩, ⟨some 49, .load (.t 48) 1 false, none⟩, ⟨some 50, .lenS (.t 49), none⟩, ⟨some 9, .mov (.t 50), none⟩] [48, 49, 50]) (f3_r10)
def f3_r14 : IC := .reg false [⟨some 42, .mov (.t 7), none⟩, ⟨some 43, .bin .add (.t 42) (.k (.d (.i .i64 1))), none⟩, ⟨some 7, .mov (.t 43), none⟩] [42, 43]
def f3_r8 : IC := .seq (.block 1 (.seq (.reg false [⟨some 44, .mov (.t 3), none⟩, ⟨some 45, .mov (.t 7), none⟩, ⟨some 46, .iaddr (.t 44) (.t 45) 7, none⟩, ⟨some 47, .load (.t 46) 7 true, none⟩, ⟨some 8, .alloc [.d (.i .i64 0), .d (.i .i64 0), .d (.s []), .d (.i .i64 0), .d (.i .i64 0), .d (.i .i64 0), .d (.s [])], none⟩, ⟨none, .store (.t 8) (.t 47) 7, none⟩] [44, 45, 46, 47]) (f3_r9))) (f3_r14)
def f3_l0 : IC := .loop [0, 3, 5, 6, 7] (.seq (.seq (.reg false [⟨some 38, .mov (.t 7), none⟩, ⟨some 39, .mov (.t 3), none⟩, ⟨some 40, .lenL (.t 39), none⟩, ⟨some 41, .bin .lss (.t 38) (.t 40), none⟩] [38, 39, 40]) (f3_r7)) (f3_r8))
def f3_r6 : IC := .block 0 (f3_l0)
def f3_r15 : IC := .seq (.reg false [⟨some 93, .call 7 [], none⟩, ⟨some 94, .mov (.t 93), none⟩, ⟨some 95, .mov (.t 0), some (94, true)⟩, ⟨some 96, .mov (.t 6), some (94, true)⟩, ⟨some 97, .mov (.t 0), some (94, true)⟩, ⟨some 98, .lenS (.t 97), some (94, true)⟩, ⟨some 99, .call 8 [.t 95, .t 96, .t 98], some (94, true)⟩, ⟨some 100, .pick (.t 94) (.t 99) (.k (.d (.b false))), none⟩, ⟨some 101, .mov (.t 100), none⟩, ⟨some 102, .mov (.t 5), some (101, true)⟩, ⟨some 103, .bin .eql (.t 102) (.k (.d (.i .i64 0))), some (101, true)⟩, ⟨some 104, .pick (.t 101) (.t 103) (.k (.d (.b false))), none⟩, ⟨some 2, .mov (.t 104), none⟩] [0, 5, 6, 93, 94, 95, 96, 97, 98, 99, 100, 101, 102, 103, 104]) (.ret)
def f3_r5 : IC := .seq (.seq (.reg false [⟨some 7, .mov (.k (.d (.i .i64 0))), none⟩] []) (f3_r6)) (f3_r15)
def f3_r4 : IC := .seq (.reg false [⟨some 6, .mov (.k (.d (.i .i64 0))), none⟩] []) (f3_r5)
def f3_r1 : IC := .seq (.seq (.reg false [⟨some 16, .mov (.t 4), none⟩, ⟨some 17, .bin .neq (.t 16) (.k (.d (.i .i64 0))), none⟩] [16]) (f3_r2)) (f3_r4)
def f3_r0 : IC := .seq (.reg false [⟨some 11, .mov (.t 0), none⟩, ⟨some 12, .call 6 [.t 11], none⟩, ⟨some 10, .mov (.t 12), none⟩, ⟨some 13, .ext (.t 10) 0, none⟩, ⟨some 14, .ext (.t 10) 1, none⟩, ⟨some 15, .ext (.t 10) 2, none⟩, ⟨some 3, .movO 13, none⟩, ⟨some 4, .mov (.t 14), none⟩, ⟨some 5, .mov (.t 15), none⟩] [10, 11, 12, 13, 14, 15]) (f3_r1)
def f3_b : IC := .seq (.reg false [⟨some 2, .mov (.k (.d (.b false))), none⟩] [2]) (f3_r0)
/-- custos/custoslaw05.LexStands -/
def f3 : IFn := { body := f3_b, results := [.tmp 2], ntmps := 105 }

def f4_r3 : IC := .seq (.reg false [⟨some 25, .call 7 [], none⟩, ⟨some 4, .mov (.t 25), none⟩] [25]) (.ret)
def f4_r2 : IC := .cond (.t 24) (f4_r3) (.skip)
def f4_r7 : IC := .cond (.t 29) (.skip) (.exit 0)
def f4_r11 : IC := .reg false [⟨some 36, .mov (.t 1), none⟩, ⟨some 37, .mov (.t 9), none⟩, ⟨some 38, .iaddr (.t 36) (.t 37) 1, none⟩, ⟨some 39, .load (.t 38) 1 false, none⟩, ⟨some 40, .bin .rem (.t 39) (.k (.d (.i .i64 3))), none⟩, ⟨some 41, .bin .add (.t 40) (.k (.d (.i .i64 3))), none⟩, ⟨some 42, .bin .rem (.t 41) (.k (.d (.i .i64 3))), none⟩, ⟨some 43, .bin .add (.k (.d (.i .i64 1))) (.t 42), none⟩, ⟨some 10, .mov (.t 43), none⟩] [36, 37, 38, 39, 40, 41, 42, 43]
def f4_r10 : IC := .cond (.t 35) (f4_r11) (.skip)
def f4_r14 : IC := .cond (.t 46) (.skip) (.exit 2)
def f4_r17 : IC := .reg false [⟨some 52, .movO 8, none⟩, ⟨some 53, .bslb [.k (.d (.i .u8 32))], none⟩, ⟨some 54, .app 1 (.t 52) (.t 53) 140737488355328, none⟩, ⟨some 8, .movO 54, none⟩] [52, 53, 54]
def f4_r18 : IC := .reg false [⟨some 55, .movO 8, none⟩, ⟨some 56, .bslb [.k (.d (.i .u8 10))], none⟩, ⟨some 57, .app 1 (.t 55) (.t 56) 140737488355328, none⟩, ⟨some 8, .movO 57, none⟩] [55, 56, 57]
def f4_r16 : IC := .cond (.t 51) (f4_r17) (f4_r18)
def f4_r19 : IC := .reg false [⟨some 47, .mov (.t 11), none⟩, ⟨some 48, .bin .add (.t 47) (.k (.d (.i .i64 1))), none⟩, ⟨some 11, .mov (.t 48), none⟩] [47, 48]
def f4_r15 : IC := .seq (.block 3 (.seq (.reg false [⟨some 49, .mov (.t 11), none⟩, ⟨some 50, .bin .rem (.t 49) (.k (.d (.i .i64 2))), none⟩, ⟨some 51, .bin .eql (.t 50) (.k (.d (.i .i64 0))), none⟩] [49, 50]) (f4_r16))) (f4_r19)
def f4_l0 : IC := .loop [1, 5, 8, 9, 10, 11] (.seq (.seq (.reg false [⟨some 44, .mov (.t 11), none⟩, ⟨some 45, .mov (.t 10), none⟩, ⟨some 46, .bin .lss (.t 44) (.t 45), none⟩] [44, 45]) (f4_r14)) (f4_r15))
def f4_r13 : IC := .block 2 (f4_l0)
def f4_r20 : IC := .reg false [⟨some 58, .movO 8, none⟩, ⟨some 59, .mov (.t 5), none⟩, ⟨some 60, .mov (.t 9), none⟩, ⟨some 61, .iaddr (.t 59) (.t 60) 7, none⟩, ⟨some 62, .faddr (.t 61) 2, none⟩, ⟨some 63, .load (.t 62) 1 false, none⟩, ⟨some 64, .app 1 (.t 58) (.t 63) 140737488355328, none⟩, ⟨some 8, .movO 64, none⟩] [58, 59, 60, 61, 62, 63, 64]
def f4_r12 : IC := .seq (.seq (.reg false [⟨some 11, .mov (.k (.d (.i .i64 0))), none⟩] []) (f4_r13)) (f4_r20)
def f4_r9 : IC := .seq (.seq (.reg false [⟨some 32, .mov (.t 9), none⟩, ⟨some 33, .mov (.t 1), none⟩, ⟨some 34, .lenL (.t 33), none⟩, ⟨some 35, .bin .lss (.t 32) (.t 34), none⟩] [32, 33, 34]) (f4_r10)) (f4_r12)
def f4_r21 : IC := .reg false [⟨some 30, .mov (.t 9), none⟩, ⟨some 31, .bin .add (.t 30) (.k (.d (.i .i64 1))), none⟩, ⟨some 9, .mov (.t 31), none⟩] [30, 31]
def f4_r8 : IC := .seq (.block 1 (.seq (.reg false [⟨some 10, .mov (.k (.d (.i .i64 1))), none⟩] []) (f4_r9))) (f4_r21)
def f4_l1 : IC := .loop [1, 5, 8, 9] (.seq (.seq (.reg false [⟨some 26, .mov (.t 9), none⟩, ⟨some 27, .mov (.t 5), none⟩, ⟨some 28, .lenL (.t 27), none⟩, ⟨some 29, .bin .lss (.t 26) (.t 28), none⟩] [26, 27, 28]) (f4_r7)) (f4_r8))
def f4_r6 : IC := .block 0 (f4_l1)
def f4_r25 : IC := .seq (.reg false [⟨some 75, .call 7 [], none⟩, ⟨some 76, .mov (.t 75), none⟩, ⟨some 77, .mov (.t 13), some (76, true)⟩, ⟨some 78, .bin .eql (.t 77) (.k (.d (.i .i64 2))), some (76, true)⟩, ⟨some 79, .pick (.t 76) (.t 78) (.k (.d (.b false))), none⟩, ⟨some 4, .mov (.t 79), none⟩] [13, 75, 76, 77, 78, 79]) (.ret)
def f4_r24 : IC := .cond (.t 74) (f4_r25) (.skip)
def f4_r28 : IC := .seq (.reg false [⟨some 4, .mov (.k (.d (.b false))), none⟩] []) (.ret)
def f4_r27 : IC := .cond (.t 88) (f4_r28) (.skip)
def f4_r31 : IC := .cond (.t 92) (.skip) (.exit 4)
def f4_r35 : IC := .seq (.reg false [⟨some 4, .mov (.k (.d (.b false))), none⟩] []) (.ret)
def f4_r34 : IC := .cond (.t 122) (f4_r35) (.skip)
def f4_r33 : IC := .seq (.reg true [⟨some 116, .mov (.t 12), none⟩, ⟨some 117, .mov (.t 15), none⟩, ⟨some 118, .iaddr (.t 116) (.t 117) 7, none⟩, ⟨some 119, .load (.t 118) 7 true, none⟩, ⟨some 120, .load (.t 16) 7 true, none⟩, ⟨some 121, .callP 9 [.t 119, .t 120], none⟩, ⟨some 122, .un .not (.t 121), none⟩] [16, 116, 117, 118, 119, 120, 121]) (f4_r34)
def f4_r36 : IC := .reg false [⟨some 93, .mov (.t 15), none⟩, ⟨some 94, .bin .add (.t 93) (.k (.d (.i .i64 1))), none⟩, ⟨some 15, .mov (.t 94), none⟩] [93, 94]
def f4_r32 : IC := .seq (.block 5 (.seq (.reg true [⟨some 95, .mov (.t 5), none⟩, ⟨some 96, .mov (.t 15), none⟩, ⟨some 97, .iaddr (.t 95) (.t 96) 7, none⟩, ⟨some 98, .faddr (.t 97) 0, none⟩, ⟨some 99, .load (.t 98) 1 false, none⟩, ⟨some 100, .mov (.t 12), none⟩, ⟨some 101, .mov (.t 15), none⟩, ⟨some 102, .iaddr (.t 100) (.t 101) 7, none⟩, ⟨some 103, .faddr (.t 102) 1, none⟩, ⟨some 104, .load (.t 103) 1 false, none⟩, ⟨some 105, .mov (.t 5), none⟩, ⟨some 106, .mov (.t 15), none⟩, ⟨some 107, .iaddr (.t 105) (.t 106) 7, none⟩, ⟨some 108, .faddr (.t 107) 2, none⟩, ⟨some 109, .load (.t 108) 1 false, none⟩, ⟨some 110, .mov (.t 5), none⟩, ⟨some 111, .mov (.t 15), none⟩, ⟨some 112, .iaddr (.t 110) (.t 111) 7, none⟩, ⟨some 113, .faddr (.t 112) 3, none⟩, ⟨some 114, .load (.t 113) 4 true, none⟩, ⟨some 115, .build [.d (.i .i64 0), .d (.i .i64 0), .d (.s []), .d (.i .i64 0), .d (.i .i64 0), .d (.i .i64 0), .d (.s [])] [(0, 1, .t 99), (1, 1, .t 104), (2, 1, .t 109), (3, 4, .t 114)], none⟩, ⟨some 16, .alloc [.d (.i .i64 0), .d (.i .i64 0), .d (.s []), .d (.i .i64 0), .d (.i .i64 0), .d (.i .i64 0), .d (.s [])], none⟩, ⟨none, .store (.t 16) (.t 115) 7, none⟩] [95, 96, 97, 98, 99, 100, 101, 102, 103, 104, 105, 106, 107, 108, 109, 110, 111, 112, 113, 114, 115]) (f4_r33))) (f4_r36)
def f4_l2 : IC := .loop [5, 12, 15] (.seq (.seq (.reg false [⟨some 89, .mov (.t 15), none⟩, ⟨some 90, .mov (.t 5), none⟩, ⟨some 91, .lenL (.t 90), none⟩, ⟨some 92, .bin .lss (.t 89) (.t 91), none⟩] [89, 90, 91]) (f4_r31)) (f4_r32))
def f4_r30 : IC := .block 4 (f4_l2)
def f4_r37 : IC := .seq (.reg false [⟨some 123, .call 7 [], none⟩, ⟨some 4, .mov (.t 123), none⟩] [123]) (.ret)
def f4_r29 : IC := .seq (.seq (.reg false [⟨some 15, .mov (.k (.d (.i .i64 0))), none⟩] []) (f4_r30)) (f4_r37)
def f4_r26 : IC := .seq (.seq (.reg false [⟨some 80, .mov (.t 13), none⟩, ⟨some 81, .bin .neq (.t 80) (.k (.d (.i .i64 0))), none⟩, ⟨some 82, .mov (.t 81), none⟩, ⟨some 83, .mov (.t 12), some (82, false)⟩, ⟨some 84, .lenL (.t 83), some (82, false)⟩, ⟨some 85, .mov (.t 5), some (82, false)⟩, ⟨some 86, .lenL (.t 85), some (82, false)⟩, ⟨some 87, .bin .neq (.t 84) (.t 86), some (82, false)⟩, ⟨some 88, .pick (.t 82) (.k (.d (.b true))) (.t 87), none⟩] [13, 80, 81, 82, 83, 84, 85, 86, 87]) (f4_r27)) (f4_r29)
def f4_r23 : IC := .seq (.seq (.reg false [⟨some 72, .mov (.t 8), none⟩, ⟨some 73, .lenL (.t 72), none⟩, ⟨some 74, .bin .gtr (.t 73) (.k (.d (.i .i64 16384))), none⟩] [8, 72, 73]) (f4_r24)) (f4_r26)
def f4_r22 : IC := .seq (.reg false [⟨some 66, .mov (.t 8), none⟩, ⟨some 67, .conv .toStr (.t 66), none⟩, ⟨some 68, .call 6 [.t 67], none⟩, ⟨some 65, .mov (.t 68), none⟩, ⟨some 69, .ext (.t 65) 0, none⟩, ⟨some 70, .ext (.t 65) 1, none⟩, ⟨some 71, .ext (.t 65) 2, none⟩, ⟨some 12, .movO 69, none⟩, ⟨some 13, .mov (.t 70), none⟩, ⟨some 14, .mov (.t 71), none⟩] [14, 65, 66, 67, 68, 69, 70, 71]) (f4_r23)
def f4_r5 : IC := .seq (.seq (.reg false [⟨some 9, .mov (.k (.d (.i .i64 0))), none⟩] []) (f4_r6)) (f4_r22)
def f4_r4 : IC := .seq (.reg false [⟨some 8, .nilB, none⟩] []) (f4_r5)
def f4_r1 : IC := .seq (.seq (.reg false [⟨some 23, .mov (.t 6), none⟩, ⟨some 24, .bin .neq (.t 23) (.k (.d (.i .i64 0))), none⟩] [6, 23]) (f4_r2)) (f4_r4)
def f4_r0 : IC := .seq (.reg false [⟨some 18, .mov (.t 0), none⟩, ⟨some 19, .call 6 [.t 18], none⟩, ⟨some 17, .mov (.t 19), none⟩, ⟨some 20, .ext (.t 17) 0, none⟩, ⟨some 21, .ext (.t 17) 1, none⟩, ⟨some 22, .ext (.t 17) 2, none⟩, ⟨some 5, .movO 20, none⟩, ⟨some 6, .mov (.t 21), none⟩, ⟨some 7, .mov (.t 22), none⟩] [0, 7, 17, 18, 19, 20, 21, 22]) (f4_r1)
def f4_b : IC := .seq (.reg false [⟨some 4, .mov (.k (.d (.b false))), none⟩] [4]) (f4_r0)
/-- custos/custoslaw05.LexAgain -/
def f4 : IFn := { body := f4_b, results := [.tmp 4], ntmps := 124 }

def f5_r3 : IC := .seq (.reg false [⟨some 30, .call 7 [], none⟩, ⟨some 31, .mov (.t 30), none⟩, ⟨some 32, .mov (.t 4), some (31, true)⟩, ⟨some 33, .bin .neq (.t 32) (.k (.d (.i .i64 50))), some (31, true)⟩, ⟨some 34, .pick (.t 31) (.t 33) (.k (.d (.b false))), none⟩, ⟨some 2, .mov (.t 34), none⟩] [4, 30, 31, 32, 33, 34]) (.ret)
def f5_r2 : IC := .cond (.t 29) (f5_r3) (.skip)
def f5_r6 : IC := .seq (.reg false [⟨some 51, .call 7 [], none⟩, ⟨some 52, .mov (.t 51), none⟩, ⟨some 53, .mov (.t 7), some (52, true)⟩, ⟨some 54, .bin .eql (.t 53) (.k (.d (.i .i64 0))), some (52, true)⟩, ⟨some 55, .pick (.t 52) (.t 54) (.k (.d (.b false))), none⟩, ⟨some 56, .mov (.t 55), none⟩, ⟨some 57, .mov (.t 10), some (56, true)⟩, ⟨some 58, .bin .eql (.t 57) (.k (.d (.i .i64 50))), some (56, true)⟩, ⟨some 59, .pick (.t 56) (.t 58) (.k (.d (.b false))), none⟩, ⟨some 60, .mov (.t 59), none⟩, ⟨some 61, .mov (.t 11), some (60, true)⟩, ⟨some 62, .bin .eql (.t 61) (.k (.d (.i .i64 0))), some (60, true)⟩, ⟨some 63, .pick (.t 60) (.t 62) (.k (.d (.b false))), none⟩, ⟨some 2, .mov (.t 63), none⟩] [7, 10, 11, 51, 52, 53, 54, 55, 56, 57, 58, 59, 60, 61, 62, 63]) (.ret)
def f5_r5 : IC := .seq (.reg false [⟨some 44, .mov (.t 0), none⟩, ⟨some 45, .mov (.t 5), none⟩, ⟨some 46, .slc 0 (.t 44) (some (.t 45)) none, none⟩, ⟨some 47, .call 6 [.t 46], none⟩, ⟨some 43, .mov (.t 47), none⟩, ⟨some 48, .ext (.t 43) 0, none⟩, ⟨some 49, .ext (.t 43) 1, none⟩, ⟨some 50, .ext (.t 43) 2, none⟩, ⟨some 9, .movO 48, none⟩, ⟨some 10, .mov (.t 49), none⟩, ⟨some 11, .mov (.t 50), none⟩] [0, 5, 9, 43, 44, 45, 46, 47, 48, 49, 50]) (f5_r6)
def f5_r4 : IC := .seq (.reg false [⟨some 36, .mov (.t 0), none⟩, ⟨some 37, .mov (.t 5), none⟩, ⟨some 38, .slc 0 (.t 36) none (some (.t 37)), none⟩, ⟨some 39, .call 6 [.t 38], none⟩, ⟨some 35, .mov (.t 39), none⟩, ⟨some 40, .ext (.t 35) 0, none⟩, ⟨some 41, .ext (.t 35) 1, none⟩, ⟨some 42, .ext (.t 35) 2, none⟩, ⟨some 6, .movO 40, none⟩, ⟨some 7, .mov (.t 41), none⟩, ⟨some 8, .mov (.t 42), none⟩] [6, 8, 35, 36, 37, 38, 39, 40, 41, 42]) (f5_r5)
def f5_r1 : IC := .seq (.seq (.reg false [⟨some 18, .mov (.t 4), none⟩, ⟨some 19, .bin .neq (.t 18) (.k (.d (.i .i64 50))), none⟩, ⟨some 20, .mov (.t 19), none⟩, ⟨some 21, .mov (.t 5), some (20, false)⟩, ⟨some 22, .bin .lss (.t 21) (.k (.d (.i .i64 0))), some (20, false)⟩, ⟨some 23, .pick (.t 20) (.k (.d (.b true))) (.t 22), none⟩, ⟨some 24, .mov (.t 23), none⟩, ⟨some 25, .mov (.t 5), some (24, false)⟩, ⟨some 26, .mov (.t 0), some (24, false)⟩, ⟨some 27, .lenS (.t 26), some (24, false)⟩, ⟨some 28, .bin .geq (.t 25) (.t 27), some (24, false)⟩, ⟨some 29, .pick (.t 24) (.k (.d (.b true))) (.t 28), none⟩] [18, 19, 20, 21, 22, 23, 24, 25, 26, 27, 28]) (f5_r2)) (f5_r4)
def f5_r0 : IC := .seq (.reg false [⟨some 13, .mov (.t 0), none⟩, ⟨some 14, .call 6 [.t 13], none⟩, ⟨some 12, .mov (.t 14), none⟩, ⟨some 15, .ext (.t 12) 0, none⟩, ⟨some 16, .ext (.t 12) 1, none⟩, ⟨some 17, .ext (.t 12) 2, none⟩, ⟨some 3, .movO 15, none⟩, ⟨some 4, .mov (.t 16), none⟩, ⟨some 5, .mov (.t 17), none⟩] [3, 12, 13, 14, 15, 16, 17]) (f5_r1)
def f5_b : IC := .seq (.reg false [⟨some 2, .mov (.k (.d (.b false))), none⟩] [2]) (f5_r0)
/-- custos/custoslaw05.LexAhead -/
def f5 : IFn := { body := f5_b, results := [.tmp 2], ntmps := 64 }

def f6_r2 : IC := .seq (.reg false [⟨some 2, .nilO 7, none⟩, ⟨some 3, .mov (.k (.d (.i .i64 2))), none⟩, ⟨some 4, .mov (.k (.d (.i .i64 0))), none⟩] []) (.ret)
def f6_r1 : IC := .cond (.t 11) (f6_r2) (.skip)
def f6_r6 : IC := .cond (.t 15) (.skip) (.exit 0)
def f6_r9 : IC := .seq (.reg false [⟨some 26, .mov (.t 6), none⟩, ⟨some 27, .bin .add (.t 26) (.k (.d (.i .i64 1))), none⟩, ⟨some 6, .mov (.t 27), none⟩] [26, 27]) (.exit 1)
def f6_r8 : IC := .cond (.t 25) (f6_r9) (.skip)
def f6_r13 : IC := .seq (.reg false [⟨some 36, .mov (.t 6), none⟩, ⟨some 2, .nilO 7, none⟩, ⟨some 3, .mov (.k (.d (.i .i64 50))), none⟩, ⟨some 4, .mov (.t 36), none⟩] [6, 36]) (.ret)
def f6_r12 : IC := .cond (.t 35) (f6_r13) (.skip)
def f6_r15 : IC := .reg false [⟨some 41, .mov (.t 6), none⟩, ⟨some 42, .faddr (.t 7) 2, none⟩, ⟨some 43, .load (.t 42) 1 false, none⟩, ⟨some 44, .lenS (.t 43), none⟩, ⟨some 45, .bin .add (.t 41) (.t 44), none⟩, ⟨some 6, .mov (.t 45), none⟩] [7, 41, 42, 43, 44, 45]
def f6_r14 : IC := .seq (.reg false [⟨some 37, .movO 5, none⟩, ⟨some 38, .load (.t 7) 7 true, none⟩, ⟨some 39, .bsl 7 [.t 38], none⟩, ⟨some 40, .app 7 (.t 37) (.t 39) 1954687338268, none⟩, ⟨some 5, .movO 40, none⟩] [37, 38, 39, 40]) (f6_r15)
def f6_r11 : IC := .seq (.seq (.reg false [⟨some 34, .mov (.t 8), none⟩, ⟨some 35, .un .not (.t 34), none⟩] [8, 34]) (f6_r12)) (f6_r14)
def f6_r10 : IC := .seq (.reg false [⟨some 29, .mov (.t 0), none⟩, ⟨some 30, .mov (.t 6), none⟩, ⟨some 31, .call 10 [.t 29, .t 30], none⟩, ⟨some 28, .mov (.t 31), none⟩, ⟨some 32, .ext (.t 28) 0, none⟩, ⟨some 33, .ext (.t 28) 1, none⟩, ⟨some 7, .alloc [.d (.i .i64 0), .d (.i .i64 0), .d (.s []), .d (.i .i64 0), .d (.i .i64 0), .d (.i .i64 0), .d (.s [])], none⟩, ⟨none, .store (.t 7) (.t 32) 7, none⟩, ⟨some 8, .mov (.t 33), none⟩] [28, 29, 30, 31, 32, 33]) (f6_r11)
def f6_r7 : IC := .block 1 (.seq (.seq (.reg false [⟨some 16, .mov (.t 0), none⟩, ⟨some 17, .mov (.t 6), none⟩, ⟨some 18, .idx (.t 16) (.t 17), none⟩, ⟨some 19, .bin .eql (.t 18) (.k (.d (.i .u8 32))), none⟩, ⟨some 20, .mov (.t 19), none⟩, ⟨some 21, .mov (.t 0), some (20, false)⟩, ⟨some 22, .mov (.t 6), some (20, false)⟩, ⟨some 23, .idx (.t 21) (.t 22), some (20, false)⟩, ⟨some 24, .bin .eql (.t 23) (.k (.d (.i .u8 10))), some (20, false)⟩, ⟨some 25, .pick (.t 20) (.k (.d (.b true))) (.t 24), none⟩] [16, 17, 18, 19, 20, 21, 22, 23, 24]) (f6_r8)) (f6_r10))
def f6_l0 : IC := .loop [0, 5, 6] (.seq (.seq (.reg false [⟨some 12, .mov (.t 6), none⟩, ⟨some 13, .mov (.t 0), none⟩, ⟨some 14, .lenS (.t 13), none⟩, ⟨some 15, .bin .lss (.t 12) (.t 14), none⟩] [12, 13, 14]) (f6_r6)) (f6_r7))
def f6_r5 : IC := .block 0 (f6_l0)
def f6_r16 : IC := .seq (.reg false [⟨some 46, .mov (.t 5), none⟩, ⟨some 2, .movO 46, none⟩, ⟨some 3, .mov (.k (.d (.i .i64 0))), none⟩, ⟨some 4, .mov (.k (.d (.i .i64 0))), none⟩] [5, 46]) (.ret)
def f6_r4 : IC := .seq (.seq (.reg false [⟨some 6, .mov (.k (.d (.i .i64 0))), none⟩] []) (f6_r5)) (f6_r16)
def f6_r3 : IC := .seq (.reg false [⟨some 5, .nilO 7, none⟩] []) (f6_r4)
def f6_r0 : IC := .seq (.seq (.reg false [⟨some 9, .mov (.t 0), none⟩, ⟨some 10, .lenS (.t 9), none⟩, ⟨some 11, .bin .gtr (.t 10) (.k (.d (.i .i64 16384))), none⟩] [9, 10]) (f6_r1)) (f6_r3)
def f6_b : IC := .seq (.reg false [⟨some 2, .nilO 7, none⟩, ⟨some 3, .mov (.k (.d (.i .i64 0))), none⟩, ⟨some 4, .mov (.k (.d (.i .i64 0))), none⟩] [2, 3, 4]) (f6_r0)
/-- custos/lex.Tokens -/
def f6 : IFn := { body := f6_b, results := [.tmp 2, .tmp 3, .tmp 4], ntmps := 47 }

def f7_r4 : IC := .seq (.reg false [⟨some 0, .mov (.k (.d (.b false))), none⟩] []) (.ret)
def f7_r3 : IC := .cond (.t 35) (f7_r4) (.skip)
def f7_r5 : IC := .seq (.reg false [⟨some 36, .mov (.t 1), none⟩, ⟨some 37, .iaddr (.t 36) (.k (.d (.i .i64 0))) 7, none⟩, ⟨some 38, .faddr (.t 37) 0, none⟩, ⟨some 39, .load (.t 38) 1 false, none⟩, ⟨some 40, .bin .eql (.t 39) (.k (.d (.i .i64 4))), none⟩, ⟨some 41, .mov (.t 40), none⟩, ⟨some 42, .mov (.t 1), some (41, true)⟩, ⟨some 43, .iaddr (.t 42) (.k (.d (.i .i64 0))) 7, some (41, true)⟩, ⟨some 44, .faddr (.t 43) 2, some (41, true)⟩, ⟨some 45, .load (.t 44) 1 false, some (41, true)⟩, ⟨some 46, .bin .eql (.t 45) (.k (.d (.s [60, 61]))), some (41, true)⟩, ⟨some 47, .pick (.t 41) (.t 46) (.k (.d (.b false))), none⟩, ⟨some 48, .mov (.t 47), none⟩, ⟨some 49, .mov (.t 1), some (48, true)⟩, ⟨some 50, .iaddr (.t 49) (.k (.d (.i .i64 2))) 7, some (48, true)⟩, ⟨some 51, .faddr (.t 50) 0, some (48, true)⟩, ⟨some 52, .load (.t 51) 1 false, some (48, true)⟩, ⟨some 53, .bin .eql (.t 52) (.k (.d (.i .i64 6))), some (48, true)⟩, ⟨some 54, .pick (.t 48) (.t 53) (.k (.d (.b false))), none⟩, ⟨some 55, .mov (.t 54), none⟩, ⟨some 56, .mov (.t 1), some (55, true)⟩, ⟨some 57, .iaddr (.t 56) (.k (.d (.i .i64 2))) 7, some (55, true)⟩, ⟨some 58, .faddr (.t 57) 3, some (55, true)⟩, ⟨some 59, .faddr (.t 58) 1, some (55, true)⟩, ⟨some 60, .load (.t 59) 1 false, some (55, true)⟩, ⟨some 61, .bin .eql (.t 60) (.k (.d (.i .i64 (-5)))), some (55, true)⟩, ⟨some 62, .pick (.t 55) (.t 61) (.k (.d (.b false))), none⟩, ⟨some 63, .mov (.t 62), none⟩, ⟨some 64, .mov (.t 1), some (63, true)⟩, ⟨some 65, .iaddr (.t 64) (.k (.d (.i .i64 5))) 7, some (63, true)⟩, ⟨some 66, .faddr (.t 65) 0, some (63, true)⟩, ⟨some 67, .load (.t 66) 1 false, some (63, true)⟩, ⟨some 68, .bin .eql (.t 67) (.k (.d (.i .i64 5))), some (63, true)⟩, ⟨some 69, .pick (.t 63) (.t 68) (.k (.d (.b false))), none⟩, ⟨some 70, .mov (.t 69), none⟩, ⟨some 71, .mov (.t 1), some (70, true)⟩, ⟨some 72, .iaddr (.t 71) (.k (.d (.i .i64 6))) 7, some (70, true)⟩, ⟨some 73, .faddr (.t 72) 0, some (70, true)⟩, ⟨some 74, .load (.t 73) 1 false, some (70, true)⟩, ⟨some 75, .bin .eql (.t 74) (.k (.d (.i .i64 7))), some (70, true)⟩, ⟨some 76, .pick (.t 70) (.t 75) (.k (.d (.b false))), none⟩, ⟨some 77, .mov (.t 76), none⟩, ⟨some 78, .mov (.t 1), some (77, true)⟩, ⟨some 79, .iaddr (.t 78) (.k (.d (.i .i64 6))) 7, some (77, true)⟩, ⟨some 80, .faddr (.t 79) 3, some (77, true)⟩, ⟨some 81, .faddr (.t 80) 1, some (77, true)⟩, ⟨some 82, .load (.t 81) 1 false, some (77, true)⟩, ⟨some 83, .bin .eql (.t 82) (.k (.d (.i .i64 7))), some (77, true)⟩, ⟨some 84, .pick (.t 77) (.t 83) (.k (.d (.b false))), none⟩, ⟨some 85, .mov (.t 84), none⟩, ⟨some 86, .mov (.t 1), some (85, true)⟩, ⟨some 87, .iaddr (.t 86) (.k (.d (.i .i64 7))) 7, some (85, true)⟩, ⟨some 88, .faddr (.t 87) 0, some (85, true)⟩, ⟨some 89, .load (.t 88) 1 false, some (85, true)⟩, ⟨some 90, .bin .eql (.t 89) (.k (.d (.i .i64 1))), some (85, true)⟩, ⟨some 91, .pick (.t 85) (.t 90) (.k (.d (.b false))), none⟩, ⟨some 0, .mov (.t 91), none⟩] [1, 36, 37, 38, 39, 40, 41, 42, 43, 44, 45, 46, 47, 48, 49, 50, 51, 52, 53, 54, 55, 56, 57, 58, 59, 60, 61, 62, 63, 64, 65, 66, 67, 68, 69, 70, 71, 72, 73, 74, 75, 76, 77, 78, 79, 80, 81, 82, 83, 84, 85, 86, 87, 88, 89, 90, 91]) (.ret)
def f7_r2 : IC := .seq (.seq (.reg false [⟨some 17, .mov (.t 2), none⟩, ⟨some 18, .bin .neq (.t 17) (.k (.d (.i .i64 0))), none⟩, ⟨some 19, .mov (.t 18), none⟩, ⟨some 20, .mov (.t 3), some (19, false)⟩, ⟨some 21, .bin .neq (.t 20) (.k (.d (.i .i64 0))), some (19, false)⟩, ⟨some 22, .pick (.t 19) (.k (.d (.b true))) (.t 21), none⟩, ⟨some 23, .mov (.t 22), none⟩, ⟨some 24, .mov (.t 5), some (23, false)⟩, ⟨some 25, .bin .neq (.t 24) (.k (.d (.i .i64 50))), some (23, false)⟩, ⟨some 26, .pick (.t 23) (.k (.d (.b true))) (.t 25), none⟩, ⟨some 27, .mov (.t 26), none⟩, ⟨some 28, .mov (.t 6), some (27, false)⟩, ⟨some 29, .bin .neq (.t 28) (.k (.d (.i .i64 6))), some (27, false)⟩, ⟨some 30, .pick (.t 27) (.k (.d (.b true))) (.t 29), none⟩, ⟨some 31, .mov (.t 30), none⟩, ⟨some 32, .mov (.t 1), some (31, false)⟩, ⟨some 33, .lenL (.t 32), some (31, false)⟩, ⟨some 34, .bin .neq (.t 33) (.k (.d (.i .i64 8))), some (31, false)⟩, ⟨some 35, .pick (.t 31) (.k (.d (.b true))) (.t 34), none⟩] [2, 3, 5, 6, 17, 18, 19, 20, 21, 22, 23, 24, 25, 26, 27, 28, 29, 30, 31, 32, 33, 34]) (f7_r3)) (f7_r5)
def f7_r1 : IC := .seq (.reg false [⟨some 13, .call 6 [.k (.d (.s [97, 32, 49, 47, 50, 32, 48, 53]))], none⟩, ⟨some 12, .mov (.t 13), none⟩, ⟨some 14, .ext (.t 12) 0, none⟩, ⟨some 15, .ext (.t 12) 1, none⟩, ⟨some 16, .ext (.t 12) 2, none⟩, ⟨some 4, .movO 14, none⟩, ⟨some 5, .mov (.t 15), none⟩, ⟨some 6, .mov (.t 16), none⟩] [4, 12, 13, 14, 15, 16]) (f7_r2)
def f7_r0 : IC := .seq (.reg false [⟨some 8, .call 6 [.k (.d (.s [60, 61, 61, 45, 53, 45, 45, 53, 32, 91, 48, 44, 53, 93, 10, 64, 55, 40]))], none⟩, ⟨some 7, .mov (.t 8), none⟩, ⟨some 9, .ext (.t 7) 0, none⟩, ⟨some 10, .ext (.t 7) 1, none⟩, ⟨some 11, .ext (.t 7) 2, none⟩, ⟨some 1, .movO 9, none⟩, ⟨some 2, .mov (.t 10), none⟩, ⟨some 3, .mov (.t 11), none⟩] [7, 8, 9, 10, 11]) (f7_r1)
def f7_b : IC := .seq (.reg false [⟨some 0, .mov (.k (.d (.b false))), none⟩] [0]) (f7_r0)
/-- custos/custoslaw05.live -/
def f7 : IFn := { body := f7_b, results := [.tmp 0], ntmps := 92 }

def f8_r2 : IC := .cond (.t 11) (.skip) (.exit 0)
def f8_r5 : IC := .seq (.reg false [⟨some 6, .mov (.k (.d (.b false))), none⟩] []) (.ret)
def f8_r4 : IC := .cond (.t 23) (f8_r5) (.skip)
def f8_r6 : IC := .reg false [⟨some 12, .mov (.t 7), none⟩, ⟨some 13, .bin .add (.t 12) (.k (.d (.i .i64 1))), none⟩, ⟨some 7, .mov (.t 13), none⟩] [12, 13]
def f8_r3 : IC := .seq (.block 1 (.seq (.reg false [⟨some 14, .mov (.t 0), none⟩, ⟨some 15, .mov (.t 7), none⟩, ⟨some 16, .idx (.t 14) (.t 15), none⟩, ⟨some 17, .bin .neq (.t 16) (.k (.d (.i .u8 32))), none⟩, ⟨some 18, .mov (.t 17), none⟩, ⟨some 19, .mov (.t 0), some (18, true)⟩, ⟨some 20, .mov (.t 7), some (18, true)⟩, ⟨some 21, .idx (.t 19) (.t 20), some (18, true)⟩, ⟨some 22, .bin .neq (.t 21) (.k (.d (.i .u8 10))), some (18, true)⟩, ⟨some 23, .pick (.t 18) (.t 22) (.k (.d (.b false))), none⟩] [14, 15, 16, 17, 18, 19, 20, 21, 22]) (f8_r4))) (f8_r6)
def f8_l0 : IC := .loop [0, 2, 7] (.seq (.seq (.reg false [⟨some 9, .mov (.t 7), none⟩, ⟨some 10, .mov (.t 2), none⟩, ⟨some 11, .bin .lss (.t 9) (.t 10), none⟩] [9, 10]) (f8_r2)) (f8_r3))
def f8_r1 : IC := .block 0 (f8_l0)
def f8_r7 : IC := .seq (.reg false [⟨some 6, .mov (.k (.d (.b true))), none⟩] []) (.ret)
def f8_r0 : IC := .seq (.seq (.reg false [⟨some 8, .mov (.t 1), none⟩, ⟨some 7, .mov (.t 8), none⟩] [1, 8]) (f8_r1)) (f8_r7)
def f8_b : IC := .seq (.reg false [⟨some 6, .mov (.k (.d (.b false))), none⟩] [6]) (f8_r0)
/-- custos/custoslaw05.blank -/
def f8 : IFn := { body := f8_b, results := [.tmp 6], ntmps := 24 }

def f9_r1 : IC := .seq (.reg false [⟨some 40, .faddr (.t 2) 0, none⟩, ⟨some 41, .load (.t 40) 1 false, none⟩, ⟨some 42, .faddr (.t 3) 0, none⟩, ⟨some 43, .load (.t 42) 1 false, none⟩, ⟨some 44, .bin .eql (.t 41) (.t 43), none⟩, ⟨some 45, .mov (.t 44), none⟩, ⟨some 46, .faddr (.t 2) 1, some (45, true)⟩, ⟨some 47, .load (.t 46) 1 false, some (45, true)⟩, ⟨some 48, .faddr (.t 3) 1, some (45, true)⟩, ⟨some 49, .load (.t 48) 1 false, some (45, true)⟩, ⟨some 50, .bin .eql (.t 47) (.t 49), some (45, true)⟩, ⟨some 51, .pick (.t 45) (.t 50) (.k (.d (.b false))), none⟩, ⟨some 52, .mov (.t 51), none⟩, ⟨some 53, .faddr (.t 2) 2, some (52, true)⟩, ⟨some 54, .load (.t 53) 1 false, some (52, true)⟩, ⟨some 55, .faddr (.t 3) 2, some (52, true)⟩, ⟨some 56, .load (.t 55) 1 false, some (52, true)⟩, ⟨some 57, .bin .eql (.t 54) (.t 56), some (52, true)⟩, ⟨some 58, .pick (.t 52) (.t 57) (.k (.d (.b false))), none⟩, ⟨some 59, .mov (.t 58), none⟩, ⟨some 60, .mov (.t 5), some (59, true)⟩, ⟨some 61, .pick (.t 59) (.t 60) (.k (.d (.b false))), none⟩, ⟨some 4, .mov (.t 61), none⟩] [2, 3, 5, 40, 41, 42, 43, 44, 45, 46, 47, 48, 49, 50, 51, 52, 53, 54, 55, 56, 57, 58, 59, 60, 61]) (.ret)
def f9_r0 : IC := .seq (.reg false [⟨some 6, .faddr (.t 2) 3, none⟩, ⟨some 7, .faddr (.t 6) 0, none⟩, ⟨some 8, .load (.t 7) 1 false, none⟩, ⟨some 9, .faddr (.t 3) 3, none⟩, ⟨some 10, .faddr (.t 9) 0, none⟩, ⟨some 11, .load (.t 10) 1 false, none⟩, ⟨some 12, .bin .eql (.t 8) (.t 11), none⟩, ⟨some 13, .mov (.t 12), none⟩, ⟨some 14, .faddr (.t 2) 3, some (13, true)⟩, ⟨some 15, .faddr (.t 14) 1, some (13, true)⟩, ⟨some 16, .load (.t 15) 1 false, some (13, true)⟩, ⟨some 17, .faddr (.t 3) 3, some (13, true)⟩, ⟨some 18, .faddr (.t 17) 1, some (13, true)⟩, ⟨some 19, .load (.t 18) 1 false, some (13, true)⟩, ⟨some 20, .bin .eql (.t 16) (.t 19), some (13, true)⟩, ⟨some 21, .pick (.t 13) (.t 20) (.k (.d (.b false))), none⟩, ⟨some 22, .mov (.t 21), none⟩, ⟨some 23, .faddr (.t 2) 3, some (22, true)⟩, ⟨some 24, .faddr (.t 23) 2, some (22, true)⟩, ⟨some 25, .load (.t 24) 1 false, some (22, true)⟩, ⟨some 26, .faddr (.t 3) 3, some (22, true)⟩, ⟨some 27, .faddr (.t 26) 2, some (22, true)⟩, ⟨some 28, .load (.t 27) 1 false, some (22, true)⟩, ⟨some 29, .bin .eql (.t 25) (.t 28), some (22, true)⟩, ⟨some 30, .pick (.t 22) (.t 29) (.k (.d (.b false))), none⟩, ⟨some 31, .mov (.t 30), none⟩, ⟨some 32, .faddr (.t 2) 3, some (31, true)⟩, ⟨some 33, .faddr (.t 32) 3, some (31, true)⟩, ⟨some 34, .load (.t 33) 1 false, some (31, true)⟩, ⟨some 35, .faddr (.t 3) 3, some (31, true)⟩, ⟨some 36, .faddr (.t 35) 3, some (31, true)⟩, ⟨some 37, .load (.t 36) 1 false, some (31, true)⟩, ⟨some 38, .bin .eql (.t 34) (.t 37), some (31, true)⟩, ⟨some 39, .pick (.t 31) (.t 38) (.k (.d (.b false))), none⟩, ⟨some 5, .mov (.t 39), none⟩] [6, 7, 8, 9, 10, 11, 12, 13, 14, 15, 16, 17, 18, 19, 20, 21, 22, 23, 24, 25, 26, 27, 28, 29, 30, 31, 32, 33, 34, 35, 36, 37, 38, 39]) (f9_r1)
def f9_b : IC := .seq (.reg false [⟨some 2, .box (.t 0) 7, none⟩, ⟨some 3, .box (.t 1) 7, none⟩, ⟨some 4, .mov (.k (.d (.b false))), none⟩] [0, 1, 4]) (f9_r0)
/-- custos/custoslaw05.same -/
def f9 : IFn := { body := f9_b, results := [.tmp 4], ntmps := 62 }

def f10_r6 : IC := .reg false [⟨some 34, .faddr (.t 8) 2, none⟩, ⟨some 35, .load (.t 34) 1 false, none⟩, ⟨some 36, .lenS (.t 35), none⟩, ⟨some 37, .bin .leq (.t 36) (.k (.d (.i .i64 16))), none⟩, ⟨some 9, .mov (.t 37), none⟩] [34, 35, 36, 37]
def f10_r9 : IC := .reg false [⟨some 40, .faddr (.t 8) 2, none⟩, ⟨some 41, .load (.t 40) 1 false, none⟩, ⟨some 42, .call 12 [.t 41], none⟩, ⟨some 9, .mov (.t 42), none⟩] [40, 41, 42]
def f10_r14 : IC := .reg false [⟨some 53, .mov (.t 11), none⟩, ⟨some 54, .bin .eql (.t 53) (.k (.d (.i .i64 0))), none⟩, ⟨some 9, .mov (.t 54), none⟩] [11, 53, 54]
def f10_r13 : IC := .seq (.reg false [⟨some 51, .load (.t 10) 4 true, none⟩, ⟨some 52, .faddr (.t 8) 3, none⟩, ⟨none, .store (.t 52) (.t 51) 4, none⟩] [10, 51, 52]) (f10_r14)
def f10_r12 : IC := .seq (.reg false [⟨some 46, .faddr (.t 8) 2, none⟩, ⟨some 47, .load (.t 46) 1 false, none⟩, ⟨some 48, .call 13 [.t 47], none⟩, ⟨some 45, .mov (.t 48), none⟩, ⟨some 49, .ext (.t 45) 0, none⟩, ⟨some 50, .ext (.t 45) 1, none⟩, ⟨some 10, .alloc [.d (.i .i64 0), .d (.i .i64 0), .d (.i .i64 0), .d (.s [])], none⟩, ⟨none, .store (.t 10) (.t 49) 4, none⟩, ⟨some 11, .mov (.t 50), none⟩] [45, 46, 47, 48, 49, 50]) (f10_r13)
def f10_r19 : IC := .reg false [⟨some 67, .mov (.t 13), none⟩, ⟨some 9, .mov (.t 67), none⟩] [13, 67]
def f10_r18 : IC := .seq (.reg false [⟨some 64, .mov (.t 12), none⟩, ⟨some 65, .build [.d (.i .i64 0), .d (.i .i64 0), .d (.i .i64 0), .d (.s [])] [(0, 1, .k (.d (.i .i64 1))), (1, 1, .t 64)], none⟩, ⟨some 66, .faddr (.t 8) 3, none⟩, ⟨none, .store (.t 66) (.t 65) 4, none⟩] [12, 64, 65, 66]) (f10_r19)
def f10_r17 : IC := .seq (.reg false [⟨some 58, .faddr (.t 8) 2, none⟩, ⟨some 59, .load (.t 58) 1 false, none⟩, ⟨some 60, .slc 0 (.t 59) (some (.k (.d (.i .i64 1)))) none, none⟩, ⟨some 61, .call 14 [.t 60], none⟩, ⟨some 57, .mov (.t 61), none⟩, ⟨some 62, .ext (.t 57) 0, none⟩, ⟨some 63, .ext (.t 57) 1, none⟩, ⟨some 12, .mov (.t 62), none⟩, ⟨some 13, .mov (.t 63), none⟩] [57, 58, 59, 60, 61, 62, 63]) (f10_r18)
def f10_r16 : IC := .cond (.t 55) (f10_r17) (.skip)
def f10_r15 : IC := .seq (.reg false [⟨some 56, .bin .eql (.t 31) (.k (.d (.i .i64 7))), none⟩, ⟨some 55, .mov (.t 56), none⟩] [31, 56]) (f10_r16)
def f10_r11 : IC := .cond (.t 43) (f10_r12) (f10_r15)
def f10_r10 : IC := .seq (.reg false [⟨some 44, .bin .eql (.t 31) (.k (.d (.i .i64 6))), none⟩, ⟨some 43, .mov (.t 44), none⟩] [44]) (f10_r11)
def f10_r8 : IC := .cond (.t 38) (f10_r9) (f10_r10)
def f10_r7 : IC := .seq (.reg false [⟨some 39, .bin .eql (.t 31) (.k (.d (.i .i64 5))), none⟩, ⟨some 38, .mov (.t 39), none⟩] [39]) (f10_r8)
def f10_r5 : IC := .cond (.t 32) (f10_r6) (f10_r7)
def f10_r4 : IC := .block 0 (.seq (.reg false [⟨some 33, .bin .eql (.t 31) (.k (.d (.i .i64 3))), none⟩, ⟨some 32, .mov (.t 33), none⟩] [33]) (f10_r5))
def f10_r20 : IC := .seq (.reg false [⟨some 68, .load (.t 8) 7 true, none⟩, ⟨some 69, .mov (.t 9), none⟩, ⟨none, .store (.t 4) (.t 68) 7, none⟩, ⟨some 5, .mov (.t 69), none⟩] [8, 9, 68, 69]) (.ret)
def f10_r3 : IC := .seq (.seq (.reg false [⟨some 31, .mov (.t 6), none⟩] [6]) (f10_r4)) (f10_r20)
def f10_r2 : IC := .seq (.reg false [⟨some 29, .mov (.t 6), none⟩, ⟨some 30, .bin .neq (.t 29) (.k (.d (.i .i64 0))), none⟩, ⟨some 9, .mov (.t 30), none⟩] [29, 30]) (f10_r3)
def f10_r1 : IC := .seq (.reg false [⟨some 20, .mov (.t 6), none⟩, ⟨some 21, .mov (.t 1), none⟩, ⟨some 22, .mov (.t 0), none⟩, ⟨some 23, .mov (.t 1), none⟩, ⟨some 24, .mov (.t 1), none⟩, ⟨some 25, .mov (.t 7), none⟩, ⟨some 26, .mx (.t 24) (.t 25), none⟩, ⟨some 27, .slc 0 (.t 22) (some (.t 23)) (some (.t 26)), none⟩, ⟨some 28, .build [.d (.i .i64 0), .d (.i .i64 0), .d (.s []), .d (.i .i64 0), .d (.i .i64 0), .d (.i .i64 0), .d (.s [])] [(0, 1, .t 20), (1, 1, .t 21), (2, 1, .t 27)], none⟩, ⟨some 8, .alloc [.d (.i .i64 0), .d (.i .i64 0), .d (.s []), .d (.i .i64 0), .d (.i .i64 0), .d (.i .i64 0), .d (.s [])], none⟩, ⟨none, .store (.t 8) (.t 28) 7, none⟩] [0, 1, 7, 20, 21, 22, 23, 24, 25, 26, 27, 28]) (f10_r2)
def f10_r0 : IC := .seq (.reg false [⟨some 15, .mov (.t 0), none⟩, ⟨some 16, .mov (.t 1), none⟩, ⟨some 17, .call 11 [.t 15, .t 16], none⟩, ⟨some 14, .mov (.t 17), none⟩, ⟨some 18, .ext (.t 14) 0, none⟩, ⟨some 19, .ext (.t 14) 1, none⟩, ⟨some 6, .mov (.t 18), none⟩, ⟨some 7, .mov (.t 19), none⟩] [14, 15, 16, 17, 18, 19]) (f10_r1)
def f10_b : IC := .seq (.reg false [⟨some 4, .alloc [.d (.i .i64 0), .d (.i .i64 0), .d (.s []), .d (.i .i64 0), .d (.i .i64 0), .d (.i .i64 0), .d (.s [])], none⟩, ⟨some 5, .mov (.k (.d (.b false))), none⟩] [5]) (f10_r0)
/-- custos/lex.one -/
def f10 : IFn := { body := f10_b, results := [.cell 4 7 true, .tmp 5], ntmps := 70 }

def f11_r4 : IC := .seq (.reg false [⟨some 17, .mov (.t 6), none⟩, ⟨some 4, .mov (.k (.d (.i .i64 1))), none⟩, ⟨some 5, .mov (.t 17), none⟩] [6, 17]) (.ret)
def f11_r7 : IC := .seq (.reg false [⟨some 21, .mov (.t 6), none⟩, ⟨some 4, .mov (.k (.d (.i .i64 2))), none⟩, ⟨some 5, .mov (.t 21), none⟩] [6, 21]) (.ret)
def f11_r12 : IC := .reg false [⟨some 32, .mov (.t 8), none⟩, ⟨some 33, .bin .eql (.t 32) (.k (.d (.i .u8 45))), none⟩, ⟨some 34, .mov (.t 33), none⟩, ⟨some 35, .mov (.t 6), some (34, true)⟩, ⟨some 36, .mov (.t 0), some (34, true)⟩, ⟨some 37, .lenS (.t 36), some (34, true)⟩, ⟨some 38, .bin .lss (.t 35) (.t 37), some (34, true)⟩, ⟨some 39, .pick (.t 34) (.t 38) (.k (.d (.b false))), none⟩, ⟨some 40, .mov (.t 39), none⟩, ⟨some 41, .mov (.t 0), some (40, true)⟩, ⟨some 42, .mov (.t 6), some (40, true)⟩, ⟨some 43, .idx (.t 41) (.t 42), some (40, true)⟩, ⟨some 44, .call 15 [.t 43], some (40, true)⟩, ⟨some 45, .pick (.t 40) (.t 44) (.k (.d (.b false))), none⟩, ⟨some 29, .mov (.t 45), none⟩] [32, 33, 34, 35, 36, 37, 38, 39, 40, 41, 42, 43, 44, 45]
def f11_r11 : IC := .cond (.t 29) (.skip) (f11_r12)
def f11_r14 : IC := .seq (.reg false [⟨some 7, .mov (.k (.d (.i .i64 6))), none⟩] []) (.goto 1)
def f11_r17 : IC := .seq (.reg false [⟨some 61, .mov (.t 6), none⟩, ⟨some 62, .bin .add (.t 61) (.k (.d (.i .i64 1))), none⟩, ⟨some 4, .mov (.k (.d (.i .i64 4))), none⟩, ⟨some 5, .mov (.t 62), none⟩] [6, 61, 62]) (.ret)
def f11_r20 : IC := .seq (.reg false [⟨some 67, .mov (.t 6), none⟩, ⟨some 4, .mov (.k (.d (.i .i64 4))), none⟩, ⟨some 5, .mov (.t 67), none⟩] [6, 67]) (.ret)
def f11_r27 : IC := .seq (.reg false [⟨some 7, .mov (.k (.d (.i .i64 7))), none⟩] []) (.goto 1)
def f11_r26 : IC := .cond (.t 74) (f11_r27) (.skip)
def f11_r25 : IC := .seq (.reg false [⟨some 75, .mov (.t 8), none⟩, ⟨some 76, .bin .eql (.t 75) (.k (.d (.i .u8 64))), none⟩, ⟨some 74, .mov (.t 76), none⟩] [8, 75, 76]) (f11_r26)
def f11_r24 : IC := .cond (.t 71) (.goto 3) (f11_r25)
def f11_r23 : IC := .seq (.reg false [⟨some 72, .mov (.t 8), none⟩, ⟨some 73, .bin .eql (.t 72) (.k (.d (.i .u8 34))), none⟩, ⟨some 71, .mov (.t 73), none⟩] [72, 73]) (f11_r24)
def f11_r22 : IC := .cond (.t 68) (.goto 2) (f11_r23)
def f11_r21 : IC := .seq (.reg false [⟨some 69, .mov (.t 8), none⟩, ⟨some 70, .bin .eql (.t 69) (.k (.d (.i .u8 91))), none⟩, ⟨some 68, .mov (.t 70), none⟩] [69, 70]) (f11_r22)
def f11_r19 : IC := .cond (.t 63) (f11_r20) (f11_r21)
def f11_r18 : IC := .seq (.reg false [⟨some 64, .mov (.t 8), none⟩, ⟨some 65, .call 16 [.k (.d (.s [61, 43, 42, 60, 45])), .t 64], none⟩, ⟨some 66, .bin .geq (.t 65) (.k (.d (.i .i64 0))), none⟩, ⟨some 63, .mov (.t 66), none⟩] [64, 65, 66]) (f11_r19)
def f11_r16 : IC := .cond (.t 46) (f11_r17) (f11_r18)
def f11_r15 : IC := .seq (.reg false [⟨some 47, .mov (.t 8), none⟩, ⟨some 48, .bin .eql (.t 47) (.k (.d (.i .u8 60))), none⟩, ⟨some 49, .mov (.t 48), none⟩, ⟨some 50, .mov (.t 6), some (49, true)⟩, ⟨some 51, .mov (.t 0), some (49, true)⟩, ⟨some 52, .lenS (.t 51), some (49, true)⟩, ⟨some 53, .bin .lss (.t 50) (.t 52), some (49, true)⟩, ⟨some 54, .pick (.t 49) (.t 53) (.k (.d (.b false))), none⟩, ⟨some 55, .mov (.t 54), none⟩, ⟨some 56, .mov (.t 0), some (55, true)⟩, ⟨some 57, .mov (.t 6), some (55, true)⟩, ⟨some 58, .idx (.t 56) (.t 57), some (55, true)⟩, ⟨some 59, .bin .eql (.t 58) (.k (.d (.i .u8 61))), some (55, true)⟩, ⟨some 60, .pick (.t 55) (.t 59) (.k (.d (.b false))), none⟩, ⟨some 46, .mov (.t 60), none⟩] [47, 48, 49, 50, 51, 52, 53, 54, 55, 56, 57, 58, 59, 60]) (f11_r16)
def f11_r13 : IC := .kp [0, 1, 6, 8, 29] (.cond (.t 29) (f11_r14) (f11_r15))
def f11_r10 : IC := .seq (.seq (.reg false [⟨some 30, .mov (.t 8), none⟩, ⟨some 31, .call 15 [.t 30], none⟩, ⟨some 29, .mov (.t 31), none⟩] [30, 31]) (f11_r11)) (f11_r13)
def f11_r9 : IC := .cond (.t 22) (.goto 0) (f11_r10)
def f11_r8 : IC := .seq (.reg false [⟨some 23, .mov (.t 8), none⟩, ⟨some 24, .bin .geq (.t 23) (.k (.d (.i .u8 97))), none⟩, ⟨some 25, .mov (.t 24), none⟩, ⟨some 26, .mov (.t 8), some (25, true)⟩, ⟨some 27, .bin .leq (.t 26) (.k (.d (.i .u8 122))), some (25, true)⟩, ⟨some 28, .pick (.t 25) (.t 27) (.k (.d (.b false))), none⟩, ⟨some 22, .mov (.t 28), none⟩] [23, 24, 25, 26, 27, 28]) (f11_r9)
def f11_r6 : IC := .cond (.t 18) (f11_r7) (f11_r8)
def f11_r5 : IC := .seq (.reg false [⟨some 19, .mov (.t 8), none⟩, ⟨some 20, .bin .eql (.t 19) (.k (.d (.i .u8 41))), none⟩, ⟨some 18, .mov (.t 20), none⟩] [19, 20]) (f11_r6)
def f11_r3 : IC := .cond (.t 14) (f11_r4) (f11_r5)
def f11_r2 : IC := .block 0 (.seq (.reg false [⟨some 15, .mov (.t 8), none⟩, ⟨some 16, .bin .eql (.t 15) (.k (.d (.i .u8 40))), none⟩, ⟨some 14, .mov (.t 16), none⟩] [15, 16]) (f11_r3))
def f11_r32 : IC := .seq (.reg false [⟨some 105, .mov (.t 6), none⟩, ⟨some 106, .bin .add (.t 105) (.k (.d (.i .i64 1))), none⟩, ⟨some 6, .mov (.t 106), none⟩] [105, 106]) (.goto 0)
def f11_r31 : IC := .cond (.t 104) (f11_r32) (.skip)
def f11_r37 : IC := .seq (.reg false [⟨some 118, .mov (.t 6), none⟩, ⟨some 119, .bin .add (.t 118) (.k (.d (.i .i64 1))), none⟩, ⟨some 6, .mov (.t 119), none⟩] [118, 119]) (.goto 1)
def f11_r36 : IC := .cond (.t 117) (f11_r37) (.skip)
def f11_r40 : IC := .seq (.reg false [⟨some 150, .mov (.t 6), none⟩, ⟨some 151, .bin .add (.t 150) (.k (.d (.i .i64 1))), none⟩, ⟨some 6, .mov (.t 151), none⟩] [150, 151]) (.goto 1)
def f11_r39 : IC := .cond (.t 149) (f11_r40) (.skip)
def f11_r45 : IC := .seq (.reg false [⟨some 4, .mov (.k (.d (.i .i64 0))), none⟩, ⟨some 5, .mov (.k (.d (.i .i64 0))), none⟩] []) (.ret)
def f11_r44 : IC := .cond (.t 157) (f11_r45) (.skip)
def f11_r50 : IC := .reg false [⟨some 166, .mov (.t 6), none⟩, ⟨some 167, .bin .add (.t 166) (.k (.d (.i .i64 1))), none⟩, ⟨some 6, .mov (.t 167), none⟩] [166, 167]
def f11_r49 : IC := .cond (.t 165) (f11_r50) (.skip)
def f11_r51 : IC := .seq (.reg false [⟨some 168, .mov (.t 6), none⟩, ⟨some 169, .bin .add (.t 168) (.k (.d (.i .i64 1))), none⟩, ⟨some 6, .mov (.t 169), none⟩] [168, 169]) (.goto 3)
def f11_r48 : IC := .seq (.seq (.reg false [⟨some 162, .mov (.t 0), none⟩, ⟨some 163, .mov (.t 6), none⟩, ⟨some 164, .idx (.t 162) (.t 163), none⟩, ⟨some 165, .bin .eql (.t 164) (.k (.d (.i .u8 92))), none⟩] [162, 163, 164]) (f11_r49)) (f11_r51)
def f11_r47 : IC := .cond (.t 161) (f11_r48) (.skip)
def f11_r56 : IC := .seq (.reg false [⟨some 4, .mov (.k (.d (.i .i64 0))), none⟩, ⟨some 5, .mov (.k (.d (.i .i64 0))), none⟩] []) (.ret)
def f11_r55 : IC := .cond (.t 175) (f11_r56) (.skip)
def f11_r59 : IC := .cond (.t 182) (.goto 2) (.skip)
def f11_r60 : IC := .seq (.reg false [⟨some 183, .mov (.t 6), none⟩, ⟨some 4, .mov (.k (.d (.i .i64 5))), none⟩, ⟨some 5, .mov (.t 183), none⟩] [6, 183]) (.ret)
def f11_r58 : IC := .seq (.seq (.reg false [⟨some 178, .mov (.t 0), none⟩, ⟨some 179, .mov (.t 6), none⟩, ⟨some 180, .bin .sub (.t 179) (.k (.d (.i .i64 1))), none⟩, ⟨some 181, .idx (.t 178) (.t 180), none⟩, ⟨some 182, .bin .neq (.t 181) (.k (.d (.i .u8 93))), none⟩] [178, 179, 180, 181]) (f11_r59)) (f11_r60)
def f11_r57 : IC := .seq (.reg false [⟨some 176, .mov (.t 6), none⟩, ⟨some 177, .bin .add (.t 176) (.k (.d (.i .i64 1))), none⟩, ⟨some 6, .mov (.t 177), none⟩] [176, 177]) (f11_r58)
def f11_r54 : IC := .seq (.seq (.reg false [⟨some 172, .mov (.t 6), none⟩, ⟨some 173, .mov (.t 0), none⟩, ⟨some 174, .lenS (.t 173), none⟩, ⟨some 175, .bin .eql (.t 172) (.t 174), none⟩] [172, 173, 174]) (f11_r55)) (f11_r57)
def f11_r53 : IC := .seq (.label 2 [0, 6]) (f11_r54)
def f11_r52 : IC := .seq (.seq (.reg false [⟨some 170, .mov (.t 6), none⟩, ⟨some 171, .bin .add (.t 170) (.k (.d (.i .i64 1))), none⟩, ⟨some 4, .mov (.k (.d (.i .i64 6))), none⟩, ⟨some 5, .mov (.t 171), none⟩] [6, 170, 171]) (.ret)) (f11_r53)
def f11_r46 : IC := .seq (.seq (.reg false [⟨some 158, .mov (.t 0), none⟩, ⟨some 159, .mov (.t 6), none⟩, ⟨some 160, .idx (.t 158) (.t 159), none⟩, ⟨some 161, .bin .neq (.t 160) (.k (.d (.i .u8 34))), none⟩] [158, 159, 160]) (f11_r47)) (f11_r52)
def f11_r43 : IC := .seq (.seq (.reg false [⟨some 154, .mov (.t 6), none⟩, ⟨some 155, .mov (.t 0), none⟩, ⟨some 156, .lenS (.t 155), none⟩, ⟨some 157, .bin .geq (.t 154) (.t 156), none⟩] [154, 155, 156]) (f11_r44)) (f11_r46)
def f11_r42 : IC := .seq (.label 3 [0, 6]) (f11_r43)
def f11_r41 : IC := .seq (.seq (.reg false [⟨some 152, .mov (.t 7), none⟩, ⟨some 153, .mov (.t 6), none⟩, ⟨some 4, .mov (.t 152), none⟩, ⟨some 5, .mov (.t 153), none⟩] [6, 7, 152, 153]) (.ret)) (f11_r42)
def f11_r38 : IC := .seq (.seq (.reg false [⟨some 120, .mov (.t 7), none⟩, ⟨some 121, .bin .eql (.t 120) (.k (.d (.i .i64 6))), none⟩, ⟨some 122, .mov (.t 121), none⟩, ⟨some 123, .mov (.t 6), some (122, true)⟩, ⟨some 124, .bin .add (.t 123) (.k (.d (.i .i64 1))), some (122, true)⟩, ⟨some 125, .mov (.t 0), some (122, true)⟩, ⟨some 126, .lenS (.t 125), some (122, true)⟩, ⟨some 127, .bin .lss (.t 124) (.t 126), some (122, true)⟩, ⟨some 128, .pick (.t 122) (.t 127) (.k (.d (.b false))), none⟩, ⟨some 129, .mov (.t 128), none⟩, ⟨some 130, .mov (.t 0), some (129, true)⟩, ⟨some 131, .mov (.t 6), some (129, true)⟩, ⟨some 132, .idx (.t 130) (.t 131), some (129, true)⟩, ⟨some 133, .bin .eql (.t 132) (.k (.d (.i .u8 47))), some (129, true)⟩, ⟨some 134, .pick (.t 129) (.t 133) (.k (.d (.b false))), none⟩, ⟨some 135, .mov (.t 134), none⟩, ⟨some 136, .mov (.t 0), some (135, true)⟩, ⟨some 137, .mov (.t 6), some (135, true)⟩, ⟨some 138, .bin .add (.t 137) (.k (.d (.i .i64 1))), some (135, true)⟩, ⟨some 139, .idx (.t 136) (.t 138), some (135, true)⟩, ⟨some 140, .call 15 [.t 139], some (135, true)⟩, ⟨some 141, .pick (.t 135) (.t 140) (.k (.d (.b false))), none⟩, ⟨some 142, .mov (.t 141), none⟩, ⟨some 143, .mov (.t 0), some (142, true)⟩, ⟨some 144, .mov (.t 1), some (142, true)⟩, ⟨some 145, .mov (.t 6), some (142, true)⟩, ⟨some 146, .slc 0 (.t 143) (some (.t 144)) (some (.t 145)), some (142, true)⟩, ⟨some 147, .call 17 [.t 146, .k (.d (.s [47]))], some (142, true)⟩, ⟨some 148, .un .not (.t 147), some (142, true)⟩, ⟨some 149, .pick (.t 142) (.t 148) (.k (.d (.b false))), none⟩] [120, 121, 122, 123, 124, 125, 126, 127, 128, 129, 130, 131, 132, 133, 134, 135, 136, 137, 138, 139, 140, 141, 142, 143, 144, 145, 146, 147, 148]) (f11_r39)) (f11_r41)
def f11_r35 : IC := .seq (.seq (.reg false [⟨some 108, .mov (.t 6), none⟩, ⟨some 109, .mov (.t 0), none⟩, ⟨some 110, .lenS (.t 109), none⟩, ⟨some 111, .bin .lss (.t 108) (.t 110), none⟩, ⟨some 112, .mov (.t 111), none⟩, ⟨some 113, .mov (.t 0), some (112, true)⟩, ⟨some 114, .mov (.t 6), some (112, true)⟩, ⟨some 115, .idx (.t 113) (.t 114), some (112, true)⟩, ⟨some 116, .call 15 [.t 115], some (112, true)⟩, ⟨some 117, .pick (.t 112) (.t 116) (.k (.d (.b false))), none⟩] [108, 109, 110, 111, 112, 113, 114, 115, 116]) (f11_r36)) (f11_r38)
def f11_r34 : IC := .seq (.label 1 [0, 1, 6, 7]) (f11_r35)
def f11_r33 : IC := .seq (.seq (.reg false [⟨some 107, .mov (.t 6), none⟩, ⟨some 4, .mov (.k (.d (.i .i64 3))), none⟩, ⟨some 5, .mov (.t 107), none⟩] [6, 107]) (.ret)) (f11_r34)
def f11_r30 : IC := .seq (.seq (.reg false [⟨some 77, .mov (.t 6), none⟩, ⟨some 78, .mov (.t 0), none⟩, ⟨some 79, .lenS (.t 78), none⟩, ⟨some 80, .bin .lss (.t 77) (.t 79), none⟩, ⟨some 81, .mov (.t 80), none⟩, ⟨some 82, .mov (.t 0), some (81, true)⟩, ⟨some 83, .mov (.t 6), some (81, true)⟩, ⟨some 84, .idx (.t 82) (.t 83), some (81, true)⟩, ⟨some 85, .bin .geq (.t 84) (.k (.d (.i .u8 97))), some (81, true)⟩, ⟨some 86, .mov (.t 85), some (81, true)⟩, ⟨some 87, .mov (.t 0), some (86, true)⟩, ⟨some 88, .mov (.t 6), some (86, true)⟩, ⟨some 89, .idx (.t 87) (.t 88), some (86, true)⟩, ⟨some 90, .bin .leq (.t 89) (.k (.d (.i .u8 122))), some (86, true)⟩, ⟨some 91, .pick (.t 86) (.t 90) (.k (.d (.b false))), some (81, true)⟩, ⟨some 92, .mov (.t 91), some (81, true)⟩, ⟨some 93, .mov (.t 0), some (92, false)⟩, ⟨some 94, .mov (.t 6), some (92, false)⟩, ⟨some 95, .idx (.t 93) (.t 94), some (92, false)⟩, ⟨some 96, .call 15 [.t 95], some (92, false)⟩, ⟨some 97, .pick (.t 92) (.k (.d (.b true))) (.t 96), some (81, true)⟩, ⟨some 98, .mov (.t 97), some (81, true)⟩, ⟨some 99, .mov (.t 0), some (98, false)⟩, ⟨some 100, .mov (.t 6), some (98, false)⟩, ⟨some 101, .idx (.t 99) (.t 100), some (98, false)⟩, ⟨some 102, .bin .eql (.t 101) (.k (.d (.i .u8 95))), some (98, false)⟩, ⟨some 103, .pick (.t 98) (.k (.d (.b true))) (.t 102), some (81, true)⟩, ⟨some 104, .pick (.t 81) (.t 103) (.k (.d (.b false))), none⟩] [77, 78, 79, 80, 81, 82, 83, 84, 85, 86, 87, 88, 89, 90, 91, 92, 93, 94, 95, 96, 97, 98, 99, 100, 101, 102, 103]) (f11_r31)) (f11_r33)
def f11_r29 : IC := .seq (.label 0 [0, 6]) (f11_r30)
def f11_r28 : IC := .seq (.seq (.reg false [⟨some 4, .mov (.k (.d (.i .i64 0))), none⟩, ⟨some 5, .mov (.k (.d (.i .i64 0))), none⟩] []) (.ret)) (f11_r29)
def f11_r1 : IC := .seq (.seq (.reg false [⟨some 11, .mov (.t 0), none⟩, ⟨some 12, .mov (.t 1), none⟩, ⟨some 13, .idx (.t 11) (.t 12), none⟩, ⟨some 8, .mov (.t 13), none⟩] [11, 12, 13]) (f11_r2)) (f11_r28)
def f11_r0 : IC := .seq (.reg false [⟨some 7, .mov (.k (.d (.i .i64 4))), none⟩] [7]) (f11_r1)
def f11_s0 : IC := .scope (.seq (.reg false [⟨some 9, .mov (.t 1), none⟩, ⟨some 10, .bin .add (.t 9) (.k (.d (.i .i64 1))), none⟩, ⟨some 6, .mov (.t 10), none⟩] [9, 10]) (f11_r0))
def f11_b : IC := .seq (.reg false [⟨some 4, .mov (.k (.d (.i .i64 0))), none⟩, ⟨some 5, .mov (.k (.d (.i .i64 0))), none⟩] [4, 5]) (f11_s0)
/-- custos/lex.behind -/
def f11 : IFn := { body := f11_b, results := [.tmp 4, .tmp 5], ntmps := 184 }

def f12_r4 : IC := .seq (.reg false [⟨some 2, .mov (.k (.d (.b false))), none⟩] []) (.ret)
def f12_r3 : IC := .cond (.t 28) (f12_r4) (.skip)
def f12_r6 : IC := .seq (.reg false [⟨some 34, .mov (.t 4), none⟩, ⟨some 35, .bin .eql (.t 34) (.k (.d (.s [42]))), none⟩, ⟨some 36, .mov (.t 35), none⟩, ⟨some 37, .mov (.t 9), some (36, false)⟩, ⟨some 38, .mov (.t 37), some (36, false)⟩, ⟨some 39, .mov (.t 6), some (38, true)⟩, ⟨some 40, .mov (.t 8), some (38, true)⟩, ⟨some 41, .bin .leq (.t 39) (.t 40), some (38, true)⟩, ⟨some 42, .pick (.t 38) (.t 41) (.k (.d (.b false))), some (36, false)⟩, ⟨some 43, .pick (.t 36) (.k (.d (.b true))) (.t 42), none⟩, ⟨some 2, .mov (.t 43), none⟩] [4, 6, 8, 9, 34, 35, 36, 37, 38, 39, 40, 41, 42, 43]) (.ret)
def f12_r5 : IC := .seq (.reg false [⟨some 30, .mov (.t 4), none⟩, ⟨some 31, .call 14 [.t 30], none⟩, ⟨some 29, .mov (.t 31), none⟩, ⟨some 32, .ext (.t 29) 0, none⟩, ⟨some 33, .ext (.t 29) 1, none⟩, ⟨some 8, .mov (.t 32), none⟩, ⟨some 9, .mov (.t 33), none⟩] [29, 30, 31, 32, 33]) (f12_r6)
def f12_r2 : IC := .seq (.seq (.reg false [⟨some 23, .mov (.t 5), none⟩, ⟨some 24, .un .not (.t 23), none⟩, ⟨some 25, .mov (.t 24), none⟩, ⟨some 26, .mov (.t 7), some (25, false)⟩, ⟨some 27, .un .not (.t 26), some (25, false)⟩, ⟨some 28, .pick (.t 25) (.k (.d (.b true))) (.t 27), none⟩] [5, 7, 23, 24, 25, 26, 27]) (f12_r3)) (f12_r5)
def f12_r1 : IC := .seq (.reg false [⟨some 19, .mov (.t 3), none⟩, ⟨some 20, .call 14 [.t 19], none⟩, ⟨some 18, .mov (.t 20), none⟩, ⟨some 21, .ext (.t 18) 0, none⟩, ⟨some 22, .ext (.t 18) 1, none⟩, ⟨some 6, .mov (.t 21), none⟩, ⟨some 7, .mov (.t 22), none⟩] [3, 18, 19, 20, 21, 22]) (f12_r2)
def f12_r0 : IC := .seq (.reg false [⟨some 11, .mov (.t 0), none⟩, ⟨some 12, .slc 0 (.t 11) (some (.k (.d (.i .i64 1)))) none, none⟩, ⟨some 13, .call 19 [.t 12, .k (.d (.s [93]))], none⟩, ⟨some 14, .call 18 [.t 13, .k (.d (.s [44]))], none⟩, ⟨some 10, .mov (.t 14), none⟩, ⟨some 15, .ext (.t 10) 0, none⟩, ⟨some 16, .ext (.t 10) 1, none⟩, ⟨some 17, .ext (.t 10) 2, none⟩, ⟨some 3, .mov (.t 15), none⟩, ⟨some 4, .mov (.t 16), none⟩, ⟨some 5, .mov (.t 17), none⟩] [0, 10, 11, 12, 13, 14, 15, 16, 17]) (f12_r1)
def f12_b : IC := .seq (.reg false [⟨some 2, .mov (.k (.d (.b false))), none⟩] [2]) (f12_r0)
/-- custos/lex.ends -/
def f12 : IFn := { body := f12_b, results := [.tmp 2], ntmps := 44 }

def f13_r5 : IC := .seq (.reg false [⟨some 20, .build [.d (.i .i64 0), .d (.i .i64 0), .d (.i .i64 0), .d (.s [])] [], none⟩, ⟨none, .store (.t 2) (.t 20) 4, none⟩, ⟨some 3, .mov (.k (.d (.i .i64 70))), none⟩] [20]) (.ret)
def f13_r8 : IC := .seq (.reg false [⟨some 25, .build [.d (.i .i64 0), .d (.i .i64 0), .d (.i .i64 0), .d (.s [])] [], none⟩, ⟨none, .store (.t 2) (.t 25) 4, none⟩, ⟨some 3, .mov (.k (.d (.i .i64 2))), none⟩] [25]) (.ret)
def f13_r7 : IC := .cond (.t 21) (f13_r8) (.skip)
def f13_r6 : IC := .seq (.reg false [⟨some 22, .mov (.t 4), none⟩, ⟨some 23, .lenS (.t 22), none⟩, ⟨some 24, .bin .gtr (.t 23) (.k (.d (.i .i64 64))), none⟩, ⟨some 21, .mov (.t 24), none⟩] [22, 23, 24]) (f13_r7)
def f13_r4 : IC := .cond (.t 15) (f13_r5) (f13_r6)
def f13_r9 : IC := .seq (.reg false [⟨some 26, .mov (.t 4), none⟩, ⟨some 27, .build [.d (.i .i64 0), .d (.i .i64 0), .d (.i .i64 0), .d (.s [])] [(0, 1, .k (.d (.i .i64 3))), (3, 1, .t 26)], none⟩, ⟨none, .store (.t 2) (.t 27) 4, none⟩, ⟨some 3, .mov (.k (.d (.i .i64 0))), none⟩] [4, 26, 27]) (.ret)
def f13_r3 : IC := .seq (.block 0 (.seq (.reg false [⟨some 16, .mov (.t 4), none⟩, ⟨some 17, .call 22 [.t 16], none⟩, ⟨some 18, .mov (.t 0), none⟩, ⟨some 19, .bin .neq (.t 17) (.t 18), none⟩, ⟨some 15, .mov (.t 19), none⟩] [0, 16, 17, 18, 19]) (f13_r4))) (f13_r9)
def f13_r2 : IC := .seq (.reg false [⟨some 13, .mov (.t 0), none⟩, ⟨some 14, .call 21 [.t 13], none⟩, ⟨some 4, .mov (.t 14), none⟩] [13, 14]) (f13_r3)
def f13_r1 : IC := .cond (.t 12) (f13_r2) (.skip)
def f13_r16 : IC := .reg false [⟨some 44, .mov (.t 7), none⟩, ⟨some 45, .call 23 [.t 44, .k (.d (.i .i64 10)), .k (.d (.i .i64 64))], none⟩, ⟨some 43, .mov (.t 45), none⟩, ⟨some 46, .ext (.t 43) 0, none⟩, ⟨some 47, .ext (.t 43) 1, none⟩, ⟨some 48, .faddr (.t 5) 2, none⟩, ⟨none, .store (.t 48) (.t 46) 1, none⟩] [7, 43, 44, 45, 46, 47, 48]
def f13_r15 : IC := .seq (.reg false [⟨some 42, .faddr (.t 5) 0, none⟩, ⟨none, .store (.t 42) (.k (.d (.i .i64 2))) 1, none⟩] [42]) (f13_r16)
def f13_r14 : IC := .cond (.t 41) (f13_r15) (.skip)
def f13_r20 : IC := .seq (.reg false [⟨some 61, .build [.d (.i .i64 0), .d (.i .i64 0), .d (.i .i64 0), .d (.s [])] [], none⟩, ⟨none, .store (.t 2) (.t 61) 4, none⟩, ⟨some 3, .mov (.k (.d (.i .i64 70))), none⟩] [61]) (.ret)
def f13_r19 : IC := .cond (.t 60) (f13_r20) (.skip)
def f13_r18 : IC := .seq (.reg false [⟨some 54, .mov (.t 10), none⟩, ⟨some 55, .bin .neq (.t 54) (.k (.d (.i .i64 0))), none⟩, ⟨some 56, .mov (.t 55), none⟩, ⟨some 57, .mov (.t 9), some (56, false)⟩, ⟨some 58, .mov (.t 0), some (56, false)⟩, ⟨some 59, .bin .neq (.t 57) (.t 58), some (56, false)⟩, ⟨some 60, .pick (.t 56) (.k (.d (.b true))) (.t 59), none⟩] [0, 9, 10, 54, 55, 56, 57, 58, 59]) (f13_r19)
def f13_r21 : IC := .seq (.reg false [⟨some 62, .load (.t 5) 4 true, none⟩, ⟨none, .store (.t 2) (.t 62) 4, none⟩, ⟨some 3, .mov (.k (.d (.i .i64 0))), none⟩] [5, 62]) (.ret)
def f13_r17 : IC := .seq (.seq (.reg false [⟨some 50, .load (.t 5) 4 true, none⟩, ⟨some 51, .call 24 [.t 50], none⟩, ⟨some 49, .mov (.t 51), none⟩, ⟨some 52, .ext (.t 49) 0, none⟩, ⟨some 53, .ext (.t 49) 1, none⟩, ⟨some 9, .mov (.t 52), none⟩, ⟨some 10, .mov (.t 53), none⟩] [49, 50, 51, 52, 53]) (f13_r18)) (f13_r21)
def f13_r13 : IC := .seq (.seq (.reg false [⟨some 41, .mov (.t 8), none⟩] [8]) (f13_r14)) (f13_r17)
def f13_r12 : IC := .seq (.reg false [⟨some 36, .mov (.t 6), none⟩, ⟨some 37, .call 23 [.t 36, .k (.d (.i .i64 10)), .k (.d (.i .i64 64))], none⟩, ⟨some 35, .mov (.t 37), none⟩, ⟨some 38, .ext (.t 35) 0, none⟩, ⟨some 39, .ext (.t 35) 1, none⟩, ⟨some 40, .faddr (.t 5) 1, none⟩, ⟨none, .store (.t 40) (.t 38) 1, none⟩] [6, 35, 36, 37, 38, 39, 40]) (f13_r13)
def f13_r11 : IC := .seq (.reg false [⟨some 30, .mov (.t 0), none⟩, ⟨some 31, .call 18 [.t 30, .k (.d (.s [47]))], none⟩, ⟨some 29, .mov (.t 31), none⟩, ⟨some 32, .ext (.t 29) 0, none⟩, ⟨some 33, .ext (.t 29) 1, none⟩, ⟨some 34, .ext (.t 29) 2, none⟩, ⟨some 6, .mov (.t 32), none⟩, ⟨some 7, .mov (.t 33), none⟩, ⟨some 8, .mov (.t 34), none⟩] [29, 30, 31, 32, 33, 34]) (f13_r12)
def f13_r10 : IC := .seq (.reg false [⟨some 28, .build [.d (.i .i64 0), .d (.i .i64 0), .d (.i .i64 0), .d (.s [])] [(0, 1, .k (.d (.i .i64 1)))], none⟩, ⟨some 5, .alloc [.d (.i .i64 0), .d (.i .i64 0), .d (.i .i64 0), .d (.s [])], none⟩, ⟨none, .store (.t 5) (.t 28) 4, none⟩] [28]) (f13_r11)
def f13_r0 : IC := .seq (.seq (.reg false [⟨some 11, .mov (.t 0), none⟩, ⟨some 12, .call 20 [.t 11, .k (.d (.s [34]))], none⟩] [11]) (f13_r1)) (f13_r10)
def f13_b : IC := .seq (.reg false [⟨some 2, .alloc [.d (.i .i64 0), .d (.i .i64 0), .d (.i .i64 0), .d (.s [])], none⟩, ⟨some 3, .mov (.k (.d (.i .i64 0))), none⟩] [3]) (f13_r0)
/-- custos/value.Parse -/
def f13 : IFn := { body := f13_b, results := [.cell 2 4 true, .tmp 3], ntmps := 63 }

def f14_r1 : IC := .seq (.reg false [⟨some 11, .mov (.t 4), none⟩, ⟨some 12, .mov (.t 5), none⟩, ⟨some 13, .ieq false (.t 12), none⟩, ⟨some 14, .mov (.t 13), none⟩, ⟨some 15, .mov (.t 4), some (14, true)⟩, ⟨some 16, .bin .leq (.t 15) (.k (.d (.i .i64 1099511627776))), some (14, true)⟩, ⟨some 17, .pick (.t 14) (.t 16) (.k (.d (.b false))), none⟩, ⟨some 18, .mov (.t 17), none⟩, ⟨some 19, .mov (.t 4), some (18, true)⟩, ⟨some 20, .call 25 [.t 19, .k (.d (.i .i64 10))], some (18, true)⟩, ⟨some 21, .mov (.t 0), some (18, true)⟩, ⟨some 22, .bin .eql (.t 20) (.t 21), some (18, true)⟩, ⟨some 23, .pick (.t 18) (.t 22) (.k (.d (.b false))), none⟩, ⟨some 24, .mov (.t 23), none⟩, ⟨some 25, .mov (.t 4), some (24, true)⟩, ⟨some 26, .bin .geq (.t 25) (.k (.d (.i .i64 0))), some (24, true)⟩, ⟨some 27, .pick (.t 24) (.t 26) (.k (.d (.b false))), none⟩, ⟨some 2, .mov (.t 11), none⟩, ⟨some 3, .mov (.t 27), none⟩] [0, 4, 5, 11, 12, 13, 14, 15, 16, 17, 18, 19, 20, 21, 22, 23, 24, 25, 26, 27]) (.ret)
def f14_r0 : IC := .seq (.reg false [⟨some 7, .mov (.t 0), none⟩, ⟨some 8, .call 23 [.t 7, .k (.d (.i .i64 10)), .k (.d (.i .i64 64))], none⟩, ⟨some 6, .mov (.t 8), none⟩, ⟨some 9, .ext (.t 6) 0, none⟩, ⟨some 10, .ext (.t 6) 1, none⟩, ⟨some 4, .mov (.t 9), none⟩, ⟨some 5, .mov (.t 10), none⟩] [6, 7, 8, 9, 10]) (f14_r1)
def f14_b : IC := .seq (.reg false [⟨some 2, .mov (.k (.d (.i .i64 0))), none⟩, ⟨some 3, .mov (.k (.d (.b false))), none⟩] [2, 3]) (f14_r0)
/-- custos/lex.number -/
def f14 : IFn := { body := f14_b, results := [.tmp 2, .tmp 3], ntmps := 28 }

def f15_r0 : IC := .seq (.reg false [⟨some 3, .mov (.t 0), none⟩, ⟨some 4, .bin .geq (.t 3) (.k (.d (.i .u8 48))), none⟩, ⟨some 5, .mov (.t 4), none⟩, ⟨some 6, .mov (.t 0), some (5, true)⟩, ⟨some 7, .bin .leq (.t 6) (.k (.d (.i .u8 57))), some (5, true)⟩, ⟨some 8, .pick (.t 5) (.t 7) (.k (.d (.b false))), none⟩, ⟨some 2, .mov (.t 8), none⟩] [0, 3, 4, 5, 6, 7, 8]) (.ret)
def f15_b : IC := .seq (.reg false [⟨some 2, .mov (.k (.d (.b false))), none⟩] [2]) (f15_r0)
/-- custos/lex.digit -/
def f15 : IFn := { body := f15_b, results := [.tmp 2], ntmps := 9 }

def f19_r0 : IC := .seq (.reg false [⟨some 5, .mov (.t 0), none⟩, ⟨some 6, .mov (.t 1), none⟩, ⟨some 7, .call 29 [.t 5, .t 6], none⟩, ⟨some 4, .mov (.t 7), none⟩] [0, 1, 5, 6, 7]) (.ret)
def f19_b : IC := .seq (.reg false [⟨some 4, .mov (.k (.d (.s []))), none⟩] [4]) (f19_r0)
/-- strings.TrimSuffix -/
def f19 : IFn := { body := f19_b, results := [.tmp 4], ntmps := 8 }

def f20_r0 : IC := .seq (.reg false [⟨some 5, .mov (.t 0), none⟩, ⟨some 6, .mov (.t 1), none⟩, ⟨some 7, .call 30 [.t 5, .t 6], none⟩, ⟨some 4, .mov (.t 7), none⟩] [0, 1, 5, 6, 7]) (.ret)
def f20_b : IC := .seq (.reg false [⟨some 4, .mov (.k (.d (.b false))), none⟩] [4]) (f20_r0)
/-- strings.HasPrefix -/
def f20 : IFn := { body := f20_b, results := [.tmp 4], ntmps := 8 }

def f21_r3 : IC := .cond (.t 13) (.skip) (.exit 0)
def f21_r11 : IC := .reg false [⟨some 38, .mov (.t 6), none⟩, ⟨some 39, .conv (.int .u8) (.t 38), none⟩, ⟨some 4, .mov (.t 39), none⟩, ⟨some 5, .mov (.k (.d (.i .i64 4))), none⟩] [6, 38, 39]
def f21_r10 : IC := .seq (.reg false [⟨some 33, .mov (.t 0), none⟩, ⟨some 34, .slc 0 (.t 33) (some (.k (.d (.i .i64 2)))) (some (.k (.d (.i .i64 4)))), none⟩, ⟨some 35, .call 31 [.t 34, .k (.d (.i .i64 16)), .k (.d (.i .i64 8))], none⟩, ⟨some 32, .mov (.t 35), none⟩, ⟨some 36, .ext (.t 32) 0, none⟩, ⟨some 37, .ext (.t 32) 1, none⟩, ⟨some 6, .mov (.t 36), none⟩, ⟨some 7, .mov (.t 37), none⟩] [7, 32, 33, 34, 35, 36, 37]) (f21_r11)
def f21_r9 : IC := .cond (.t 31) (f21_r10) (.skip)
def f21_r8 : IC := .seq (.reg false [⟨some 25, .mov (.t 4), none⟩, ⟨some 26, .bin .eql (.t 25) (.k (.d (.i .u8 120))), none⟩, ⟨some 27, .mov (.t 26), none⟩, ⟨some 28, .mov (.t 0), some (27, true)⟩, ⟨some 29, .lenS (.t 28), some (27, true)⟩, ⟨some 30, .bin .gtr (.t 29) (.k (.d (.i .i64 3))), some (27, true)⟩, ⟨some 31, .pick (.t 27) (.t 30) (.k (.d (.b false))), none⟩] [25, 26, 27, 28, 29, 30]) (f21_r9)
def f21_r7 : IC := .seq (.reg false [⟨some 23, .mov (.t 0), none⟩, ⟨some 24, .idx (.t 23) (.k (.d (.i .i64 1))), none⟩, ⟨some 4, .mov (.t 24), none⟩, ⟨some 5, .mov (.k (.d (.i .i64 2))), none⟩] [23, 24]) (f21_r8)
def f21_r6 : IC := .cond (.t 22) (f21_r7) (.skip)
def f21_r13 : IC := .reg false [⟨some 44, .mov (.t 0), none⟩, ⟨some 45, .mov (.t 5), none⟩, ⟨some 46, .slc 0 (.t 44) (some (.t 45)) none, none⟩, ⟨some 0, .mov (.t 46), none⟩] [5, 44, 45, 46]
def f21_r12 : IC := .seq (.reg false [⟨some 40, .movO 3, none⟩, ⟨some 41, .mov (.t 4), none⟩, ⟨some 42, .bslb [.t 41], none⟩, ⟨some 43, .app 1 (.t 40) (.t 42) 140737488355328, none⟩, ⟨some 3, .movO 43, none⟩] [4, 40, 41, 42, 43]) (f21_r13)
def f21_r5 : IC := .seq (.seq (.reg false [⟨some 16, .mov (.t 4), none⟩, ⟨some 17, .bin .eql (.t 16) (.k (.d (.i .u8 92))), none⟩, ⟨some 18, .mov (.t 17), none⟩, ⟨some 19, .mov (.t 0), some (18, true)⟩, ⟨some 20, .lenS (.t 19), some (18, true)⟩, ⟨some 21, .bin .gtr (.t 20) (.k (.d (.i .i64 1))), some (18, true)⟩, ⟨some 22, .pick (.t 18) (.t 21) (.k (.d (.b false))), none⟩] [16, 17, 18, 19, 20, 21]) (f21_r6)) (f21_r12)
def f21_r4 : IC := .block 1 (.seq (.reg false [⟨some 14, .mov (.t 0), none⟩, ⟨some 15, .idx (.t 14) (.k (.d (.i .i64 0))), none⟩, ⟨some 4, .mov (.t 15), none⟩, ⟨some 5, .mov (.k (.d (.i .i64 1))), none⟩] [14, 15]) (f21_r5))
def f21_l0 : IC := .loop [0, 3] (.seq (.seq (.reg false [⟨some 11, .mov (.t 0), none⟩, ⟨some 12, .lenS (.t 11), none⟩, ⟨some 13, .bin .gtr (.t 12) (.k (.d (.i .i64 0))), none⟩] [11, 12]) (f21_r3)) (f21_r4))
def f21_r14 : IC := .seq (.reg false [⟨some 47, .mov (.t 3), none⟩, ⟨some 48, .conv .toStr (.t 47), none⟩, ⟨some 2, .mov (.t 48), none⟩] [3, 47, 48]) (.ret)
def f21_r2 : IC := .seq (.block 0 (f21_l0)) (f21_r14)
def f21_r1 : IC := .seq (.reg false [⟨some 3, .nilB, none⟩] []) (f21_r2)
def f21_r0 : IC := .seq (.reg false [⟨some 8, .mov (.t 0), none⟩, ⟨some 9, .slc 0 (.t 8) (some (.k (.d (.i .i64 1)))) none, none⟩, ⟨some 10, .call 19 [.t 9, .k (.d (.s [34]))], none⟩, ⟨some 0, .mov (.t 10), none⟩] [8, 9, 10]) (f21_r1)
def f21_b : IC := .seq (.reg false [⟨some 2, .mov (.k (.d (.s []))), none⟩] [2]) (f21_r0)
/-- custos/value.unquoted -/
def f21 : IFn := { body := f21_b, results := [.tmp 2], ntmps := 49 }

def f22_r7 : IC := .reg false [⟨some 30, .movO 3, none⟩, ⟨some 31, .mov (.t 5), none⟩, ⟨some 32, .bslb [.k (.d (.i .u8 92)), .t 31], none⟩, ⟨some 33, .app 1 (.t 30) (.t 32) 140737488355328, none⟩, ⟨some 3, .movO 33, none⟩] [5, 30, 31, 32, 33]
def f22_r10 : IC := .reg false [⟨some 41, .movO 3, none⟩, ⟨some 42, .mov (.t 5), none⟩, ⟨some 43, .bslb [.t 42], none⟩, ⟨some 44, .app 1 (.t 41) (.t 43) 140737488355328, none⟩, ⟨some 3, .movO 44, none⟩] [5, 41, 42, 43, 44]
def f22_r11 : IC := .reg true [⟨some 14, .movO 3, none⟩, ⟨some 15, .mov (.t 5), none⟩, ⟨some 16, .bin .shr (.t 15) (.k (.d (.i .u64 4))), none⟩, ⟨some 17, .idx (.k (.d (.s [48, 49, 50, 51, 52, 53, 54, 55, 56, 57, 97, 98, 99, 100, 101, 102]))) (.t 16), none⟩, ⟨some 18, .mov (.t 5), none⟩, ⟨some 19, .bin .and (.t 18) (.k (.d (.i .u8 15))), none⟩, ⟨some 20, .idx (.k (.d (.s [48, 49, 50, 51, 52, 53, 54, 55, 56, 57, 97, 98, 99, 100, 101, 102]))) (.t 19), none⟩, ⟨some 21, .bslb [.k (.d (.i .u8 92)), .k (.d (.i .u8 120)), .t 17, .t 20], none⟩, ⟨some 22, .app 1 (.t 14) (.t 21) 140737488355328, none⟩, ⟨some 3, .movO 22, none⟩] [5, 14, 15, 16, 17, 18, 19, 20, 21, 22]
def f22_r9 : IC := .cond (.t 34) (f22_r10) (f22_r11)
def f22_r8 : IC := .seq (.reg false [⟨some 35, .mov (.t 5), none⟩, ⟨some 36, .bin .geq (.t 35) (.k (.d (.i .u8 32))), none⟩, ⟨some 37, .mov (.t 36), none⟩, ⟨some 38, .mov (.t 5), some (37, true)⟩, ⟨some 39, .bin .leq (.t 38) (.k (.d (.i .u8 126))), some (37, true)⟩, ⟨some 40, .pick (.t 37) (.t 39) (.k (.d (.b false))), none⟩, ⟨some 34, .mov (.t 40), none⟩] [35, 36, 37, 38, 39, 40]) (f22_r9)
def f22_r6 : IC := .cond (.t 23) (f22_r7) (f22_r8)
def f22_r5 : IC := .block 2 (.seq (.reg false [⟨some 24, .mov (.t 5), none⟩, ⟨some 25, .bin .eql (.t 24) (.k (.d (.i .u8 34))), none⟩, ⟨some 26, .mov (.t 25), none⟩, ⟨some 27, .mov (.t 5), some (26, false)⟩, ⟨some 28, .bin .eql (.t 27) (.k (.d (.i .u8 92))), some (26, false)⟩, ⟨some 29, .pick (.t 26) (.k (.d (.b true))) (.t 28), none⟩, ⟨some 23, .mov (.t 29), none⟩] [24, 25, 26, 27, 28, 29]) (f22_r6))
def f22_r12 : IC := .reg false [⟨some 45, .bin .add (.t 10) (.k (.d (.i .i64 1))), none⟩, ⟨some 10, .mov (.t 45), none⟩] [45]
def f22_r4 : IC := .seq (.block 1 (.seq (.reg false [⟨some 12, .iaddr (.t 8) (.t 10) 1, none⟩, ⟨some 13, .load (.t 12) 1 false, none⟩, ⟨some 5, .mov (.t 13), none⟩] [12, 13]) (f22_r5))) (f22_r12)
def f22_r3 : IC := .seq (.cond (.t 11) (.skip) (.exit 0)) (f22_r4)
def f22_l0 : IC := .loop [3, 8, 9, 10] (.seq (.reg false [⟨some 11, .bin .lss (.t 10) (.t 9), none⟩] []) (f22_r3))
def f22_r2 : IC := .block 0 (f22_l0)
def f22_r13 : IC := .seq (.reg false [⟨some 46, .movO 3, none⟩, ⟨some 47, .bslb [.k (.d (.i .u8 34))], none⟩, ⟨some 48, .app 1 (.t 46) (.t 47) 140737488355328, none⟩, ⟨some 49, .conv .toStr (.t 48), none⟩, ⟨some 2, .mov (.t 49), none⟩] [3, 46, 47, 48, 49]) (.ret)
def f22_r1 : IC := .seq (.seq (.reg false [⟨some 7, .mov (.t 0), none⟩, ⟨some 8, .conv .toBytes (.t 7), none⟩, ⟨some 9, .lenL (.t 8), none⟩, ⟨some 10, .mov (.k (.d (.i .i64 0))), none⟩] [0, 7]) (f22_r2)) (f22_r13)
def f22_r0 : IC := .seq (.reg false [⟨some 6, .bslb [.k (.d (.i .u8 34))], none⟩, ⟨some 3, .movO 6, none⟩] [6]) (f22_r1)
def f22_b : IC := .seq (.reg false [⟨some 2, .mov (.k (.d (.s []))), none⟩] [2]) (f22_r0)
/-- custos/value.quoted -/
def f22 : IFn := { body := f22_b, results := [.tmp 2], ntmps := 50 }

def f23_r3 : IC := .seq (.reg false [⟨some 18, .mov (.t 8), none⟩, ⟨some 19, .mov (.t 0), none⟩, ⟨some 20, .mov (.t 1), none⟩, ⟨some 21, .mov (.t 2), none⟩, ⟨some 22, .mov (.t 7), none⟩, ⟨some 23, .call 33 [.k (.d (.s [80, 97, 114, 115, 101, 73, 110, 116])), .t 19, .t 20, .t 21, .t 22], none⟩, ⟨some 6, .mov (.t 18), none⟩, ⟨some 7, .mov (.t 23), none⟩] [0, 1, 2, 8, 18, 19, 20, 21, 22, 23]) (.ret)
def f23_r2 : IC := .cond (.t 17) (f23_r3) (.skip)
def f23_r4 : IC := .seq (.reg false [⟨some 24, .mov (.t 8), none⟩, ⟨some 6, .mov (.t 24), none⟩, ⟨some 7, .mov (.k (.d .nili)), none⟩] [8, 24]) (.ret)
def f23_r1 : IC := .seq (.seq (.reg false [⟨some 16, .mov (.t 7), none⟩, ⟨some 17, .ieq true (.t 16), none⟩] [16]) (f23_r2)) (f23_r4)
def f23_r0 : IC := .seq (.reg false [⟨some 10, .mov (.t 0), none⟩, ⟨some 11, .mov (.t 1), none⟩, ⟨some 12, .mov (.t 2), none⟩, ⟨some 13, .call 32 [.t 10, .t 11, .t 12], none⟩, ⟨some 9, .mov (.t 13), none⟩, ⟨some 14, .ext (.t 9) 0, none⟩, ⟨some 15, .ext (.t 9) 1, none⟩, ⟨some 8, .mov (.t 14), none⟩, ⟨some 7, .mov (.t 15), none⟩] [9, 10, 11, 12, 13, 14, 15]) (f23_r1)
def f23_b : IC := .seq (.reg false [⟨some 6, .mov (.k (.d (.i .i64 0))), none⟩, ⟨some 7, .mov (.k (.d .nili)), none⟩] [6, 7]) (f23_r0)
/-- strconv.ParseInt -/
def f23 : IFn := { body := f23_b, results := [.tmp 6, .tmp 7], ntmps := 25 }

def f24_r3 : IC := .seq (.reg false [⟨some 9, .mov (.t 4), none⟩, ⟨some 2, .mov (.k (.d (.s []))), none⟩, ⟨some 3, .mov (.t 9), none⟩] [4, 9]) (.ret)
def f24_r2 : IC := .cond (.t 8) (f24_r3) (.skip)
def f24_r1 : IC := .seq (.reg false [⟨some 7, .mov (.t 4), none⟩, ⟨some 8, .bin .neq (.t 7) (.k (.d (.i .i64 0))), none⟩] [7]) (f24_r2)
def f24_r7 : IC := .seq (.reg false [⟨some 14, .faddr (.t 1) 1, none⟩, ⟨some 15, .load (.t 14) 1 false, none⟩, ⟨some 16, .call 25 [.t 15, .k (.d (.i .i64 10))], none⟩, ⟨some 2, .mov (.t 16), none⟩, ⟨some 3, .mov (.k (.d (.i .i64 0))), none⟩] [1, 14, 15, 16]) (.ret)
def f24_r10 : IC := .seq (.reg true [⟨some 19, .faddr (.t 1) 1, none⟩, ⟨some 20, .load (.t 19) 1 false, none⟩, ⟨some 21, .callP 25 [.t 20, .k (.d (.i .i64 10))], none⟩, ⟨some 22, .bin .add (.t 21) (.k (.d (.s [47]))), none⟩, ⟨some 23, .faddr (.t 1) 2, none⟩, ⟨some 24, .load (.t 23) 1 false, none⟩, ⟨some 25, .callP 25 [.t 24, .k (.d (.i .i64 10))], none⟩, ⟨some 26, .bin .add (.t 22) (.t 25), none⟩, ⟨some 2, .mov (.t 26), none⟩, ⟨some 3, .mov (.k (.d (.i .i64 0))), none⟩] [1, 19, 20, 21, 22, 23, 24, 25, 26]) (.ret)
def f24_r9 : IC := .cond (.t 17) (f24_r10) (.skip)
def f24_r8 : IC := .seq (.reg false [⟨some 18, .bin .eql (.t 11) (.k (.d (.i .i64 2))), none⟩, ⟨some 17, .mov (.t 18), none⟩] [11, 18]) (f24_r9)
def f24_r6 : IC := .cond (.t 12) (f24_r7) (f24_r8)
def f24_r5 : IC := .block 0 (.seq (.reg false [⟨some 13, .bin .eql (.t 11) (.k (.d (.i .i64 1))), none⟩, ⟨some 12, .mov (.t 13), none⟩] [13]) (f24_r6))
def f24_r11 : IC := .seq (.reg false [⟨some 27, .faddr (.t 1) 3, none⟩, ⟨some 28, .load (.t 27) 1 false, none⟩, ⟨some 29, .call 22 [.t 28], none⟩, ⟨some 2, .mov (.t 29), none⟩, ⟨some 3, .mov (.k (.d (.i .i64 0))), none⟩] [1, 27, 28, 29]) (.ret)
def f24_r4 : IC := .seq (.seq (.reg false [⟨some 10, .faddr (.t 1) 0, none⟩, ⟨some 11, .load (.t 10) 1 false, none⟩] [10]) (f24_r5)) (f24_r11)
def f24_r0 : IC := .seq (.seq (.reg false [⟨some 5, .load (.t 1) 4 true, none⟩, ⟨some 6, .call 34 [.t 5], none⟩, ⟨some 4, .mov (.t 6), none⟩] [5, 6]) (f24_r1)) (f24_r4)
def f24_b : IC := .seq (.reg false [⟨some 1, .box (.t 0) 4, none⟩, ⟨some 2, .mov (.k (.d (.s []))), none⟩, ⟨some 3, .mov (.k (.d (.i .i64 0))), none⟩] [0, 2, 3]) (f24_r0)
/-- custos/value.Print -/
def f24 : IFn := { body := f24_b, results := [.tmp 2, .tmp 3], ntmps := 30 }

def f25_r0 : IC := .seq (.reg false [⟨some 5, .mov (.t 0), none⟩, ⟨some 6, .mov (.t 1), none⟩, ⟨some 7, .call 35 [.t 5, .t 6], none⟩, ⟨some 4, .mov (.t 7), none⟩] [0, 1, 5, 6, 7]) (.ret)
def f25_b : IC := .seq (.reg false [⟨some 4, .mov (.k (.d (.s []))), none⟩] [4]) (f25_r0)
/-- strconv.FormatInt -/
def f25 : IFn := { body := f25_b, results := [.tmp 4], ntmps := 8 }

def f29_r2 : IC := .seq (.reg false [⟨some 8, .mov (.t 0), none⟩, ⟨some 9, .mov (.t 0), none⟩, ⟨some 10, .lenS (.t 9), none⟩, ⟨some 11, .mov (.t 1), none⟩, ⟨some 12, .lenS (.t 11), none⟩, ⟨some 13, .bin .sub (.t 10) (.t 12), none⟩, ⟨some 14, .slc 0 (.t 8) none (some (.t 13)), none⟩, ⟨some 4, .mov (.t 14), none⟩] [0, 1, 8, 9, 10, 11, 12, 13, 14]) (.ret)
def f29_r1 : IC := .cond (.t 7) (f29_r2) (.skip)
def f29_r3 : IC := .seq (.reg false [⟨some 15, .mov (.t 0), none⟩, ⟨some 4, .mov (.t 15), none⟩] [0, 15]) (.ret)
def f29_r0 : IC := .seq (.seq (.reg false [⟨some 5, .mov (.t 0), none⟩, ⟨some 6, .mov (.t 1), none⟩, ⟨some 7, .call 38 [.t 5, .t 6], none⟩] [5, 6]) (f29_r1)) (f29_r3)
def f29_b : IC := .seq (.reg false [⟨some 4, .mov (.k (.d (.s []))), none⟩] [4]) (f29_r0)
/-- internal/stringslite.TrimSuffix -/
def f29 : IFn := { body := f29_b, results := [.tmp 4], ntmps := 16 }

def f30_r0 : IC := .seq (.reg false [⟨some 5, .mov (.t 0), none⟩, ⟨some 6, .lenS (.t 5), none⟩, ⟨some 7, .mov (.t 1), none⟩, ⟨some 8, .lenS (.t 7), none⟩, ⟨some 9, .bin .geq (.t 6) (.t 8), none⟩, ⟨some 10, .mov (.t 9), none⟩, ⟨some 11, .mov (.t 0), some (10, true)⟩, ⟨some 12, .mov (.t 1), some (10, true)⟩, ⟨some 13, .lenS (.t 12), some (10, true)⟩, ⟨some 14, .slc 0 (.t 11) none (some (.t 13)), some (10, true)⟩, ⟨some 15, .mov (.t 1), some (10, true)⟩, ⟨some 16, .bin .eql (.t 14) (.t 15), some (10, true)⟩, ⟨some 17, .pick (.t 10) (.t 16) (.k (.d (.b false))), none⟩, ⟨some 4, .mov (.t 17), none⟩] [0, 1, 5, 6, 7, 8, 9, 10, 11, 12, 13, 14, 15, 16, 17]) (.ret)
def f30_b : IC := .seq (.reg false [⟨some 4, .mov (.k (.d (.b false))), none⟩] [4]) (f30_r0)
/-- internal/stringslite.HasPrefix -/
def f30 : IFn := { body := f30_b, results := [.tmp 4], ntmps := 18 }

def f31_r3 : IC := .seq (.reg false [⟨some 19, .mov (.t 8), none⟩, ⟨some 20, .mov (.t 0), none⟩, ⟨some 21, .mov (.t 1), none⟩, ⟨some 22, .mov (.t 2), none⟩, ⟨some 23, .mov (.t 9), none⟩, ⟨some 24, .call 33 [.k (.d (.s [80, 97, 114, 115, 101, 85, 105, 110, 116])), .t 20, .t 21, .t 22, .t 23], none⟩, ⟨some 6, .mov (.t 19), none⟩, ⟨some 7, .mov (.t 24), none⟩] [0, 1, 2, 8, 9, 19, 20, 21, 22, 23, 24]) (.ret)
def f31_r2 : IC := .cond (.t 18) (f31_r3) (.skip)
def f31_r4 : IC := .seq (.reg false [⟨some 25, .mov (.t 8), none⟩, ⟨some 6, .mov (.t 25), none⟩, ⟨some 7, .mov (.k (.d .nili)), none⟩] [8, 25]) (.ret)
def f31_r1 : IC := .seq (.seq (.reg false [⟨some 17, .mov (.t 9), none⟩, ⟨some 18, .ieq true (.t 17), none⟩] [17]) (f31_r2)) (f31_r4)
def f31_r0 : IC := .seq (.reg false [⟨some 11, .mov (.t 0), none⟩, ⟨some 12, .mov (.t 1), none⟩, ⟨some 13, .mov (.t 2), none⟩, ⟨some 14, .call 39 [.t 11, .t 12, .t 13], none⟩, ⟨some 10, .mov (.t 14), none⟩, ⟨some 15, .ext (.t 10) 0, none⟩, ⟨some 16, .ext (.t 10) 1, none⟩, ⟨some 8, .mov (.t 15), none⟩, ⟨some 9, .mov (.t 16), none⟩] [10, 11, 12, 13, 14, 15, 16]) (f31_r1)
def f31_b : IC := .seq (.reg false [⟨some 6, .mov (.k (.d (.i .u64 0))), none⟩, ⟨some 7, .mov (.k (.d .nili)), none⟩] [6, 7]) (f31_r0)
/-- strconv.ParseUint -/
def f31 : IFn := { body := f31_b, results := [.tmp 6, .tmp 7], ntmps := 26 }

def f32_r2 : IC := .seq (.reg false [⟨some 14, .mkif 67 (.k (.d (.i .i64 2))), none⟩, ⟨some 6, .mov (.k (.d (.i .i64 0))), none⟩, ⟨some 7, .mov (.t 14), none⟩] [14]) (.ret)
def f32_r1 : IC := .cond (.t 13) (f32_r2) (.skip)
def f32_r7 : IC := .reg false [⟨some 19, .mov (.t 0), none⟩, ⟨some 20, .slc 0 (.t 19) (some (.k (.d (.i .i64 1)))) none, none⟩, ⟨some 0, .mov (.t 20), none⟩] [19, 20]
def f32_r11 : IC := .reg false [⟨some 8, .mov (.k (.d (.b true))), none⟩] []
def f32_r10 : IC := .seq (.reg false [⟨some 23, .mov (.t 0), none⟩, ⟨some 24, .slc 0 (.t 23) (some (.k (.d (.i .i64 1)))) none, none⟩, ⟨some 0, .mov (.t 24), none⟩] [23, 24]) (f32_r11)
def f32_r9 : IC := .cond (.t 21) (f32_r10) (.skip)
def f32_r8 : IC := .seq (.reg false [⟨some 22, .bin .eql (.t 16) (.k (.d (.i .u8 45))), none⟩, ⟨some 21, .mov (.t 22), none⟩] [16, 22]) (f32_r9)
def f32_r6 : IC := .cond (.t 17) (f32_r7) (f32_r8)
def f32_r5 : IC := .block 0 (.seq (.reg false [⟨some 18, .bin .eql (.t 16) (.k (.d (.i .u8 43))), none⟩, ⟨some 17, .mov (.t 18), none⟩] [18]) (f32_r6))
def f32_r16 : IC := .seq (.reg false [⟨some 39, .mov (.t 7), none⟩, ⟨some 6, .mov (.k (.d (.i .i64 0))), none⟩, ⟨some 7, .mov (.t 39), none⟩] [39]) (.ret)
def f32_r15 : IC := .cond (.t 38) (f32_r16) (.skip)
def f32_r19 : IC := .reg false [⟨some 2, .mov (.k (.d (.i .i64 64))), none⟩] []
def f32_r18 : IC := .cond (.t 41) (f32_r19) (.skip)
def f32_r23 : IC := .seq (.reg false [⟨some 53, .mov (.t 10), none⟩, ⟨some 54, .bin .sub (.t 53) (.k (.d (.i .u64 1))), none⟩, ⟨some 55, .conv (.int .i64) (.t 54), none⟩, ⟨some 56, .mkif 67 (.k (.d (.i .i64 1))), none⟩, ⟨some 6, .mov (.t 55), none⟩, ⟨some 7, .mov (.t 56), none⟩] [10, 53, 54, 55, 56]) (.ret)
def f32_r22 : IC := .cond (.t 52) (f32_r23) (.skip)
def f32_r26 : IC := .seq (.reg false [⟨some 63, .mov (.t 10), none⟩, ⟨some 64, .conv (.int .i64) (.t 63), none⟩, ⟨some 65, .un .neg (.t 64), none⟩, ⟨some 66, .mkif 67 (.k (.d (.i .i64 1))), none⟩, ⟨some 6, .mov (.t 65), none⟩, ⟨some 7, .mov (.t 66), none⟩] [10, 63, 64, 65, 66]) (.ret)
def f32_r25 : IC := .cond (.t 62) (f32_r26) (.skip)
def f32_r30 : IC := .reg false [⟨some 70, .mov (.t 11), none⟩, ⟨some 71, .un .neg (.t 70), none⟩, ⟨some 11, .mov (.t 71), none⟩] [70, 71]
def f32_r29 : IC := .cond (.t 69) (f32_r30) (.skip)
def f32_r31 : IC := .seq (.reg false [⟨some 72, .mov (.t 11), none⟩, ⟨some 6, .mov (.t 72), none⟩, ⟨some 7, .mov (.k (.d .nili)), none⟩] [11, 72]) (.ret)
def f32_r28 : IC := .seq (.seq (.reg false [⟨some 69, .mov (.t 8), none⟩] [8]) (f32_r29)) (f32_r31)
def f32_r27 : IC := .seq (.reg false [⟨some 67, .mov (.t 9), none⟩, ⟨some 68, .conv (.int .i64) (.t 67), none⟩, ⟨some 11, .mov (.t 68), none⟩] [9, 67, 68]) (f32_r28)
def f32_r24 : IC := .seq (.seq (.reg false [⟨some 57, .mov (.t 8), none⟩, ⟨some 58, .mov (.t 57), none⟩, ⟨some 59, .mov (.t 9), some (58, true)⟩, ⟨some 60, .mov (.t 10), some (58, true)⟩, ⟨some 61, .bin .gtr (.t 59) (.t 60), some (58, true)⟩, ⟨some 62, .pick (.t 58) (.t 61) (.k (.d (.b false))), none⟩] [57, 58, 59, 60, 61]) (f32_r25)) (f32_r27)
def f32_r21 : IC := .seq (.seq (.reg false [⟨some 46, .mov (.t 8), none⟩, ⟨some 47, .un .not (.t 46), none⟩, ⟨some 48, .mov (.t 47), none⟩, ⟨some 49, .mov (.t 9), some (48, true)⟩, ⟨some 50, .mov (.t 10), some (48, true)⟩, ⟨some 51, .bin .geq (.t 49) (.t 50), some (48, true)⟩, ⟨some 52, .pick (.t 48) (.t 51) (.k (.d (.b false))), none⟩] [46, 47, 48, 49, 50, 51]) (f32_r22)) (f32_r24)
def f32_r20 : IC := .kp [2, 8, 9] (.seq (.reg false [⟨some 42, .mov (.t 2), none⟩, ⟨some 43, .bin .sub (.t 42) (.k (.d (.i .i64 1))), none⟩, ⟨some 44, .conv (.int .u64) (.t 43), none⟩, ⟨some 45, .bin .shl (.k (.d (.i .u64 1))) (.t 44), none⟩, ⟨some 10, .mov (.t 45), none⟩] [2, 42, 43, 44, 45]) (f32_r21))
def f32_r17 : IC := .seq (.seq (.reg false [⟨some 40, .mov (.t 2), none⟩, ⟨some 41, .bin .eql (.t 40) (.k (.d (.i .i64 0))), none⟩] [40]) (f32_r18)) (f32_r20)
def f32_r14 : IC := .seq (.seq (.reg false [⟨some 32, .mov (.t 7), none⟩, ⟨some 33, .ieq true (.t 32), none⟩, ⟨some 34, .mov (.t 33), none⟩, ⟨some 35, .mov (.t 7), some (34, true)⟩, ⟨some 36, .mkif 67 (.k (.d (.i .i64 1))), some (34, true)⟩, ⟨some 37, .eqs true [9, 67] (.t 35) (.t 36), some (34, true)⟩, ⟨some 38, .pick (.t 34) (.t 37) (.k (.d (.b false))), none⟩] [32, 33, 34, 35, 36, 37]) (f32_r15)) (f32_r17)
def f32_r13 : IC := .seq (.reg false [⟨some 26, .mov (.t 0), none⟩, ⟨some 27, .mov (.t 1), none⟩, ⟨some 28, .mov (.t 2), none⟩, ⟨some 29, .call 39 [.t 26, .t 27, .t 28], none⟩, ⟨some 25, .mov (.t 29), none⟩, ⟨some 30, .ext (.t 25) 0, none⟩, ⟨some 31, .ext (.t 25) 1, none⟩, ⟨some 9, .mov (.t 30), none⟩, ⟨some 7, .mov (.t 31), none⟩] [0, 1, 25, 26, 27, 28, 29, 30, 31]) (f32_r14)
def f32_r12 : IC := .seq (.reg false [⟨some 9, .mov (.k (.d (.i .u64 0))), none⟩] [9]) (f32_r13)
def f32_r4 : IC := .seq (.seq (.reg false [⟨some 15, .mov (.t 0), none⟩, ⟨some 16, .idx (.t 15) (.k (.d (.i .i64 0))), none⟩] [15]) (f32_r5)) (f32_r12)
def f32_r3 : IC := .seq (.reg false [⟨some 8, .mov (.k (.d (.b false))), none⟩] []) (f32_r4)
def f32_r0 : IC := .seq (.seq (.reg false [⟨some 12, .mov (.t 0), none⟩, ⟨some 13, .bin .eql (.t 12) (.k (.d (.s []))), none⟩] [12]) (f32_r1)) (f32_r3)
def f32_b : IC := .seq (.reg false [⟨some 6, .mov (.k (.d (.i .i64 0))), none⟩, ⟨some 7, .mov (.k (.d .nili)), none⟩] [6, 7]) (f32_r0)
/-- internal/strconv.ParseInt -/
def f32 : IFn := { body := f32_b, results := [.tmp 6, .tmp 7], ntmps := 73 }

def f34_r4 : IC := .reg false [⟨some 10, .faddr (.t 1) 2, none⟩, ⟨some 11, .load (.t 10) 1 false, none⟩, ⟨some 12, .bin .neq (.t 11) (.k (.d (.i .i64 0))), none⟩, ⟨some 13, .mov (.t 12), none⟩, ⟨some 14, .faddr (.t 1) 3, some (13, false)⟩, ⟨some 15, .load (.t 14) 1 false, some (13, false)⟩, ⟨some 16, .bin .neq (.t 15) (.k (.d (.s []))), some (13, false)⟩, ⟨some 17, .pick (.t 13) (.k (.d (.b true))) (.t 16), none⟩, ⟨some 3, .mov (.t 17), none⟩] [10, 11, 12, 13, 14, 15, 16, 17]
def f34_r8 : IC := .reg true [⟨some 28, .faddr (.t 1) 3, none⟩, ⟨some 29, .load (.t 28) 1 false, none⟩, ⟨some 30, .bin .neq (.t 29) (.k (.d (.s []))), none⟩, ⟨some 31, .mov (.t 30), none⟩, ⟨some 32, .mov (.t 5), some (31, false)⟩, ⟨some 33, .bin .neq (.t 32) (.k (.d (.i .i64 0))), some (31, false)⟩, ⟨some 34, .pick (.t 31) (.k (.d (.b true))) (.t 33), none⟩, ⟨some 35, .mov (.t 34), none⟩, ⟨some 36, .load (.t 4) 2 true, some (35, false)⟩, ⟨some 37, .load (.t 1) 4 true, some (35, false)⟩, ⟨some 38, .callP 45 [.t 37], some (35, false)⟩, ⟨some 39, .eqs true [0, 0] (.t 36) (.t 38), some (35, false)⟩, ⟨some 40, .pick (.t 35) (.k (.d (.b true))) (.t 39), none⟩, ⟨some 3, .mov (.t 40), none⟩] [4, 5, 28, 29, 30, 31, 32, 33, 34, 35, 36, 37, 38, 39, 40]
def f34_r7 : IC := .seq (.reg false [⟨some 21, .faddr (.t 1) 1, none⟩, ⟨some 22, .load (.t 21) 1 false, none⟩, ⟨some 23, .faddr (.t 1) 2, none⟩, ⟨some 24, .load (.t 23) 1 false, none⟩, ⟨some 25, .call 44 [.t 22, .t 24], none⟩, ⟨some 20, .mov (.t 25), none⟩, ⟨some 26, .ext (.t 20) 0, none⟩, ⟨some 27, .ext (.t 20) 1, none⟩, ⟨some 4, .alloc [.d (.i .i64 0), .d (.i .i64 0)], none⟩, ⟨none, .store (.t 4) (.t 26) 2, none⟩, ⟨some 5, .mov (.t 27), none⟩] [20, 21, 22, 23, 24, 25, 26, 27]) (f34_r8)
def f34_r11 : IC := .reg false [⟨some 43, .faddr (.t 1) 1, none⟩, ⟨some 44, .load (.t 43) 1 false, none⟩, ⟨some 45, .bin .neq (.t 44) (.k (.d (.i .i64 0))), none⟩, ⟨some 46, .mov (.t 45), none⟩, ⟨some 47, .faddr (.t 1) 2, some (46, false)⟩, ⟨some 48, .load (.t 47) 1 false, some (46, false)⟩, ⟨some 49, .bin .neq (.t 48) (.k (.d (.i .i64 0))), some (46, false)⟩, ⟨some 50, .pick (.t 46) (.k (.d (.b true))) (.t 49), none⟩, ⟨some 3, .mov (.t 50), none⟩] [43, 44, 45, 46, 47, 48, 49, 50]
def f34_r12 : IC := .reg false [⟨some 3, .mov (.k (.d (.b true))), none⟩] []
def f34_r10 : IC := .cond (.t 41) (f34_r11) (f34_r12)
def f34_r9 : IC := .seq (.reg false [⟨some 42, .bin .eql (.t 7) (.k (.d (.i .i64 3))), none⟩, ⟨some 41, .mov (.t 42), none⟩] [7, 42]) (f34_r10)
def f34_r6 : IC := .cond (.t 18) (f34_r7) (f34_r9)
def f34_r5 : IC := .seq (.reg false [⟨some 19, .bin .eql (.t 7) (.k (.d (.i .i64 2))), none⟩, ⟨some 18, .mov (.t 19), none⟩] [19]) (f34_r6)
def f34_r3 : IC := .cond (.t 8) (f34_r4) (f34_r5)
def f34_r2 : IC := .block 0 (.seq (.reg false [⟨some 9, .bin .eql (.t 7) (.k (.d (.i .i64 1))), none⟩, ⟨some 8, .mov (.t 9), none⟩] [9]) (f34_r3))
def f34_r15 : IC := .seq (.reg false [⟨some 2, .mov (.k (.d (.i .i64 20))), none⟩] []) (.ret)
def f34_r18 : IC := .seq (.reg false [⟨some 2, .mov (.k (.d (.i .i64 2))), none⟩] []) (.ret)
def f34_r17 : IC := .cond (.t 53) (f34_r18) (.skip)
def f34_r16 : IC := .seq (.reg false [⟨some 54, .faddr (.t 1) 3, none⟩, ⟨some 55, .load (.t 54) 1 false, none⟩, ⟨some 56, .lenS (.t 55), none⟩, ⟨some 57, .bin .gtr (.t 56) (.k (.d (.i .i64 64))), none⟩, ⟨some 53, .mov (.t 57), none⟩] [1, 54, 55, 56, 57]) (f34_r17)
def f34_r14 : IC := .cond (.t 51) (f34_r15) (f34_r16)
def f34_r19 : IC := .seq (.reg false [⟨some 2, .mov (.k (.d (.i .i64 0))), none⟩] []) (.ret)
def f34_r13 : IC := .seq (.block 1 (.seq (.reg false [⟨some 52, .mov (.t 3), none⟩, ⟨some 51, .mov (.t 52), none⟩] [3, 52]) (f34_r14))) (f34_r19)
def f34_r1 : IC := .seq (.seq (.reg false [⟨some 6, .faddr (.t 1) 0, none⟩, ⟨some 7, .load (.t 6) 1 false, none⟩] [6]) (f34_r2)) (f34_r13)
def f34_r0 : IC := .seq (.reg false [⟨some 3, .mov (.k (.d (.b false))), none⟩] [3]) (f34_r1)
def f34_b : IC := .seq (.reg false [⟨some 1, .box (.t 0) 4, none⟩, ⟨some 2, .mov (.k (.d (.i .i64 0))), none⟩] [0, 2]) (f34_r0)
/-- custos/value.Check -/
def f34 : IFn := { body := f34_b, results := [.tmp 2], ntmps := 58 }

def f38_r0 : IC := .seq (.reg false [⟨some 5, .mov (.t 0), none⟩, ⟨some 6, .lenS (.t 5), none⟩, ⟨some 7, .mov (.t 1), none⟩, ⟨some 8, .lenS (.t 7), none⟩, ⟨some 9, .bin .geq (.t 6) (.t 8), none⟩, ⟨some 10, .mov (.t 9), none⟩, ⟨some 11, .mov (.t 0), some (10, true)⟩, ⟨some 12, .mov (.t 0), some (10, true)⟩, ⟨some 13, .lenS (.t 12), some (10, true)⟩, ⟨some 14, .mov (.t 1), some (10, true)⟩, ⟨some 15, .lenS (.t 14), some (10, true)⟩, ⟨some 16, .bin .sub (.t 13) (.t 15), some (10, true)⟩, ⟨some 17, .slc 0 (.t 11) (some (.t 16)) none, some (10, true)⟩, ⟨some 18, .mov (.t 1), some (10, true)⟩, ⟨some 19, .bin .eql (.t 17) (.t 18), some (10, true)⟩, ⟨some 20, .pick (.t 10) (.t 19) (.k (.d (.b false))), none⟩, ⟨some 4, .mov (.t 20), none⟩] [0, 1, 5, 6, 7, 8, 9, 10, 11, 12, 13, 14, 15, 16, 17, 18, 19, 20]) (.ret)
def f38_b : IC := .seq (.reg false [⟨some 4, .mov (.k (.d (.b false))), none⟩] [4]) (f38_r0)
/-- internal/stringslite.HasSuffix -/
def f38 : IFn := { body := f38_b, results := [.tmp 4], ntmps := 21 }

def f39_r2 : IC := .seq (.reg false [⟨some 20, .mkif 67 (.k (.d (.i .i64 2))), none⟩, ⟨some 6, .mov (.k (.d (.i .u64 0))), none⟩, ⟨some 7, .mov (.t 20), none⟩] [20]) (.ret)
def f39_r1 : IC := .cond (.t 19) (f39_r2) (.skip)
def f39_r15 : IC := .reg false [⟨some 50, .mov (.t 0), none⟩, ⟨some 51, .slc 0 (.t 50) (some (.k (.d (.i .i64 2)))) none, none⟩, ⟨some 0, .mov (.t 51), none⟩] [50, 51]
def f39_r14 : IC := .seq (.reg false [⟨some 1, .mov (.k (.d (.i .i64 2))), none⟩] []) (f39_r15)
def f39_r19 : IC := .reg false [⟨some 62, .mov (.t 0), none⟩, ⟨some 63, .slc 0 (.t 62) (some (.k (.d (.i .i64 2)))) none, none⟩, ⟨some 0, .mov (.t 63), none⟩] [62, 63]
def f39_r18 : IC := .seq (.reg false [⟨some 1, .mov (.k (.d (.i .i64 8))), none⟩] []) (f39_r19)
def f39_r23 : IC := .reg false [⟨some 74, .mov (.t 0), none⟩, ⟨some 75, .slc 0 (.t 74) (some (.k (.d (.i .i64 2)))) none, none⟩, ⟨some 0, .mov (.t 75), none⟩] [74, 75]
def f39_r22 : IC := .seq (.reg false [⟨some 1, .mov (.k (.d (.i .i64 16))), none⟩] []) (f39_r23)
def f39_r25 : IC := .reg false [⟨some 38, .mov (.t 0), none⟩, ⟨some 39, .slc 0 (.t 38) (some (.k (.d (.i .i64 1)))) none, none⟩, ⟨some 0, .mov (.t 39), none⟩] [38, 39]
def f39_r24 : IC := .seq (.reg false [⟨some 1, .mov (.k (.d (.i .i64 8))), none⟩] []) (f39_r25)
def f39_r21 : IC := .cond (.t 64) (f39_r22) (f39_r24)
def f39_r20 : IC := .seq (.reg false [⟨some 65, .mov (.t 0), none⟩, ⟨some 66, .lenS (.t 65), none⟩, ⟨some 67, .bin .geq (.t 66) (.k (.d (.i .i64 3))), none⟩, ⟨some 68, .mov (.t 67), none⟩, ⟨some 69, .mov (.t 0), some (68, true)⟩, ⟨some 70, .idx (.t 69) (.k (.d (.i .i64 1))), some (68, true)⟩, ⟨some 71, .call 53 [.t 70], some (68, true)⟩, ⟨some 72, .bin .eql (.t 71) (.k (.d (.i .u8 120))), some (68, true)⟩, ⟨some 73, .pick (.t 68) (.t 72) (.k (.d (.b false))), none⟩, ⟨some 64, .mov (.t 73), none⟩] [65, 66, 67, 68, 69, 70, 71, 72, 73]) (f39_r21)
def f39_r17 : IC := .cond (.t 52) (f39_r18) (f39_r20)
def f39_r16 : IC := .seq (.reg false [⟨some 53, .mov (.t 0), none⟩, ⟨some 54, .lenS (.t 53), none⟩, ⟨some 55, .bin .geq (.t 54) (.k (.d (.i .i64 3))), none⟩, ⟨some 56, .mov (.t 55), none⟩, ⟨some 57, .mov (.t 0), some (56, true)⟩, ⟨some 58, .idx (.t 57) (.k (.d (.i .i64 1))), some (56, true)⟩, ⟨some 59, .call 53 [.t 58], some (56, true)⟩, ⟨some 60, .bin .eql (.t 59) (.k (.d (.i .u8 111))), some (56, true)⟩, ⟨some 61, .pick (.t 56) (.t 60) (.k (.d (.b false))), none⟩, ⟨some 52, .mov (.t 61), none⟩] [53, 54, 55, 56, 57, 58, 59, 60, 61]) (f39_r17)
def f39_r13 : IC := .kp [0, 2, 8, 9, 40] (.cond (.t 40) (f39_r14) (f39_r16))
def f39_r12 : IC := .block 1 (.seq (.reg false [⟨some 41, .mov (.t 0), none⟩, ⟨some 42, .lenS (.t 41), none⟩, ⟨some 43, .bin .geq (.t 42) (.k (.d (.i .i64 3))), none⟩, ⟨some 44, .mov (.t 43), none⟩, ⟨some 45, .mov (.t 0), some (44, true)⟩, ⟨some 46, .idx (.t 45) (.k (.d (.i .i64 1))), some (44, true)⟩, ⟨some 47, .call 53 [.t 46], some (44, true)⟩, ⟨some 48, .bin .eql (.t 47) (.k (.d (.i .u8 98))), some (44, true)⟩, ⟨some 49, .pick (.t 44) (.t 48) (.k (.d (.b false))), none⟩, ⟨some 40, .mov (.t 49), none⟩] [41, 42, 43, 44, 45, 46, 47, 48, 49]) (f39_r13))
def f39_r11 : IC := .cond (.t 37) (f39_r12) (.skip)
def f39_r10 : IC := .seq (.reg false [⟨some 35, .mov (.t 0), none⟩, ⟨some 36, .idx (.t 35) (.k (.d (.i .i64 0))), none⟩, ⟨some 37, .bin .eql (.t 36) (.k (.d (.i .u8 48))), none⟩] [35, 36]) (f39_r11)
def f39_r9 : IC := .seq (.reg false [⟨some 1, .mov (.k (.d (.i .i64 10))), none⟩] []) (f39_r10)
def f39_r26 : IC := .seq (.reg false [⟨some 24, .mkif 67 (.k (.d (.i .i64 3))), none⟩, ⟨some 6, .mov (.k (.d (.i .u64 0))), none⟩, ⟨some 7, .mov (.t 24), none⟩] [24]) (.ret)
def f39_r8 : IC := .cond (.t 32) (f39_r9) (f39_r26)
def f39_r7 : IC := .seq (.reg false [⟨some 33, .mov (.t 1), none⟩, ⟨some 34, .bin .eql (.t 33) (.k (.d (.i .i64 0))), none⟩, ⟨some 32, .mov (.t 34), none⟩] [1, 33, 34]) (f39_r8)
def f39_r6 : IC := .cond (.t 25) (.skip) (f39_r7)
def f39_r29 : IC := .reg false [⟨some 2, .mov (.k (.d (.i .i64 64))), none⟩] []
def f39_r32 : IC := .seq (.reg false [⟨some 84, .mkif 67 (.k (.d (.i .i64 4))), none⟩, ⟨some 6, .mov (.k (.d (.i .u64 0))), none⟩, ⟨some 7, .mov (.t 84), none⟩] [84]) (.ret)
def f39_r31 : IC := .cond (.t 83) (f39_r32) (.skip)
def f39_r30 : IC := .seq (.reg false [⟨some 78, .mov (.t 2), none⟩, ⟨some 79, .bin .lss (.t 78) (.k (.d (.i .i64 0))), none⟩, ⟨some 80, .mov (.t 79), none⟩, ⟨some 81, .mov (.t 2), some (80, false)⟩, ⟨some 82, .bin .gtr (.t 81) (.k (.d (.i .i64 64))), some (80, false)⟩, ⟨some 83, .pick (.t 80) (.k (.d (.b true))) (.t 82), none⟩] [78, 79, 80, 81, 82]) (f39_r31)
def f39_r28 : IC := .kp [0, 1, 2, 8, 9, 77] (.cond (.t 77) (f39_r29) (f39_r30))
def f39_r37 : IC := .reg false [⟨some 10, .mov (.k (.d (.i .u64 1844674407370955162))), none⟩] []
def f39_r40 : IC := .reg false [⟨some 10, .mov (.k (.d (.i .u64 1152921504606846976))), none⟩] []
def f39_r41 : IC := .reg false [⟨some 86, .mov (.t 1), none⟩, ⟨some 87, .conv (.int .u64) (.t 86), none⟩, ⟨some 88, .bin .quo (.k (.d (.i .u64 18446744073709551615))) (.t 87), none⟩, ⟨some 89, .bin .add (.t 88) (.k (.d (.i .u64 1))), none⟩, ⟨some 10, .mov (.t 89), none⟩] [86, 87, 88, 89]
def f39_r39 : IC := .cond (.t 92) (f39_r40) (f39_r41)
def f39_r38 : IC := .seq (.reg false [⟨some 93, .bin .eql (.t 85) (.k (.d (.i .i64 16))), none⟩, ⟨some 92, .mov (.t 93), none⟩] [85, 93]) (f39_r39)
def f39_r36 : IC := .cond (.t 90) (f39_r37) (f39_r38)
def f39_r35 : IC := .block 2 (.seq (.reg false [⟨some 91, .bin .eql (.t 85) (.k (.d (.i .i64 10))), none⟩, ⟨some 90, .mov (.t 91), none⟩] [91]) (f39_r36))
def f39_r52 : IC := .seq (.reg false [⟨some 12, .mov (.k (.d (.b true))), none⟩] []) (.exit 4)
def f39_r55 : IC := .reg false [⟨some 119, .mov (.t 15), none⟩, ⟨some 120, .bin .sub (.t 119) (.k (.d (.i .u8 48))), none⟩, ⟨some 16, .mov (.t 120), none⟩] [15, 119, 120]
def f39_r58 : IC := .reg false [⟨some 130, .mov (.t 15), none⟩, ⟨some 131, .call 53 [.t 130], none⟩, ⟨some 132, .bin .sub (.t 131) (.k (.d (.i .u8 97))), none⟩, ⟨some 133, .bin .add (.t 132) (.k (.d (.i .u8 10))), none⟩, ⟨some 16, .mov (.t 133), none⟩] [15, 130, 131, 132, 133]
def f39_r59 : IC := .seq (.reg false [⟨some 105, .mkif 67 (.k (.d (.i .i64 2))), none⟩, ⟨some 6, .mov (.k (.d (.i .u64 0))), none⟩, ⟨some 7, .mov (.t 105), none⟩] [105]) (.ret)
def f39_r57 : IC := .cond (.t 121) (f39_r58) (f39_r59)
def f39_r56 : IC := .seq (.reg false [⟨some 122, .mov (.t 15), none⟩, ⟨some 123, .call 53 [.t 122], none⟩, ⟨some 124, .bin .leq (.k (.d (.i .u8 97))) (.t 123), none⟩, ⟨some 125, .mov (.t 124), none⟩, ⟨some 126, .mov (.t 15), some (125, true)⟩, ⟨some 127, .call 53 [.t 126], some (125, true)⟩, ⟨some 128, .bin .leq (.t 127) (.k (.d (.i .u8 122))), some (125, true)⟩, ⟨some 129, .pick (.t 125) (.t 128) (.k (.d (.b false))), none⟩, ⟨some 121, .mov (.t 129), none⟩] [122, 123, 124, 125, 126, 127, 128, 129]) (f39_r57)
def f39_r54 : IC := .kp [1, 8, 9, 10, 11, 12, 13, 15, 99, 100, 101, 112] (.cond (.t 112) (f39_r55) (f39_r56))
def f39_r53 : IC := .seq (.reg false [⟨some 113, .mov (.t 15), none⟩, ⟨some 114, .bin .leq (.k (.d (.i .u8 48))) (.t 113), none⟩, ⟨some 115, .mov (.t 114), none⟩, ⟨some 116, .mov (.t 15), some (115, true)⟩, ⟨some 117, .bin .leq (.t 116) (.k (.d (.i .u8 57))), some (115, true)⟩, ⟨some 118, .pick (.t 115) (.t 117) (.k (.d (.b false))), none⟩, ⟨some 112, .mov (.t 118), none⟩] [113, 114, 115, 116, 117, 118]) (f39_r54)
def f39_r51 : IC := .cond (.t 106) (f39_r52) (f39_r53)
def f39_r62 : IC := .seq (.reg false [⟨some 138, .mkif 67 (.k (.d (.i .i64 2))), none⟩, ⟨some 6, .mov (.k (.d (.i .u64 0))), none⟩, ⟨some 7, .mov (.t 138), none⟩] [138]) (.ret)
def f39_r61 : IC := .cond (.t 137) (f39_r62) (.skip)
def f39_r65 : IC := .seq (.reg false [⟨some 142, .mov (.t 11), none⟩, ⟨some 143, .mkif 67 (.k (.d (.i .i64 1))), none⟩, ⟨some 6, .mov (.t 142), none⟩, ⟨some 7, .mov (.t 143), none⟩] [11, 142, 143]) (.ret)
def f39_r64 : IC := .cond (.t 141) (f39_r65) (.skip)
def f39_r70 : IC := .seq (.reg false [⟨some 160, .mov (.t 11), none⟩, ⟨some 161, .mkif 67 (.k (.d (.i .i64 1))), none⟩, ⟨some 6, .mov (.t 160), none⟩, ⟨some 7, .mov (.t 161), none⟩] [11, 160, 161]) (.ret)
def f39_r69 : IC := .cond (.t 159) (f39_r70) (.skip)
def f39_r71 : IC := .reg false [⟨some 162, .mov (.t 17), none⟩, ⟨some 13, .mov (.t 162), none⟩] [17, 162]
def f39_r68 : IC := .seq (.seq (.reg false [⟨some 152, .mov (.t 17), none⟩, ⟨some 153, .mov (.t 13), none⟩, ⟨some 154, .bin .lss (.t 152) (.t 153), none⟩, ⟨some 155, .mov (.t 154), none⟩, ⟨some 156, .mov (.t 17), some (155, false)⟩, ⟨some 157, .mov (.t 11), some (155, false)⟩, ⟨some 158, .bin .gtr (.t 156) (.t 157), some (155, false)⟩, ⟨some 159, .pick (.t 155) (.k (.d (.b true))) (.t 158), none⟩] [13, 152, 153, 154, 155, 156, 157, 158]) (f39_r69)) (f39_r71)
def f39_r67 : IC := .seq (.reg false [⟨some 148, .mov (.t 13), none⟩, ⟨some 149, .mov (.t 16), none⟩, ⟨some 150, .conv (.int .u64) (.t 149), none⟩, ⟨some 151, .bin .add (.t 148) (.t 150), none⟩, ⟨some 17, .mov (.t 151), none⟩] [16, 148, 149, 150, 151]) (f39_r68)
def f39_r66 : IC := .seq (.reg false [⟨some 144, .mov (.t 13), none⟩, ⟨some 145, .mov (.t 1), none⟩, ⟨some 146, .conv (.int .u64) (.t 145), none⟩, ⟨some 147, .bin .mul (.t 144) (.t 146), none⟩, ⟨some 13, .mov (.t 147), none⟩] [144, 145, 146, 147]) (f39_r67)
def f39_r63 : IC := .seq (.seq (.reg false [⟨some 139, .mov (.t 13), none⟩, ⟨some 140, .mov (.t 10), none⟩, ⟨some 141, .bin .geq (.t 139) (.t 140), none⟩] [139, 140]) (f39_r64)) (f39_r66)
def f39_r60 : IC := .seq (.seq (.reg false [⟨some 134, .mov (.t 16), none⟩, ⟨some 135, .mov (.t 1), none⟩, ⟨some 136, .conv (.int .u8) (.t 135), none⟩, ⟨some 137, .bin .geq (.t 134) (.t 136), none⟩] [134, 135, 136]) (f39_r61)) (f39_r63)
def f39_r50 : IC := .seq (.block 5 (.seq (.reg false [⟨some 107, .mov (.t 15), none⟩, ⟨some 108, .bin .eql (.t 107) (.k (.d (.i .u8 95))), none⟩, ⟨some 109, .mov (.t 108), none⟩, ⟨some 110, .mov (.t 8), some (109, true)⟩, ⟨some 111, .pick (.t 109) (.t 110) (.k (.d (.b false))), none⟩, ⟨some 106, .mov (.t 111), none⟩] [107, 108, 109, 110, 111]) (f39_r51))) (f39_r60)
def f39_r49 : IC := .seq (.reg false [⟨some 16, .mov (.k (.d (.i .u8 0))), none⟩] [16]) (f39_r50)
def f39_r72 : IC := .reg false [⟨some 163, .bin .add (.t 101) (.k (.d (.i .i64 1))), none⟩, ⟨some 101, .mov (.t 163), none⟩] [163]
def f39_r48 : IC := .seq (.block 4 (.seq (.reg false [⟨some 103, .iaddr (.t 99) (.t 101) 1, none⟩, ⟨some 104, .load (.t 103) 1 false, none⟩, ⟨some 15, .mov (.t 104), none⟩] [103, 104]) (f39_r49))) (f39_r72)
def f39_r47 : IC := .seq (.cond (.t 102) (.skip) (.exit 3)) (f39_r48)
def f39_l0 : IC := .loop [1, 8, 9, 10, 11, 12, 13, 99, 100, 101] (.seq (.reg false [⟨some 102, .bin .lss (.t 101) (.t 100), none⟩] []) (f39_r47))
def f39_r46 : IC := .block 3 (f39_l0)
def f39_r75 : IC := .seq (.reg false [⟨some 170, .mkif 67 (.k (.d (.i .i64 2))), none⟩, ⟨some 6, .mov (.k (.d (.i .u64 0))), none⟩, ⟨some 7, .mov (.t 170), none⟩] [170]) (.ret)
def f39_r74 : IC := .cond (.t 169) (f39_r75) (.skip)
def f39_r76 : IC := .seq (.reg false [⟨some 171, .mov (.t 13), none⟩, ⟨some 6, .mov (.t 171), none⟩, ⟨some 7, .mov (.k (.d .nili)), none⟩] [13, 171]) (.ret)
def f39_r73 : IC := .seq (.seq (.reg false [⟨some 164, .mov (.t 12), none⟩, ⟨some 165, .mov (.t 164), none⟩, ⟨some 166, .mov (.t 9), some (165, true)⟩, ⟨some 167, .call 54 [.t 166], some (165, true)⟩, ⟨some 168, .un .not (.t 167), some (165, true)⟩, ⟨some 169, .pick (.t 165) (.t 168) (.k (.d (.b false))), none⟩] [9, 12, 164, 165, 166, 167, 168]) (f39_r74)) (f39_r76)
def f39_r45 : IC := .seq (.seq (.reg false [⟨some 98, .mov (.t 0), none⟩, ⟨some 99, .conv .toBytes (.t 98), none⟩, ⟨some 100, .lenL (.t 99), none⟩, ⟨some 101, .mov (.k (.d (.i .i64 0))), none⟩] [0, 98]) (f39_r46)) (f39_r73)
def f39_r44 : IC := .seq (.reg false [⟨some 13, .mov (.k (.d (.i .u64 0))), none⟩] []) (f39_r45)
def f39_r43 : IC := .seq (.reg false [⟨some 12, .mov (.k (.d (.b false))), none⟩] []) (f39_r44)
def f39_r42 : IC := .seq (.reg false [⟨some 94, .mov (.t 2), none⟩, ⟨some 95, .conv (.int .u64) (.t 94), none⟩, ⟨some 96, .bin .shl (.k (.d (.i .u64 1))) (.t 95), none⟩, ⟨some 97, .bin .sub (.t 96) (.k (.d (.i .u64 1))), none⟩, ⟨some 11, .mov (.t 97), none⟩] [2, 94, 95, 96, 97]) (f39_r43)
def f39_r34 : IC := .seq (.seq (.reg false [⟨some 85, .mov (.t 1), none⟩] []) (f39_r35)) (f39_r42)
def f39_r33 : IC := .seq (.reg false [⟨some 10, .mov (.k (.d (.i .u64 0))), none⟩] [10]) (f39_r34)
def f39_r27 : IC := .seq (.seq (.reg false [⟨some 76, .mov (.t 2), none⟩, ⟨some 77, .bin .eql (.t 76) (.k (.d (.i .i64 0))), none⟩] [76]) (f39_r28)) (f39_r33)
def f39_r5 : IC := .seq (.block 0 (.seq (.reg false [⟨some 26, .mov (.t 1), none⟩, ⟨some 27, .bin .leq (.k (.d (.i .i64 2))) (.t 26), none⟩, ⟨some 28, .mov (.t 27), none⟩, ⟨some 29, .mov (.t 1), some (28, true)⟩, ⟨some 30, .bin .leq (.t 29) (.k (.d (.i .i64 36))), some (28, true)⟩, ⟨some 31, .pick (.t 28) (.t 30) (.k (.d (.b false))), none⟩, ⟨some 25, .mov (.t 31), none⟩] [26, 27, 28, 29, 30, 31]) (f39_r6))) (f39_r27)
def f39_r4 : IC := .seq (.reg false [⟨some 23, .mov (.t 0), none⟩, ⟨some 9, .mov (.t 23), none⟩] [23]) (f39_r5)
def f39_r3 : IC := .seq (.reg false [⟨some 21, .mov (.t 1), none⟩, ⟨some 22, .bin .eql (.t 21) (.k (.d (.i .i64 0))), none⟩, ⟨some 8, .mov (.t 22), none⟩] [21, 22]) (f39_r4)
def f39_r0 : IC := .seq (.seq (.reg false [⟨some 18, .mov (.t 0), none⟩, ⟨some 19, .bin .eql (.t 18) (.k (.d (.s []))), none⟩] [18]) (f39_r1)) (f39_r3)
def f39_b : IC := .seq (.reg false [⟨some 6, .mov (.k (.d (.i .u64 0))), none⟩, ⟨some 7, .mov (.k (.d .nili)), none⟩] [6, 7]) (f39_r0)
/-- internal/strconv.ParseUint -/
def f39 : IFn := { body := f39_b, results := [.tmp 6, .tmp 7], ntmps := 172 }

def f44_r2 : IC := .seq (.reg false [⟨some 12, .build [.d (.i .i64 0), .d (.i .i64 0)] [], none⟩, ⟨none, .store (.t 4) (.t 12) 2, none⟩, ⟨some 5, .mov (.k (.d (.i .i64 11))), none⟩] [12]) (.ret)
def f44_r1 : IC := .cond (.t 11) (f44_r2) (.skip)
def f44_r8 : IC := .seq (.reg false [⟨some 49, .build [.d (.i .i64 0), .d (.i .i64 0)] [], none⟩, ⟨none, .store (.t 4) (.t 49) 2, none⟩, ⟨some 5, .mov (.k (.d (.i .i64 10))), none⟩] [49]) (.ret)
def f44_r7 : IC := .cond (.t 48) (f44_r8) (.skip)
def f44_r11 : IC := .seq (.reg false [⟨some 51, .mov (.t 7), none⟩, ⟨some 52, .bin .sub (.t 51) (.k (.d (.i .u64 1))), none⟩, ⟨some 53, .conv (.int .i64) (.t 52), none⟩, ⟨some 54, .un .neg (.t 53), none⟩, ⟨some 55, .bin .sub (.t 54) (.k (.d (.i .i64 1))), none⟩, ⟨some 56, .mov (.t 8), none⟩, ⟨some 57, .conv (.int .i64) (.t 56), none⟩, ⟨some 58, .build [.d (.i .i64 0), .d (.i .i64 0)] [(0, 1, .t 55), (1, 1, .t 57)], none⟩, ⟨none, .store (.t 4) (.t 58) 2, none⟩, ⟨some 5, .mov (.k (.d (.i .i64 0))), none⟩] [7, 8, 51, 52, 53, 54, 55, 56, 57, 58]) (.ret)
def f44_r10 : IC := .cond (.t 50) (f44_r11) (.skip)
def f44_r12 : IC := .seq (.reg false [⟨some 59, .mov (.t 7), none⟩, ⟨some 60, .conv (.int .i64) (.t 59), none⟩, ⟨some 61, .mov (.t 8), none⟩, ⟨some 62, .conv (.int .i64) (.t 61), none⟩, ⟨some 63, .build [.d (.i .i64 0), .d (.i .i64 0)] [(0, 1, .t 60), (1, 1, .t 62)], none⟩, ⟨none, .store (.t 4) (.t 63) 2, none⟩, ⟨some 5, .mov (.k (.d (.i .i64 0))), none⟩] [7, 8, 59, 60, 61, 62, 63]) (.ret)
def f44_r9 : IC := .seq (.seq (.reg false [⟨some 50, .mov (.t 9), none⟩] [9]) (f44_r10)) (f44_r12)
def f44_r6 : IC := .seq (.seq (.reg false [⟨some 35, .mov (.t 8), none⟩, ⟨some 36, .bin .gtr (.t 35) (.k (.d (.i .u64 9223372036854775807))), none⟩, ⟨some 37, .mov (.t 36), none⟩, ⟨some 38, .mov (.t 7), some (37, false)⟩, ⟨some 39, .bin .gtr (.t 38) (.k (.d (.i .u64 9223372036854775808))), some (37, false)⟩, ⟨some 40, .pick (.t 37) (.k (.d (.b true))) (.t 39), none⟩, ⟨some 41, .mov (.t 40), none⟩, ⟨some 42, .mov (.t 7), some (41, false)⟩, ⟨some 43, .bin .eql (.t 42) (.k (.d (.i .u64 9223372036854775808))), some (41, false)⟩, ⟨some 44, .mov (.t 43), some (41, false)⟩, ⟨some 45, .mov (.t 9), some (44, true)⟩, ⟨some 46, .un .not (.t 45), some (44, true)⟩, ⟨some 47, .pick (.t 44) (.t 46) (.k (.d (.b false))), some (41, false)⟩, ⟨some 48, .pick (.t 41) (.k (.d (.b true))) (.t 47), none⟩] [35, 36, 37, 38, 39, 40, 41, 42, 43, 44, 45, 46, 47]) (f44_r7)) (f44_r9)
def f44_r5 : IC := .seq (.reg false [⟨some 26, .mov (.t 0), none⟩, ⟨some 27, .bin .neq (.t 26) (.k (.d (.i .i64 0))), none⟩, ⟨some 28, .mov (.t 27), none⟩, ⟨some 29, .mov (.t 0), some (28, true)⟩, ⟨some 30, .bin .lss (.t 29) (.k (.d (.i .i64 0))), some (28, true)⟩, ⟨some 31, .mov (.t 1), some (28, true)⟩, ⟨some 32, .bin .lss (.t 31) (.k (.d (.i .i64 0))), some (28, true)⟩, ⟨some 33, .beqv true (.t 30) (.t 32), some (28, true)⟩, ⟨some 34, .pick (.t 28) (.t 33) (.k (.d (.b false))), none⟩, ⟨some 9, .mov (.t 34), none⟩] [0, 1, 26, 27, 28, 29, 30, 31, 32, 33, 34]) (f44_r6)
def f44_r4 : IC := .seq (.reg true [⟨some 18, .mov (.t 0), none⟩, ⟨some 19, .callP 59 [.t 18], none⟩, ⟨some 20, .mov (.t 6), none⟩, ⟨some 21, .bin .quo (.t 19) (.t 20), none⟩, ⟨some 22, .mov (.t 1), none⟩, ⟨some 23, .callP 59 [.t 22], none⟩, ⟨some 24, .mov (.t 6), none⟩, ⟨some 25, .bin .quo (.t 23) (.t 24), none⟩, ⟨some 7, .mov (.t 21), none⟩, ⟨some 8, .mov (.t 25), none⟩] [6, 18, 19, 20, 21, 22, 23, 24, 25]) (f44_r5)
def f44_r3 : IC := .seq (.reg false [⟨some 13, .mov (.t 0), none⟩, ⟨some 14, .call 59 [.t 13], none⟩, ⟨some 15, .mov (.t 1), none⟩, ⟨some 16, .call 59 [.t 15], none⟩, ⟨some 17, .call 58 [.t 14, .t 16], none⟩, ⟨some 6, .mov (.t 17), none⟩] [13, 14, 15, 16, 17]) (f44_r4)
def f44_r0 : IC := .seq (.seq (.reg false [⟨some 10, .mov (.t 1), none⟩, ⟨some 11, .bin .eql (.t 10) (.k (.d (.i .i64 0))), none⟩] [10]) (f44_r1)) (f44_r3)
def f44_b : IC := .seq (.reg false [⟨some 4, .alloc [.d (.i .i64 0), .d (.i .i64 0)], none⟩, ⟨some 5, .mov (.k (.d (.i .i64 0))), none⟩] [5]) (f44_r0)
/-- custos/rat.Of -/
def f44 : IFn := { body := f44_b, results := [.cell 4 2 true, .tmp 5], ntmps := 64 }

def f45_r0 : IC := .seq (.reg false [⟨some 3, .faddr (.t 1) 1, none⟩, ⟨some 4, .load (.t 3) 1 false, none⟩, ⟨some 5, .faddr (.t 1) 2, none⟩, ⟨some 6, .load (.t 5) 1 false, none⟩, ⟨some 7, .build [.d (.i .i64 0), .d (.i .i64 0)] [(0, 1, .t 4), (1, 1, .t 6)], none⟩, ⟨none, .store (.t 2) (.t 7) 2, none⟩] [1, 3, 4, 5, 6, 7]) (.ret)
def f45_b : IC := .seq (.reg false [⟨some 1, .box (.t 0) 4, none⟩, ⟨some 2, .alloc [.d (.i .i64 0), .d (.i .i64 0)], none⟩] [0]) (f45_r0)
/-- custos/value.fraction -/
def f45 : IFn := { body := f45_b, results := [.cell 2 2 true], ntmps := 8 }

def f53_r0 : IC := .seq (.reg false [⟨some 3, .mov (.t 0), none⟩, ⟨some 4, .bin .or (.t 3) (.k (.d (.i .u8 32))), none⟩, ⟨some 2, .mov (.t 4), none⟩] [0, 3, 4]) (.ret)
def f53_b : IC := .seq (.reg false [⟨some 2, .mov (.k (.d (.i .u8 0))), none⟩] [2]) (f53_r0)
/-- internal/strconv.lower -/
def f53 : IFn := { body := f53_b, results := [.tmp 2], ntmps := 5 }

def f54_r4 : IC := .reg false [⟨some 19, .mov (.t 0), none⟩, ⟨some 20, .slc 0 (.t 19) (some (.k (.d (.i .i64 1)))) none, none⟩, ⟨some 0, .mov (.t 20), none⟩] [19, 20]
def f54_r3 : IC := .cond (.t 18) (f54_r4) (.skip)
def f54_r10 : IC := .reg false [⟨some 47, .mov (.t 0), none⟩, ⟨some 48, .idx (.t 47) (.k (.d (.i .i64 1))), none⟩, ⟨some 49, .call 53 [.t 48], none⟩, ⟨some 50, .bin .eql (.t 49) (.k (.d (.i .u8 120))), none⟩, ⟨some 5, .mov (.t 50), none⟩] [47, 48, 49, 50]
def f54_r9 : IC := .seq (.reg false [⟨some 3, .mov (.k (.d (.i .i32 48))), none⟩] []) (f54_r10)
def f54_r8 : IC := .seq (.reg false [⟨some 4, .mov (.k (.d (.i .i64 2))), none⟩] []) (f54_r9)
def f54_r7 : IC := .cond (.t 46) (f54_r8) (.skip)
def f54_r12 : IC := .cond (.t 54) (.skip) (.exit 0)
def f54_r15 : IC := .seq (.reg false [⟨some 3, .mov (.k (.d (.i .i32 48))), none⟩] []) (.exit 1)
def f54_r14 : IC := .cond (.t 83) (f54_r15) (.skip)
def f54_r20 : IC := .seq (.reg false [⟨some 2, .mov (.k (.d (.b false))), none⟩] []) (.ret)
def f54_r19 : IC := .cond (.t 89) (f54_r20) (.skip)
def f54_r21 : IC := .seq (.reg false [⟨some 3, .mov (.k (.d (.i .i32 95))), none⟩] []) (.exit 1)
def f54_r18 : IC := .seq (.seq (.reg false [⟨some 88, .mov (.t 3), none⟩, ⟨some 89, .bin .neq (.t 88) (.k (.d (.i .i32 48))), none⟩] [3, 88]) (f54_r19)) (f54_r21)
def f54_r17 : IC := .cond (.t 87) (f54_r18) (.skip)
def f54_r24 : IC := .seq (.reg false [⟨some 2, .mov (.k (.d (.b false))), none⟩] []) (.ret)
def f54_r23 : IC := .cond (.t 91) (f54_r24) (.skip)
def f54_r25 : IC := .reg false [⟨some 3, .mov (.k (.d (.i .i32 33))), none⟩] []
def f54_r22 : IC := .seq (.seq (.reg false [⟨some 90, .mov (.t 3), none⟩, ⟨some 91, .bin .eql (.t 90) (.k (.d (.i .i32 95))), none⟩] [3, 90]) (f54_r23)) (f54_r25)
def f54_r16 : IC := .seq (.seq (.reg false [⟨some 84, .mov (.t 0), none⟩, ⟨some 85, .mov (.t 4), none⟩, ⟨some 86, .idx (.t 84) (.t 85), none⟩, ⟨some 87, .bin .eql (.t 86) (.k (.d (.i .u8 95))), none⟩] [84, 85, 86]) (f54_r17)) (f54_r22)
def f54_r26 : IC := .reg false [⟨some 55, .mov (.t 4), none⟩, ⟨some 56, .bin .add (.t 55) (.k (.d (.i .i64 1))), none⟩, ⟨some 4, .mov (.t 56), none⟩] [55, 56]
def f54_r13 : IC := .seq (.block 1 (.seq (.seq (.reg false [⟨some 57, .mov (.t 0), none⟩, ⟨some 58, .mov (.t 4), none⟩, ⟨some 59, .idx (.t 57) (.t 58), none⟩, ⟨some 60, .bin .leq (.k (.d (.i .u8 48))) (.t 59), none⟩, ⟨some 61, .mov (.t 60), none⟩, ⟨some 62, .mov (.t 0), some (61, true)⟩, ⟨some 63, .mov (.t 4), some (61, true)⟩, ⟨some 64, .idx (.t 62) (.t 63), some (61, true)⟩, ⟨some 65, .bin .leq (.t 64) (.k (.d (.i .u8 57))), some (61, true)⟩, ⟨some 66, .pick (.t 61) (.t 65) (.k (.d (.b false))), none⟩, ⟨some 67, .mov (.t 66), none⟩, ⟨some 68, .mov (.t 5), some (67, false)⟩, ⟨some 69, .mov (.t 68), some (67, false)⟩, ⟨some 70, .mov (.t 0), some (69, true)⟩, ⟨some 71, .mov (.t 4), some (69, true)⟩, ⟨some 72, .idx (.t 70) (.t 71), some (69, true)⟩, ⟨some 73, .call 53 [.t 72], some (69, true)⟩, ⟨some 74, .bin .leq (.k (.d (.i .u8 97))) (.t 73), some (69, true)⟩, ⟨some 75, .pick (.t 69) (.t 74) (.k (.d (.b false))), some (67, false)⟩, ⟨some 76, .mov (.t 75), some (67, false)⟩, ⟨some 77, .mov (.t 0), some (76, true)⟩, ⟨some 78, .mov (.t 4), some (76, true)⟩, ⟨some 79, .idx (.t 77) (.t 78), some (76, true)⟩, ⟨some 80, .call 53 [.t 79], some (76, true)⟩, ⟨some 81, .bin .leq (.t 80) (.k (.d (.i .u8 102))), some (76, true)⟩, ⟨some 82, .pick (.t 76) (.t 81) (.k (.d (.b false))), some (67, false)⟩, ⟨some 83, .pick (.t 67) (.k (.d (.b true))) (.t 82), none⟩] [57, 58, 59, 60, 61, 62, 63, 64, 65, 66, 67, 68, 69, 70, 71, 72, 73, 74, 75, 76, 77, 78, 79, 80, 81, 82]) (f54_r14)) (f54_r16))) (f54_r26)
def f54_l0 : IC := .loop [0, 3, 4, 5] (.seq (.seq (.reg false [⟨some 51, .mov (.t 4), none⟩, ⟨some 52, .mov (.t 0), none⟩, ⟨some 53, .lenS (.t 52), none⟩, ⟨some 54, .bin .lss (.t 51) (.t 53), none⟩] [51, 52, 53]) (f54_r12)) (f54_r13))
def f54_r27 : IC := .seq (.reg false [⟨some 92, .mov (.t 3), none⟩, ⟨some 93, .bin .neq (.t 92) (.k (.d (.i .i32 95))), none⟩, ⟨some 2, .mov (.t 93), none⟩] [3, 92, 93]) (.ret)
def f54_r11 : IC := .seq (.block 0 (f54_l0)) (f54_r27)
def f54_r6 : IC := .kp [0, 3, 4, 5] (.seq (.seq (.reg false [⟨some 21, .mov (.t 0), none⟩, ⟨some 22, .lenS (.t 21), none⟩, ⟨some 23, .bin .geq (.t 22) (.k (.d (.i .i64 2))), none⟩, ⟨some 24, .mov (.t 23), none⟩, ⟨some 25, .mov (.t 0), some (24, true)⟩, ⟨some 26, .idx (.t 25) (.k (.d (.i .i64 0))), some (24, true)⟩, ⟨some 27, .bin .eql (.t 26) (.k (.d (.i .u8 48))), some (24, true)⟩, ⟨some 28, .pick (.t 24) (.t 27) (.k (.d (.b false))), none⟩, ⟨some 29, .mov (.t 28), none⟩, ⟨some 30, .mov (.t 0), some (29, true)⟩, ⟨some 31, .idx (.t 30) (.k (.d (.i .i64 1))), some (29, true)⟩, ⟨some 32, .call 53 [.t 31], some (29, true)⟩, ⟨some 33, .bin .eql (.t 32) (.k (.d (.i .u8 98))), some (29, true)⟩, ⟨some 34, .mov (.t 33), some (29, true)⟩, ⟨some 35, .mov (.t 0), some (34, false)⟩, ⟨some 36, .idx (.t 35) (.k (.d (.i .i64 1))), some (34, false)⟩, ⟨some 37, .call 53 [.t 36], some (34, false)⟩, ⟨some 38, .bin .eql (.t 37) (.k (.d (.i .u8 111))), some (34, false)⟩, ⟨some 39, .pick (.t 34) (.k (.d (.b true))) (.t 38), some (29, true)⟩, ⟨some 40, .mov (.t 39), some (29, true)⟩, ⟨some 41, .mov (.t 0), some (40, false)⟩, ⟨some 42, .idx (.t 41) (.k (.d (.i .i64 1))), some (40, false)⟩, ⟨some 43, .call 53 [.t 42], some (40, false)⟩, ⟨some 44, .bin .eql (.t 43) (.k (.d (.i .u8 120))), some (40, false)⟩, ⟨some 45, .pick (.t 40) (.k (.d (.b true))) (.t 44), some (29, true)⟩, ⟨some 46, .pick (.t 29) (.t 45) (.k (.d (.b false))), none⟩] [21, 22, 23, 24, 25, 26, 27, 28, 29, 30, 31, 32, 33, 34, 35, 36, 37, 38, 39, 40, 41, 42, 43, 44, 45]) (f54_r7)) (f54_r11))
def f54_r5 : IC := .seq (.reg false [⟨some 5, .mov (.k (.d (.b false))), none⟩] []) (f54_r6)
def f54_r2 : IC := .seq (.seq (.reg false [⟨some 6, .mov (.t 0), none⟩, ⟨some 7, .lenS (.t 6), none⟩, ⟨some 8, .bin .geq (.t 7) (.k (.d (.i .i64 1))), none⟩, ⟨some 9, .mov (.t 8), none⟩, ⟨some 10, .mov (.t 0), some (9, true)⟩, ⟨some 11, .idx (.t 10) (.k (.d (.i .i64 0))), some (9, true)⟩, ⟨some 12, .bin .eql (.t 11) (.k (.d (.i .u8 45))), some (9, true)⟩, ⟨some 13, .mov (.t 12), some (9, true)⟩, ⟨some 14, .mov (.t 0), some (13, false)⟩, ⟨some 15, .idx (.t 14) (.k (.d (.i .i64 0))), some (13, false)⟩, ⟨some 16, .bin .eql (.t 15) (.k (.d (.i .u8 43))), some (13, false)⟩, ⟨some 17, .pick (.t 13) (.k (.d (.b true))) (.t 16), some (9, true)⟩, ⟨some 18, .pick (.t 9) (.t 17) (.k (.d (.b false))), none⟩] [6, 7, 8, 9, 10, 11, 12, 13, 14, 15, 16, 17]) (f54_r3)) (f54_r5)
def f54_r1 : IC := .seq (.reg false [⟨some 4, .mov (.k (.d (.i .i64 0))), none⟩] []) (f54_r2)
def f54_r0 : IC := .seq (.reg false [⟨some 3, .mov (.k (.d (.i .i32 94))), none⟩] []) (f54_r1)
def f54_b : IC := .seq (.reg false [⟨some 2, .mov (.k (.d (.b false))), none⟩] [2]) (f54_r0)
/-- internal/strconv.underscoreOK -/
def f54 : IFn := { body := f54_b, results := [.tmp 2], ntmps := 94 }

def f58_r1 : IC := .cond (.t 6) (.skip) (.exit 0)
def f58_r2 : IC := .block 1 (.reg true [⟨some 7, .mov (.t 1), none⟩, ⟨some 8, .mov (.t 0), none⟩, ⟨some 9, .mov (.t 1), none⟩, ⟨some 10, .bin .rem (.t 8) (.t 9), none⟩, ⟨some 0, .mov (.t 7), none⟩, ⟨some 1, .mov (.t 10), none⟩] [7, 8, 9, 10])
def f58_l0 : IC := .loop [0, 1] (.seq (.seq (.reg false [⟨some 5, .mov (.t 1), none⟩, ⟨some 6, .bin .neq (.t 5) (.k (.d (.i .u64 0))), none⟩] [5]) (f58_r1)) (f58_r2))
def f58_r3 : IC := .seq (.reg false [⟨some 11, .mov (.t 0), none⟩, ⟨some 4, .mov (.t 11), none⟩] [0, 11]) (.ret)
def f58_r0 : IC := .seq (.block 0 (f58_l0)) (f58_r3)
def f58_b : IC := .seq (.reg false [⟨some 4, .mov (.k (.d (.i .u64 0))), none⟩] [4]) (f58_r0)
/-- custos/rat.gcd -/
def f58 : IFn := { body := f58_b, results := [.tmp 4], ntmps := 12 }

def f59_r2 : IC := .seq (.reg false [⟨some 5, .mov (.t 0), none⟩, ⟨some 6, .conv (.int .u64) (.t 5), none⟩, ⟨some 7, .un .neg (.t 6), none⟩, ⟨some 2, .mov (.t 7), none⟩] [0, 5, 6, 7]) (.ret)
def f59_r1 : IC := .cond (.t 4) (f59_r2) (.skip)
def f59_r3 : IC := .seq (.reg false [⟨some 8, .mov (.t 0), none⟩, ⟨some 9, .conv (.int .u64) (.t 8), none⟩, ⟨some 2, .mov (.t 9), none⟩] [0, 8, 9]) (.ret)
def f59_r0 : IC := .seq (.seq (.reg false [⟨some 3, .mov (.t 0), none⟩, ⟨some 4, .bin .lss (.t 3) (.k (.d (.i .i64 0))), none⟩] [3]) (f59_r1)) (f59_r3)
def f59_b : IC := .seq (.reg false [⟨some 2, .mov (.k (.d (.i .u64 0))), none⟩] [2]) (f59_r0)
/-- custos/rat.size -/
def f59 : IFn := { body := f59_b, results := [.tmp 2], ntmps := 10 }

set_option maxRecDepth 100000
theorem m3 : matchF Tryd.prog Tryd.f3 f3 = true := by kernel_rfl
theorem m4 : matchF Tryd.prog Tryd.f4 f4 = true := by kernel_rfl
theorem m5 : matchF Tryd.prog Tryd.f5 f5 = true := by kernel_rfl
theorem m6 : matchF Tryd.prog Tryd.f6 f6 = true := by kernel_rfl
theorem m7 : matchF Tryd.prog Tryd.f7 f7 = true := by kernel_rfl
theorem m8 : matchF Tryd.prog Tryd.f8 f8 = true := by kernel_rfl
theorem m9 : matchF Tryd.prog Tryd.f9 f9 = true := by kernel_rfl
theorem m10 : matchF Tryd.prog Tryd.f10 f10 = true := by kernel_rfl
theorem m11 : matchF Tryd.prog Tryd.f11 f11 = true := by kernel_rfl
theorem m12 : matchF Tryd.prog Tryd.f12 f12 = true := by kernel_rfl
theorem m13 : matchF Tryd.prog Tryd.f13 f13 = true := by kernel_rfl
theorem m14 : matchF Tryd.prog Tryd.f14 f14 = true := by kernel_rfl
theorem m15 : matchF Tryd.prog Tryd.f15 f15 = true := by kernel_rfl
theorem m19 : matchF Tryd.prog Tryd.f19 f19 = true := by kernel_rfl
theorem m20 : matchF Tryd.prog Tryd.f20 f20 = true := by kernel_rfl
theorem m21 : matchF Tryd.prog Tryd.f21 f21 = true := by kernel_rfl
theorem m22 : matchF Tryd.prog Tryd.f22 f22 = true := by kernel_rfl
theorem m23 : matchF Tryd.prog Tryd.f23 f23 = true := by kernel_rfl
theorem m24 : matchF Tryd.prog Tryd.f24 f24 = true := by kernel_rfl
theorem m25 : matchF Tryd.prog Tryd.f25 f25 = true := by kernel_rfl
theorem m29 : matchF Tryd.prog Tryd.f29 f29 = true := by kernel_rfl
theorem m30 : matchF Tryd.prog Tryd.f30 f30 = true := by kernel_rfl
theorem m31 : matchF Tryd.prog Tryd.f31 f31 = true := by kernel_rfl
theorem m32 : matchF Tryd.prog Tryd.f32 f32 = true := by kernel_rfl
theorem m34 : matchF Tryd.prog Tryd.f34 f34 = true := by kernel_rfl
theorem m38 : matchF Tryd.prog Tryd.f38 f38 = true := by kernel_rfl
theorem m39 : matchF Tryd.prog Tryd.f39 f39 = true := by kernel_rfl
theorem m44 : matchF Tryd.prog Tryd.f44 f44 = true := by kernel_rfl
theorem m45 : matchF Tryd.prog Tryd.f45 f45 = true := by kernel_rfl
theorem m53 : matchF Tryd.prog Tryd.f53 f53 = true := by kernel_rfl
theorem m54 : matchF Tryd.prog Tryd.f54 f54 = true := by kernel_rfl
theorem m58 : matchF Tryd.prog Tryd.f58 f58 = true := by kernel_rfl
theorem m59 : matchF Tryd.prog Tryd.f59 f59 = true := by kernel_rfl
end Go.Eng.L05

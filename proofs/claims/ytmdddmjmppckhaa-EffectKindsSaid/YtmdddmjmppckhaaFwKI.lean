/- PRINTED by sh.py: functions as the abstract machine reads them -/
import Derived.Test.YtmdddmjmppckhaaFwKT
namespace Go.Fw.K
open Go.Fw
namespace slices_Index_int_int
def r0 : List (Nat × RStep) := [
  c 0 4 (.q (.mv (.k (.c (.int .i64 0)))))]
def r1 : List (Nat × RStep) := [
  c 0 6 (.q (.mv (.t 0))),
  c 1 7 (.q (.len (.t 6))),
  c 2 8 (.q (.mv (.k (.c (.int .i64 0)))))]
def r2 : List (Nat × RStep) := [
  c 0 9 (.q (.bin .lss (.t 8) (.t 7)))]
def r3 : List (Nat × RStep) := [
  c 0 10 (.q (.mv (.t 8))),
  c 1 5 (.q (.mv (.t 10)))]
def r4 : List (Nat × RStep) := [
  c 0 11 (.q (.mv (.t 1))),
  c 1 12 (.q (.mv (.t 0))),
  c 2 13 (.q (.mv (.t 5))),
  c 3 14 (.q (.idx 1 (.t 12) (.t 13))),
  c 4 15 (.q (.load false 1 (.t 14))),
  c 5 16 (.q (.bin .eql (.t 11) (.t 15)))]
def r5 : List (Nat × RStep) := [
  c 0 17 (.q (.mv (.t 5))),
  c 1 4 (.q (.mv (.t 17)))]
def k1 : Blk := (.seq (.reg r3) (.seq (.reg r4) (.cond (.t 16) (.seq (.reg r5) .ret) .skip)))
def r6 : List (Nat × RStep) := [
  c 0 18 (.q (.bin .add (.t 8) (.k (.c (.int .i64 1))))),
  c 1 8 (.q (.mv (.t 18)))]
def w0 : Blk := (.seq (.reg r2) (.seq (.cond (.t 9) .skip (.exit 0)) (.seq (.block 1 k1) (.reg r6))))
def k0 : Blk := (.loop w0)
def r7 : List (Nat × RStep) := [
  c 0 4 (.q (.mv (.k (.c (.int .i64 (-1))))))]
def body : Blk := (.seq (.reg r0) (.seq (.seq (.reg r1) (.block 0 k0)) (.seq (.reg r7) .ret)))
def fi : FI := { nt := 19, na := 2, body := body, res := [(.tmp 4, [])] }
end slices_Index_int_int
namespace slices_Contains_int_int
def r0 : List (Nat × RStep) := [
  c 0 4 (.q (.mv (.k (.c (.bool false)))))]
def r1 : List (Nat × RStep) := [
  c 0 5 (.q (.mv (.t 0))),
  c 1 6 (.q (.mv (.t 1))),
  c 2 7 (.call F.slices_Index_int_int [(.t 5), (.t 6)]),
  c 3 8 (.q (.bin .geq (.t 7) (.k (.c (.int .i64 0))))),
  c 4 4 (.q (.mv (.t 8)))]
def body : Blk := (.seq (.reg r0) (.seq (.reg r1) .ret))
def fi : FI := { nt := 9, na := 2, body := body, res := [(.tmp 4, [])] }
end slices_Contains_int_int
namespace check_Ahead
def r0 : List (Nat × RStep) := [
  c 0 1 (.boxr (.t 0)),
  c 1 2 (.q (.mv (.k (.c .z))))]
def r1 : List (Nat × RStep) := [
  c 0 8 (.q (.fld 3 (.t 1))),
  c 1 9 (.q (.load false 1 (.t 8))),
  c 2 10 (.q (.len (.t 9))),
  c 3 11 (.m (.mks 24 [.ow 1 []] (.t 10))),
  c 4 3 (.q (.mv (.t 11)))]
def r2 : List (Nat × RStep) := [
  c 0 12 (.q (.fld 3 (.t 1))),
  c 1 13 (.q (.load false 1 (.t 12))),
  c 2 14 (.q (.len (.t 13))),
  c 3 15 (.q (.mv (.k (.c (.int .i64 0)))))]
def r3 : List (Nat × RStep) := [
  c 0 16 (.q (.bin .lss (.t 15) (.t 14)))]
def r4 : List (Nat × RStep) := [
  c 0 17 (.q (.mv (.t 15))),
  c 1 18 (.q (.idx 5 (.t 13) (.t 15))),
  c 2 19 (.q (.load true 5 (.t 18))),
  c 3 5 (.m (.alloc [.ow 2 [], .ow 5 [], .int .i64 0, .int .i64 0, .ow 1 []])),
  c 4 4 (.q (.mv (.t 17))),
  v 5 (.st false 5 [2, 5, 0, 0, 1] (.t 5) (.t 19))]
def r5 : List (Nat × RStep) := [
  c 0 20 (.q (.fld 2 (.t 5))),
  c 1 21 (.q (.fld 2 (.t 20))),
  c 2 22 (.q (.load false 1 (.t 21))),
  c 3 23 (.q (.len (.t 22))),
  c 4 24 (.q (.mv (.k (.c (.int .i64 0)))))]
def r6 : List (Nat × RStep) := [
  c 0 25 (.q (.bin .lss (.t 24) (.t 23)))]
def r7 : List (Nat × RStep) := [
  c 0 26 (.q (.idx 1 (.t 22) (.t 24))),
  c 1 27 (.q (.load false 1 (.t 26))),
  c 2 7 (.q (.mv (.t 27)))]
def r8 : List (Nat × RStep) := [
  c 0 28 (.q (.mv (.t 7))),
  c 1 29 (.q (.bin .geq (.t 28) (.k (.c (.int .i64 0))))),
  c 2 30 (.q (.mv (.t 29))),
  cg 3 31 30 true (.q (.mv (.t 7))),
  cg 4 32 30 true (.q (.mv (.t 3))),
  cg 5 33 30 true (.q (.len (.t 32))),
  cg 6 34 30 true (.q (.bin .lss (.t 31) (.t 33))),
  c 7 35 (.q (.pick (.t 30) (.t 34) (.k (.c (.bool false))))),
  c 8 36 (.q (.mv (.t 35))),
  cg 9 37 36 true (.q (.mv (.t 3))),
  cg 10 38 36 true (.q (.mv (.t 7))),
  cg 11 39 36 true (.q (.idx 1 (.t 37) (.t 38))),
  cg 12 40 36 true (.q (.load false 1 (.t 39))),
  cg 13 41 36 true (.q (.mv (.t 4))),
  cg 14 42 36 true (.call F.slices_Contains_int_int [(.t 40), (.t 41)]),
  cg 15 43 36 true (.q (.not (.t 42))),
  c 16 44 (.q (.pick (.t 36) (.t 43) (.k (.c (.bool false)))))]
def r9 : List (Nat × RStep) := [
  c 0 45 (.q (.mv (.t 3))),
  c 1 46 (.q (.mv (.t 7))),
  c 2 47 (.q (.mv (.t 3))),
  c 3 48 (.q (.mv (.t 7))),
  c 4 49 (.q (.idx 1 (.t 47) (.t 48))),
  c 5 50 (.q (.load false 1 (.t 49))),
  c 6 51 (.q (.mv (.t 4))),
  c 7 52 (.m (.bsl 1 1 [.int .i64 0] [(0, 1, (.t 51))] [])),
  c 8 53 (.app 1 8 true (.t 50) (.t 52)),
  c 9 54 (.q (.idx 1 (.t 45) (.t 46))),
  v 10 (.st false 1 [1] (.t 54) (.t 53))]
def k3 : Blk := (.seq (.reg r7) (.seq (.reg r8) (.cond (.t 44) (.gh [.idx 58 (.t 3) (.t 7), .opn 59 (.t 58)] (.reg r9)) .skip)))
def r10 : List (Nat × RStep) := [
  c 0 55 (.q (.bin .add (.t 24) (.k (.c (.int .i64 1))))),
  c 1 24 (.q (.mv (.t 55)))]
def w0 : Blk := (.seq (.reg r6) (.seq (.cond (.t 25) .skip (.exit 2)) (.seq (.block 3 k3) (.reg r10))))
def k2 : Blk := (.loop w0)
def k1 : Blk := (.seq (.post (.reg r4) [.frz 5]) (.seq (.reg r5) (.block 2 k2)))
def r11 : List (Nat × RStep) := [
  c 0 56 (.q (.bin .add (.t 15) (.k (.c (.int .i64 1))))),
  c 1 15 (.q (.mv (.t 56)))]
def w1 : Blk := (.seq (.reg r3) (.seq (.cond (.t 16) .skip (.exit 0)) (.seq (.block 1 k1) (.reg r11))))
def k0 : Blk := (.loop w1)
def r12 : List (Nat × RStep) := [
  c 0 57 (.q (.mv (.t 3))),
  c 1 2 (.q (.mv (.t 57)))]
def body : Blk := (.seq (.reg r0) (.seq (.reg r1) (.seq (.seq (.reg r2) (.block 0 k0)) (.seq (.reg r12) .ret))))
def fi : FI := { nt := 58, na := 1, body := body, res := [(.tmp 2, [1])] }
end check_Ahead
namespace check_small
def r0 : List (Nat × RStep) := [
  c 0 1 (.boxr (.t 0)),
  c 1 2 (.q (.mv (.k (.c (.bool false)))))]
def r1 : List (Nat × RStep) := [
  c 0 3 (.q (.mv (.k (.c (.int .i64 0)))))]
def r2 : List (Nat × RStep) := [
  c 0 6 (.q (.fld 3 (.t 1))),
  c 1 7 (.q (.load false 1 (.t 6))),
  c 2 8 (.q (.len (.t 7))),
  c 3 9 (.q (.mv (.k (.c (.int .i64 0)))))]
def r3 : List (Nat × RStep) := [
  c 0 10 (.q (.bin .lss (.t 9) (.t 8)))]
def r4 : List (Nat × RStep) := [
  c 0 11 (.q (.idx 5 (.t 7) (.t 9))),
  c 1 12 (.q (.load true 5 (.t 11))),
  c 2 5 (.m (.alloc [.ow 2 [], .ow 5 [], .int .i64 0, .int .i64 0, .ow 1 []])),
  v 3 (.st false 5 [2, 5, 0, 0, 1] (.t 5) (.t 12))]
def r5 : List (Nat × RStep) := [
  c 0 13 (.q (.mv (.t 3))),
  c 1 14 (.q (.fld 0 (.t 5))),
  c 2 15 (.q (.load false 1 (.t 14))),
  c 3 16 (.q (.len (.t 15))),
  c 4 17 (.q (.fld 1 (.t 5))),
  c 5 18 (.q (.load false 1 (.t 17))),
  c 6 19 (.q (.len (.t 18))),
  c 7 20 (.q (.bin .add (.t 16) (.t 19))),
  c 8 21 (.q (.bin .add (.t 20) (.k (.c (.int .i64 1))))),
  c 9 22 (.q (.bin .add (.t 13) (.t 21))),
  c 10 3 (.q (.mv (.t 22)))]
def k1 : Blk := (.seq (.post (.reg r4) [.frz 5]) (.reg r5))
def r6 : List (Nat × RStep) := [
  c 0 23 (.q (.bin .add (.t 9) (.k (.c (.int .i64 1))))),
  c 1 9 (.q (.mv (.t 23)))]
def w0 : Blk := (.seq (.reg r3) (.seq (.cond (.t 10) .skip (.exit 0)) (.seq (.block 1 k1) (.reg r6))))
def k0 : Blk := (.loop w0)
def r7 : List (Nat × RStep) := [
  c 0 24 (.q (.fld 3 (.t 1))),
  c 1 25 (.q (.load false 1 (.t 24))),
  c 2 26 (.q (.len (.t 25))),
  c 3 27 (.q (.bin .geq (.t 26) (.k (.c (.int .i64 1))))),
  c 4 28 (.q (.mv (.t 27))),
  cg 5 29 28 true (.q (.fld 3 (.t 1))),
  cg 6 30 28 true (.q (.load false 1 (.t 29))),
  cg 7 31 28 true (.q (.len (.t 30))),
  cg 8 32 28 true (.q (.bin .leq (.t 31) (.k (.c (.int .i64 64))))),
  c 9 33 (.q (.pick (.t 28) (.t 32) (.k (.c (.bool false))))),
  c 10 34 (.q (.mv (.t 33))),
  cg 11 35 34 true (.q (.fld 2 (.t 1))),
  cg 12 36 34 true (.q (.load false 1 (.t 35))),
  cg 13 37 34 true (.q (.len (.t 36))),
  cg 14 38 34 true (.q (.bin .leq (.t 37) (.k (.c (.int .i64 256))))),
  c 15 39 (.q (.pick (.t 34) (.t 38) (.k (.c (.bool false))))),
  c 16 40 (.q (.mv (.t 39))),
  cg 17 41 40 true (.q (.mv (.t 3))),
  cg 18 42 40 true (.q (.bin .leq (.t 41) (.k (.c (.int .i64 256))))),
  c 19 43 (.q (.pick (.t 40) (.t 42) (.k (.c (.bool false))))),
  c 20 2 (.q (.mv (.t 43)))]
def body : Blk := (.seq (.reg r0) (.seq (.reg r1) (.seq (.seq (.reg r2) (.block 0 k0)) (.seq (.reg r7) .ret))))
def fi : FI := { nt := 44, na := 1, body := body, res := [(.tmp 2, [])] }
end check_small
namespace check_value
def r0 : List (Nat × RStep) := [
  c 0 2 (.q (.mv (.k (.c (.bool false)))))]
def r1 : List (Nat × RStep) := [
  c 0 3 (.q (.mv (.t 0))),
  c 1 4 (.q (.bin .eql (.t 3) (.k (.c (.int .i64 1))))),
  c 2 5 (.q (.mv (.t 4))),
  cg 3 6 5 false (.q (.mv (.t 0))),
  cg 4 7 5 false (.q (.bin .eql (.t 6) (.k (.c (.int .i64 2))))),
  c 5 8 (.q (.pick (.t 5) (.k (.c (.bool true))) (.t 7))),
  c 6 2 (.q (.mv (.t 8)))]
def body : Blk := (.seq (.reg r0) (.seq (.reg r1) .ret))
def fi : FI := { nt := 9, na := 1, body := body, res := [(.tmp 2, [])] }
end check_value
namespace slices_IndexFunc_int_int
def r0 : List (Nat × RStep) := [
  c 0 4 (.q (.mv (.k (.c (.int .i64 0)))))]
def r1 : List (Nat × RStep) := [
  c 0 6 (.q (.mv (.t 0))),
  c 1 7 (.q (.len (.t 6))),
  c 2 8 (.q (.mv (.k (.c (.int .i64 0)))))]
def r2 : List (Nat × RStep) := [
  c 0 9 (.q (.bin .lss (.t 8) (.t 7)))]
def r3 : List (Nat × RStep) := [
  c 0 10 (.q (.mv (.t 8))),
  c 1 5 (.q (.mv (.t 10)))]
def r4 : List (Nat × RStep) := [
  c 0 11 (.q (.mv (.t 1))),
  c 1 12 (.q (.mv (.t 0))),
  c 2 13 (.q (.mv (.t 5))),
  c 3 14 (.q (.idx 1 (.t 12) (.t 13))),
  c 4 15 (.q (.load false 1 (.t 14))),
  c 5 16 (.callv true (.t 11) [(.t 15)] [])]
def r5 : List (Nat × RStep) := [
  c 0 17 (.q (.mv (.t 5))),
  c 1 4 (.q (.mv (.t 17)))]
def k1 : Blk := (.seq (.reg r3) (.seq (.reg r4) (.cond (.t 16) (.seq (.reg r5) .ret) .skip)))
def r6 : List (Nat × RStep) := [
  c 0 18 (.q (.bin .add (.t 8) (.k (.c (.int .i64 1))))),
  c 1 8 (.q (.mv (.t 18)))]
def w0 : Blk := (.seq (.reg r2) (.seq (.cond (.t 9) .skip (.exit 0)) (.seq (.block 1 k1) (.reg r6))))
def k0 : Blk := (.loop w0)
def r7 : List (Nat × RStep) := [
  c 0 4 (.q (.mv (.k (.c (.int .i64 (-1))))))]
def body : Blk := (.seq (.reg r0) (.seq (.seq (.reg r1) (.block 0 k0)) (.seq (.reg r7) .ret)))
def fi : FI := { nt := 19, na := 2, body := body, res := [(.tmp 4, [])] }
end slices_IndexFunc_int_int
namespace slices_ContainsFunc_int_int
def r0 : List (Nat × RStep) := [
  c 0 4 (.q (.mv (.k (.c (.bool false)))))]
def r1 : List (Nat × RStep) := [
  c 0 5 (.q (.mv (.t 0))),
  c 1 6 (.q (.mv (.t 1))),
  c 2 7 (.calll F.slices_IndexFunc_int_int [(.t 5), (.t 6)] []),
  c 3 8 (.q (.bin .geq (.t 7) (.k (.c (.int .i64 0))))),
  c 4 4 (.q (.mv (.t 8)))]
def body : Blk := (.seq (.reg r0) (.seq (.reg r1) .ret))
def fi : FI := { nt := 9, na := 2, body := body, res := [(.tmp 4, [])] }
end slices_ContainsFunc_int_int
namespace check_typed_1
def r0 : List (Nat × RStep) := [
  c 0 2 (.q (.mv (.k (.c (.bool false)))))]
def r1 : List (Nat × RStep) := [
  c 0 3 (.q (.mv (.t 0))),
  c 1 4 (.call F.check_value [(.t 3)]),
  c 2 5 (.q (.not (.t 4))),
  c 3 2 (.q (.mv (.t 5)))]
def body : Blk := (.seq (.reg r0) (.seq (.reg r1) .ret))
def fi : FI := { nt := 6, na := 1, body := body, res := [(.tmp 2, [])] }
end check_typed_1
namespace check_typed
def r0 : List (Nat × RStep) := [
  c 0 1 (.boxr (.t 0)),
  c 1 2 (.q (.mv (.k (.c (.bool false)))))]
def r1 : List (Nat × RStep) := [
  c 0 3 (.q (.mv (.k (.c (.fn F.check_typed_1 [])))))]
def r2 : List (Nat × RStep) := [
  c 0 4 (.q (.fld 2 (.t 1))),
  c 1 5 (.q (.load false 1 (.t 4))),
  c 2 6 (.q (.mv (.t 3))),
  c 3 7 (.calll F.slices_ContainsFunc_int_int [(.t 5), (.t 6)] []),
  c 4 8 (.q (.not (.t 7))),
  c 5 9 (.q (.mv (.t 8))),
  cg 6 10 9 true (.q (.fld 0 (.t 1))),
  cg 7 11 9 true (.q (.load false 1 (.t 10))),
  cg 8 12 9 true (.q (.bin .geq (.t 11) (.k (.c (.int .i64 0))))),
  c 9 13 (.q (.pick (.t 9) (.t 12) (.k (.c (.bool false))))),
  c 10 14 (.q (.mv (.t 13))),
  cg 11 15 14 true (.q (.fld 0 (.t 1))),
  cg 12 16 14 true (.q (.load false 1 (.t 15))),
  cg 13 17 14 true (.q (.bin .leq (.t 16) (.k (.c (.int .i64 8))))),
  c 14 18 (.q (.pick (.t 14) (.t 17) (.k (.c (.bool false))))),
  c 15 19 (.q (.mv (.t 18))),
  cg 16 20 19 true (.q (.fld 0 (.t 1))),
  cg 17 21 19 true (.q (.load false 1 (.t 20))),
  cg 18 22 19 true (.q (.fld 2 (.t 1))),
  cg 19 23 19 true (.q (.load false 1 (.t 22))),
  cg 20 24 19 true (.q (.len (.t 23))),
  cg 21 25 19 true (.q (.bin .leq (.t 21) (.t 24))),
  c 22 26 (.q (.pick (.t 19) (.t 25) (.k (.c (.bool false))))),
  c 23 27 (.q (.mv (.t 26))),
  cg 24 28 27 true (.q (.fld 1 (.t 1))),
  cg 25 29 27 true (.q (.load false 1 (.t 28))),
  cg 26 30 27 true (.q (.bin .eql (.t 29) (.k (.c (.int .i64 0))))),
  cg 27 31 27 true (.q (.mv (.t 30))),
  cg 28 32 31 false (.q (.fld 1 (.t 1))),
  cg 29 33 31 false (.q (.load false 1 (.t 32))),
  cg 30 34 31 false (.call F.check_value [(.t 33)]),
  cg 31 35 27 true (.q (.pick (.t 31) (.k (.c (.bool true))) (.t 34))),
  c 32 36 (.q (.pick (.t 27) (.t 35) (.k (.c (.bool false))))),
  c 33 2 (.q (.mv (.t 36)))]
def body : Blk := (.seq (.reg r0) (.seq (.reg r1) (.seq (.reg r2) .ret)))
def fi : FI := { nt := 37, na := 1, body := body, res := [(.tmp 2, [])] }
end check_typed
namespace check_ends
def r0 : List (Nat × RStep) := [
  c 0 2 (.boxr (.t 0)),
  c 1 3 (.boxr (.t 1)),
  c 2 4 (.q (.mv (.k (.c (.bool false)))))]
def r1 : List (Nat × RStep) := [
  c 0 7 (.q (.fld 2 (.t 3))),
  c 1 8 (.q (.load false 1 (.t 7))),
  c 2 9 (.q (.len (.t 8))),
  c 3 10 (.q (.mv (.k (.c (.int .i64 0)))))]
def r2 : List (Nat × RStep) := [
  c 0 11 (.q (.bin .lss (.t 10) (.t 9)))]
def r3 : List (Nat × RStep) := [
  c 0 12 (.q (.idx 1 (.t 8) (.t 10))),
  c 1 13 (.q (.load false 1 (.t 12))),
  c 2 6 (.q (.mv (.t 13)))]
def r4 : List (Nat × RStep) := [
  c 0 14 (.q (.mv (.t 6))),
  c 1 15 (.q (.bin .lss (.t 14) (.k (.c (.int .i64 1))))),
  c 2 16 (.q (.mv (.t 15))),
  cg 3 17 16 false (.q (.mv (.t 6))),
  cg 4 18 16 false (.q (.fld 3 (.t 2))),
  cg 5 19 16 false (.q (.load false 1 (.t 18))),
  cg 6 20 16 false (.q (.len (.t 19))),
  cg 7 21 16 false (.q (.bin .geq (.t 17) (.t 20))),
  c 8 22 (.q (.pick (.t 16) (.k (.c (.bool true))) (.t 21)))]
def r5 : List (Nat × RStep) := [
  c 0 4 (.q (.mv (.k (.c (.bool false)))))]
def k1 : Blk := (.seq (.reg r3) (.seq (.reg r4) (.cond (.t 22) (.seq (.reg r5) .ret) .skip)))
def r6 : List (Nat × RStep) := [
  c 0 23 (.q (.bin .add (.t 10) (.k (.c (.int .i64 1))))),
  c 1 10 (.q (.mv (.t 23)))]
def w0 : Blk := (.seq (.reg r2) (.seq (.cond (.t 11) .skip (.exit 0)) (.seq (.block 1 k1) (.reg r6))))
def k0 : Blk := (.loop w0)
def r7 : List (Nat × RStep) := [
  c 0 24 (.q (.fld 0 (.t 3))),
  c 1 25 (.q (.load false 1 (.t 24)))]
def r8 : List (Nat × RStep) := [
  c 0 27 (.q (.bin .eql (.t 25) (.k (.c (.int .i64 1))))),
  c 1 26 (.q (.mv (.t 27)))]
def r9 : List (Nat × RStep) := [
  c 0 28 (.q (.fld 2 (.t 3))),
  c 1 29 (.q (.load false 1 (.t 28))),
  c 2 30 (.q (.len (.t 29))),
  c 3 31 (.q (.bin .eql (.t 30) (.k (.c (.int .i64 1))))),
  c 4 4 (.q (.mv (.t 31)))]
def r10 : List (Nat × RStep) := [
  c 0 33 (.q (.bin .eql (.t 25) (.k (.c (.int .i64 2))))),
  c 1 32 (.q (.mv (.t 33)))]
def r11 : List (Nat × RStep) := [
  c 0 34 (.q (.fld 2 (.t 3))),
  c 1 35 (.q (.load false 1 (.t 34))),
  c 2 36 (.q (.len (.t 35))),
  c 3 37 (.q (.bin .eql (.t 36) (.k (.c (.int .i64 2))))),
  c 4 38 (.q (.mv (.t 37))),
  cg 5 39 38 true (.q (.fld 2 (.t 3))),
  cg 6 40 38 true (.q (.load false 1 (.t 39))),
  cg 7 41 38 true (.q (.idx 1 (.t 40) (.k (.c (.int .i64 0))))),
  cg 8 42 38 true (.q (.load false 1 (.t 41))),
  cg 9 43 38 true (.q (.fld 2 (.t 3))),
  cg 10 44 38 true (.q (.load false 1 (.t 43))),
  cg 11 45 38 true (.q (.idx 1 (.t 44) (.k (.c (.int .i64 1))))),
  cg 12 46 38 true (.q (.load false 1 (.t 45))),
  cg 13 47 38 true (.q (.bin .neq (.t 42) (.t 46))),
  c 14 48 (.q (.pick (.t 38) (.t 47) (.k (.c (.bool false))))),
  c 15 4 (.q (.mv (.t 48)))]
def k2 : Blk := (.seq (.reg r8) (.cond (.t 26) (.seq (.reg r9) .ret) (.seq (.reg r10) (.cond (.t 32) (.seq (.reg r11) .ret) .skip))))
def r12 : List (Nat × RStep) := [
  c 0 49 (.q (.fld 0 (.t 3))),
  c 1 50 (.q (.load false 1 (.t 49))),
  c 2 51 (.q (.bin .eql (.t 50) (.k (.c (.int .i64 3))))),
  c 3 52 (.q (.mv (.t 51))),
  cg 4 53 52 true (.q (.fld 2 (.t 3))),
  cg 5 54 52 true (.q (.load false 1 (.t 53))),
  cg 6 55 52 true (.q (.len (.t 54))),
  cg 7 56 52 true (.q (.bin .eql (.t 55) (.k (.c (.int .i64 0))))),
  c 8 57 (.q (.pick (.t 52) (.t 56) (.k (.c (.bool false))))),
  c 9 4 (.q (.mv (.t 57)))]
def body : Blk := (.seq (.reg r0) (.seq (.seq (.reg r1) (.block 0 k0)) (.seq (.seq (.reg r7) (.block 2 k2)) (.seq (.reg r12) .ret))))
def fi : FI := { nt := 58, na := 2, body := body, res := [(.tmp 4, [])] }
end check_ends
namespace check_looker_has_1
def r0 : List (Nat × RStep) := [
  c 0 3 (.q (.mv (.k (.c (.bool false)))))]
def r1 : List (Nat × RStep) := [
  c 0 4 (.q (.mv (.t 0))),
  c 1 5 (.q (.bin .lss (.t 4) (.k (.c (.int .i64 0))))),
  c 2 6 (.q (.mv (.t 5))),
  cg 3 7 6 false (.q (.mv (.t 0))),
  cg 4 8 6 false (.q (.load false 1 (.t 1))),
  cg 5 9 6 false (.q (.nilck (.t 8))),
  cg 6 10 6 false (.q (.fld 1 (.t 9))),
  cg 7 11 6 false (.q (.fld 2 (.t 10))),
  cg 8 12 6 false (.q (.load false 1 (.t 11))),
  cg 9 13 6 false (.q (.len (.t 12))),
  cg 10 14 6 false (.q (.bin .geq (.t 7) (.t 13))),
  c 11 15 (.q (.pick (.t 6) (.k (.c (.bool true))) (.t 14))),
  c 12 3 (.q (.mv (.t 15)))]
def body : Blk := (.seq (.reg r0) (.seq (.reg r1) .ret))
def fi : FI := { nt := 16, na := 2, body := body, res := [(.tmp 3, [])] }
end check_looker_has_1
namespace check_looker_has
def r0 : List (Nat × RStep) := [
  c 0 2 (.boxp (.t 0)),
  c 1 4 (.q (.mv (.k (.c (.bool false)))))]
def r1 : List (Nat × RStep) := [
  c 0 5 (.q (.mv (.t 1))),
  c 1 6 (.q (.mkF F.check_looker_has_1 [(.t 2)])),
  c 2 7 (.calll F.slices_ContainsFunc_int_int [(.t 5), (.t 6)] []),
  c 3 8 (.q (.not (.t 7))),
  c 4 4 (.q (.mv (.t 8)))]
def body : Blk := (.seq (.reg r0) (.seq (.reg r1) .ret))
def fi : FI := { nt := 9, na := 2, body := body, res := [(.tmp 4, [])] }
end check_looker_has
namespace check_looker_are_1
def r0 : List (Nat × RStep) := [
  c 0 4 (.q (.mv (.k (.c (.bool false)))))]
def r1 : List (Nat × RStep) := [
  c 0 5 (.q (.load false 1 (.t 1))),
  c 1 6 (.q (.nilck (.t 5))),
  c 2 7 (.q (.fld 1 (.t 6))),
  c 3 8 (.q (.fld 2 (.t 7))),
  c 4 9 (.q (.load false 1 (.t 8))),
  c 5 10 (.q (.mv (.t 0))),
  c 6 11 (.q (.idx 1 (.t 9) (.t 10))),
  c 7 12 (.q (.load false 1 (.t 11))),
  c 8 13 (.q (.load false 1 (.t 2))),
  c 9 14 (.q (.bin .neq (.t 12) (.t 13))),
  c 10 4 (.q (.mv (.t 14)))]
def body : Blk := (.seq (.reg r0) (.seq (.reg r1) .ret))
def fi : FI := { nt := 15, na := 3, body := body, res := [(.tmp 4, [])] }
end check_looker_are_1
namespace check_looker_are
def r0 : List (Nat × RStep) := [
  c 0 3 (.boxp (.t 0)),
  c 1 4 (.boxp (.t 1)),
  c 2 6 (.q (.mv (.k (.c (.bool false)))))]
def r1 : List (Nat × RStep) := [
  c 0 7 (.q (.mv (.t 2))),
  c 1 8 (.q (.mkF F.check_looker_are_1 [(.t 3), (.t 4)])),
  c 2 9 (.calll F.slices_ContainsFunc_int_int [(.t 7), (.t 8)] []),
  c 3 10 (.q (.not (.t 9))),
  c 4 6 (.q (.mv (.t 10)))]
def body : Blk := (.seq (.reg r0) (.seq (.reg r1) .ret))
def fi : FI := { nt := 11, na := 3, body := body, res := [(.tmp 6, [])] }
end check_looker_are
namespace check_looker_phi
def r0 : List (Nat × RStep) := [
  c 0 3 (.boxr (.t 1)),
  c 1 4 (.q (.mv (.k (.c .nili))))]
def r1 : List (Nat × RStep) := [
  c 0 6 (.q (.mv (.t 0))),
  c 1 7 (.q (.fld 0 (.t 3))),
  c 2 8 (.q (.load false 1 (.t 7))),
  c 3 9 (.m (.bsl 1 1 [.int .i64 0] [(0, 1, (.t 8))] [])),
  c 4 10 (.call F.check_looker_has [(.t 6), (.t 9)]),
  c 5 11 (.q (.not (.t 10))),
  c 6 12 (.q (.mv (.t 11))),
  cg 7 13 12 false (.q (.mv (.t 0))),
  cg 8 14 12 false (.q (.fld 1 (.t 3))),
  cg 9 15 12 false (.q (.load false 1 (.t 14))),
  cg 10 16 12 false (.call F.check_looker_has [(.t 13), (.t 15)]),
  cg 11 17 12 false (.q (.not (.t 16))),
  c 12 18 (.q (.pick (.t 12) (.k (.c (.bool true))) (.t 17))),
  c 13 5 (.q (.mv (.t 18)))]
def r2 : List (Nat × RStep) := [
  c 0 19 (.q (.mkI TC (.k (.c (.int .i64 4))))),
  c 1 4 (.q (.mv (.t 19)))]
def r3 : List (Nat × RStep) := [
  c 0 21 (.q (.mv (.t 0))),
  c 1 22 (.q (.mv (.t 0))),
  c 2 23 (.q (.nilck (.t 22))),
  c 3 24 (.q (.fld 1 (.t 23))),
  c 4 25 (.q (.fld 2 (.t 24))),
  c 5 26 (.q (.load false 1 (.t 25))),
  c 6 27 (.q (.fld 0 (.t 3))),
  c 7 28 (.q (.load false 1 (.t 27))),
  c 8 29 (.q (.idx 1 (.t 26) (.t 28))),
  c 9 30 (.q (.load false 1 (.t 29))),
  c 10 31 (.q (.fld 1 (.t 3))),
  c 11 32 (.q (.load false 1 (.t 31))),
  c 12 33 (.call F.check_looker_are [(.t 21), (.t 30), (.t 32)]),
  c 13 34 (.q (.not (.t 33))),
  c 14 20 (.q (.mv (.t 34)))]
def r4 : List (Nat × RStep) := [
  c 0 35 (.q (.mkI TC (.k (.c (.int .i64 3))))),
  c 1 4 (.q (.mv (.t 35)))]
def k0 : Blk := (.seq (.reg r1) (.cond (.t 5) (.seq (.reg r2) .ret) (.seq (.reg r3) (.cond (.t 20) (.seq (.reg r4) .ret) .skip))))
def r5 : List (Nat × RStep) := [
  c 0 4 (.q (.mv (.k (.c .nili))))]
def body : Blk := (.seq (.reg r0) (.seq (.block 0 k0) (.seq (.reg r5) .ret)))
def fi : FI := { nt := 36, na := 2, body := body, res := [(.tmp 4, [])] }
end check_looker_phi
namespace arith_Args
def r0 : List (Nat × RStep) := [
  c 0 2 (.q (.mv (.k (.c (.int .i64 0))))),
  c 1 3 (.q (.mv (.k (.c (.bool false)))))]
def r1 : List (Nat × RStep) := [
  c 0 5 (.q (.mv (.t 0))),
  c 1 6 (.q (.bin .eql (.t 5) (.k (.c (.int .i64 2))))),
  c 2 7 (.q (.mv (.t 6))),
  cg 3 8 7 false (.q (.mv (.t 0))),
  cg 4 9 7 false (.q (.bin .eql (.t 8) (.k (.c (.int .i64 14))))),
  c 5 10 (.q (.pick (.t 7) (.k (.c (.bool true))) (.t 9))),
  c 6 4 (.q (.mv (.t 10)))]
def r2 : List (Nat × RStep) := [
  c 0 2 (.q (.mv (.k (.c (.int .i64 1))))),
  c 1 3 (.q (.mv (.k (.c (.bool true)))))]
def r3 : List (Nat × RStep) := [
  c 0 12 (.q (.mv (.t 0))),
  c 1 13 (.q (.bin .geq (.t 12) (.k (.c (.int .i64 3))))),
  c 2 14 (.q (.mv (.t 13))),
  cg 3 15 14 true (.q (.mv (.t 0))),
  cg 4 16 14 true (.q (.bin .leq (.t 15) (.k (.c (.int .i64 13))))),
  c 5 17 (.q (.pick (.t 14) (.t 16) (.k (.c (.bool false))))),
  c 6 11 (.q (.mv (.t 17)))]
def r4 : List (Nat × RStep) := [
  c 0 2 (.q (.mv (.k (.c (.int .i64 2))))),
  c 1 3 (.q (.mv (.k (.c (.bool true)))))]
def k0 : Blk := (.seq (.reg r1) (.cond (.t 4) (.seq (.reg r2) .ret) (.seq (.reg r3) (.cond (.t 11) (.seq (.reg r4) .ret) .skip))))
def r5 : List (Nat × RStep) := [
  c 0 2 (.q (.mv (.k (.c (.int .i64 0))))),
  c 1 3 (.q (.mv (.k (.c (.bool false)))))]
def body : Blk := (.seq (.reg r0) (.seq (.block 0 k0) (.seq (.reg r5) .ret)))
def fi : FI := { nt := 18, na := 1, body := body, res := [(.tmp 2, []), (.tmp 3, [])] }
end arith_Args
namespace check_looker_arity
def r0 : List (Nat × RStep) := [
  c 0 3 (.boxr (.t 1)),
  c 1 4 (.q (.mv (.k (.c (.int .i64 0))))),
  c 2 5 (.q (.mv (.k (.c (.int .i64 0))))),
  c 3 6 (.q (.mv (.k (.c .nili))))]
def r1 : List (Nat × RStep) := [
  c 0 11 (.q (.fld 0 (.t 3))),
  c 1 12 (.q (.load false 1 (.t 11))),
  c 2 13 (.call F.arith_Args [(.t 12)]),
  c 3 10 (.q (.mv (.t 13))),
  c 4 14 (.q (.ext (.t 10) 0)),
  c 5 15 (.q (.ext (.t 10) 1)),
  c 6 7 (.q (.mv (.t 14))),
  c 7 8 (.q (.mv (.t 15)))]
def r2 : List (Nat × RStep) := [
  c 0 16 (.q (.mv (.t 8)))]
def r3 : List (Nat × RStep) := [
  c 0 17 (.q (.mv (.t 7))),
  c 1 4 (.q (.mv (.t 17))),
  c 2 5 (.q (.mv (.k (.c (.int .i64 1))))),
  c 3 6 (.q (.mv (.k (.c .nili))))]
def r4 : List (Nat × RStep) := [
  c 0 18 (.q (.fld 0 (.t 3))),
  c 1 19 (.q (.load false 1 (.t 18)))]
def r5 : List (Nat × RStep) := [
  c 0 21 (.q (.bin .eql (.t 19) (.k (.c (.int .i64 1))))),
  c 1 20 (.q (.mv (.t 21)))]
def r6 : List (Nat × RStep) := [
  c 0 4 (.q (.mv (.k (.c (.int .i64 0))))),
  c 1 5 (.q (.mv (.k (.c (.int .i64 1))))),
  c 2 6 (.q (.mv (.k (.c .nili))))]
def r7 : List (Nat × RStep) := [
  c 0 23 (.q (.bin .eql (.t 19) (.k (.c (.int .i64 15))))),
  c 1 22 (.q (.mv (.t 23)))]
def r8 : List (Nat × RStep) := [
  c 0 4 (.q (.mv (.k (.c (.int .i64 1))))),
  c 1 5 (.q (.mv (.k (.c (.int .i64 1))))),
  c 2 6 (.q (.mv (.k (.c .nili))))]
def r9 : List (Nat × RStep) := [
  c 0 25 (.q (.bin .eql (.t 19) (.k (.c (.int .i64 18))))),
  c 1 24 (.q (.mv (.t 25)))]
def r10 : List (Nat × RStep) := [
  c 0 4 (.q (.mv (.k (.c (.int .i64 1))))),
  c 1 5 (.q (.mv (.k (.c (.int .i64 0))))),
  c 2 6 (.q (.mv (.k (.c .nili))))]
def r11 : List (Nat × RStep) := [
  c 0 27 (.q (.bin .eql (.t 19) (.k (.c (.int .i64 16))))),
  c 1 26 (.q (.mv (.t 27)))]
def r12 : List (Nat × RStep) := [
  c 0 4 (.q (.mv (.k (.c (.int .i64 2))))),
  c 1 5 (.q (.mv (.k (.c (.int .i64 0))))),
  c 2 6 (.q (.mv (.k (.c .nili))))]
def r13 : List (Nat × RStep) := [
  c 0 29 (.q (.bin .eql (.t 19) (.k (.c (.int .i64 17))))),
  c 1 28 (.q (.mv (.t 29)))]
def r14 : List (Nat × RStep) := [
  c 0 30 (.q (.fld 4 (.t 3))),
  c 1 31 (.q (.load false 1 (.t 30))),
  c 2 32 (.q (.bin .lss (.t 31) (.k (.c (.int .i64 0))))),
  c 3 33 (.q (.mv (.t 32))),
  cg 4 34 33 false (.q (.fld 4 (.t 3))),
  cg 5 35 33 false (.q (.load false 1 (.t 34))),
  cg 6 36 33 false (.q (.mv (.t 0))),
  cg 7 37 33 false (.q (.nilck (.t 36))),
  cg 8 38 33 false (.q (.fld 0 (.t 37))),
  cg 9 39 33 false (.q (.fld 0 (.t 38))),
  cg 10 40 33 false (.q (.load false 1 (.t 39))),
  cg 11 41 33 false (.q (.len (.t 40))),
  cg 12 42 33 false (.q (.bin .geq (.t 35) (.t 41))),
  c 13 43 (.q (.pick (.t 33) (.k (.c (.bool true))) (.t 42)))]
def r15 : List (Nat × RStep) := [
  c 0 44 (.q (.mkI TC (.k (.c (.int .i64 4))))),
  c 1 4 (.q (.mv (.k (.c (.int .i64 0))))),
  c 2 5 (.q (.mv (.k (.c (.int .i64 0))))),
  c 3 6 (.q (.mv (.t 44)))]
def r16 : List (Nat × RStep) := [
  c 0 45 (.q (.mv (.t 0))),
  c 1 46 (.q (.nilck (.t 45))),
  c 2 47 (.q (.fld 0 (.t 46))),
  c 3 48 (.q (.fld 0 (.t 47))),
  c 4 49 (.q (.load false 1 (.t 48))),
  c 5 50 (.q (.fld 4 (.t 3))),
  c 6 51 (.q (.load false 1 (.t 50))),
  c 7 52 (.q (.idx 4 (.t 49) (.t 51))),
  c 8 53 (.q (.load true 4 (.t 52))),
  c 9 9 (.m (.alloc [.int .i64 0, .int .i64 0, .ow 1 [], .ow 5 []])),
  v 10 (.st false 4 [0, 0, 1, 5] (.t 9) (.t 53))]
def r17 : List (Nat × RStep) := [
  c 0 54 (.q (.fld 0 (.t 9))),
  c 1 55 (.q (.load false 1 (.t 54))),
  c 2 56 (.q (.fld 1 (.t 9))),
  c 3 57 (.q (.load false 1 (.t 56))),
  c 4 4 (.q (.mv (.t 55))),
  c 5 5 (.q (.mv (.t 57))),
  c 6 6 (.q (.mv (.k (.c .nili))))]
def k0 : Blk := (.seq (.reg r5) (.cond (.t 20) (.seq (.reg r6) .ret) (.seq (.reg r7) (.cond (.t 22) (.seq (.reg r8) .ret) (.seq (.reg r9) (.cond (.t 24) (.seq (.reg r10) .ret) (.seq (.reg r11) (.cond (.t 26) (.seq (.reg r12) .ret) (.seq (.reg r13) (.cond (.t 28) (.seq (.seq (.reg r14) (.cond (.t 43) (.seq (.reg r15) .ret) .skip)) (.seq (.post (.reg r16) [.frz 9]) (.seq (.reg r17) .ret))) .skip))))))))))
def r18 : List (Nat × RStep) := [
  c 0 58 (.q (.mkI TC (.k (.c (.int .i64 6))))),
  c 1 4 (.q (.mv (.k (.c (.int .i64 0))))),
  c 2 5 (.q (.mv (.k (.c (.int .i64 0))))),
  c 3 6 (.q (.mv (.t 58)))]
def body : Blk := (.seq (.reg r0) (.seq (.seq (.reg r1) (.seq (.reg r2) (.cond (.t 16) (.seq (.reg r3) .ret) .skip))) (.seq (.seq (.reg r4) (.block 0 k0)) (.seq (.reg r18) .ret))))
def fi : FI := { nt := 59, na := 2, body := body, res := [(.tmp 4, []), (.tmp 5, []), (.tmp 6, [])] }
end check_looker_arity
namespace check_looker_call
def r0 : List (Nat × RStep) := [
  c 0 3 (.boxr (.t 1)),
  c 1 4 (.q (.mv (.k (.c (.bool false)))))]
def r1 : List (Nat × RStep) := [
  c 0 8 (.q (.mv (.t 0))),
  c 1 9 (.q (.nilck (.t 8))),
  c 2 10 (.q (.fld 0 (.t 9))),
  c 3 11 (.q (.fld 0 (.t 10))),
  c 4 12 (.q (.load false 1 (.t 11))),
  c 5 13 (.q (.fld 4 (.t 3))),
  c 6 14 (.q (.load false 1 (.t 13))),
  c 7 15 (.q (.idx 4 (.t 12) (.t 14))),
  c 8 16 (.q (.load true 4 (.t 15))),
  c 9 5 (.m (.alloc [.int .i64 0, .int .i64 0, .ow 1 [], .ow 5 []])),
  v 10 (.st false 4 [0, 0, 1, 5] (.t 5) (.t 16))]
def r2 : List (Nat × RStep) := [
  c 0 17 (.q (.fld 0 (.t 5))),
  c 1 18 (.q (.load false 1 (.t 17))),
  c 2 19 (.q (.bin .lss (.t 18) (.k (.c (.int .i64 0))))),
  c 3 20 (.q (.mv (.t 19))),
  cg 4 21 20 false (.q (.fld 0 (.t 5))),
  cg 5 22 20 false (.q (.load false 1 (.t 21))),
  cg 6 23 20 false (.q (.fld 2 (.t 5))),
  cg 7 24 20 false (.q (.load false 1 (.t 23))),
  cg 8 25 20 false (.q (.len (.t 24))),
  cg 9 26 20 false (.q (.bin .gtr (.t 22) (.t 25))),
  c 10 27 (.q (.pick (.t 20) (.k (.c (.bool true))) (.t 26)))]
def r3 : List (Nat × RStep) := [
  c 0 4 (.q (.mv (.k (.c (.bool false)))))]
def r4 : List (Nat × RStep) := [
  c 0 28 (.q (.fld 2 (.t 3))),
  c 1 29 (.q (.load false 1 (.t 28))),
  c 2 30 (.q (.len (.t 29))),
  c 3 31 (.q (.mv (.k (.c (.int .i64 0)))))]
def r5 : List (Nat × RStep) := [
  c 0 32 (.q (.bin .lss (.t 31) (.t 30)))]
def r6 : List (Nat × RStep) := [
  c 0 33 (.q (.mv (.t 31))),
  c 1 34 (.q (.idx 1 (.t 29) (.t 31))),
  c 2 35 (.q (.load false 1 (.t 34))),
  c 3 6 (.q (.mv (.t 33))),
  c 4 7 (.q (.mv (.t 35)))]
def r7 : List (Nat × RStep) := [
  c 0 36 (.q (.mv (.t 0))),
  c 1 37 (.q (.fld 2 (.t 5))),
  c 2 38 (.q (.load false 1 (.t 37))),
  c 3 39 (.q (.mv (.t 6))),
  c 4 40 (.q (.idx 1 (.t 38) (.t 39))),
  c 5 41 (.q (.load false 1 (.t 40))),
  c 6 42 (.q (.mv (.t 7))),
  c 7 43 (.m (.bsl 1 1 [.int .i64 0] [(0, 1, (.t 42))] [])),
  c 8 44 (.call F.check_looker_are [(.t 36), (.t 41), (.t 43)]),
  c 9 45 (.q (.not (.t 44)))]
def r8 : List (Nat × RStep) := [
  c 0 4 (.q (.mv (.k (.c (.bool false)))))]
def k1 : Blk := (.seq (.reg r6) (.seq (.reg r7) (.cond (.t 45) (.seq (.reg r8) .ret) .skip)))
def r9 : List (Nat × RStep) := [
  c 0 46 (.q (.bin .add (.t 31) (.k (.c (.int .i64 1))))),
  c 1 31 (.q (.mv (.t 46)))]
def w0 : Blk := (.seq (.reg r5) (.seq (.cond (.t 32) .skip (.exit 0)) (.seq (.block 1 k1) (.reg r9))))
def k0 : Blk := (.loop w0)
def r10 : List (Nat × RStep) := [
  c 0 47 (.q (.fld 1 (.t 5))),
  c 1 48 (.q (.load false 1 (.t 47))),
  c 2 49 (.q (.bin .eql (.t 48) (.k (.c (.int .i64 0))))),
  c 3 50 (.q (.mv (.t 49))),
  cg 4 51 50 false (.q (.mv (.t 0))),
  cg 5 52 50 false (.q (.fld 1 (.t 5))),
  cg 6 53 50 false (.q (.load false 1 (.t 52))),
  cg 7 54 50 false (.q (.fld 1 (.t 3))),
  cg 8 55 50 false (.q (.load false 1 (.t 54))),
  cg 9 56 50 false (.m (.bsl 1 1 [.int .i64 0] [(0, 1, (.t 55))] [])),
  cg 10 57 50 false (.call F.check_looker_are [(.t 51), (.t 53), (.t 56)]),
  c 11 58 (.q (.pick (.t 50) (.k (.c (.bool true))) (.t 57))),
  c 12 4 (.q (.mv (.t 58)))]
def body : Blk := (.seq (.reg r0) (.seq (.post (.reg r1) [.frz 5]) (.seq (.seq (.reg r2) (.cond (.t 27) (.seq (.reg r3) .ret) .skip)) (.seq (.seq (.reg r4) (.block 0 k0)) (.seq (.reg r10) .ret)))))
def fi : FI := { nt := 59, na := 2, body := body, res := [(.tmp 4, [])] }
end check_looker_call
namespace check_looker_fits
def r0 : List (Nat × RStep) := [
  c 0 3 (.boxr (.t 1)),
  c 1 4 (.q (.mv (.k (.c (.bool false)))))]
def r1 : List (Nat × RStep) := [
  c 0 5 (.q (.fld 0 (.t 3))),
  c 1 6 (.q (.load false 1 (.t 5)))]
def r2 : List (Nat × RStep) := [
  c 0 8 (.q (.bin .eql (.t 6) (.k (.c (.int .i64 1))))),
  c 1 7 (.q (.mv (.t 8)))]
def r3 : List (Nat × RStep) := [
  c 0 9 (.q (.mv (.t 0))),
  c 1 10 (.q (.nilck (.t 9))),
  c 2 11 (.q (.fld 1 (.t 10))),
  c 3 12 (.q (.fld 2 (.t 11))),
  c 4 13 (.q (.load false 1 (.t 12))),
  c 5 14 (.q (.fld 1 (.t 3))),
  c 6 15 (.q (.load false 1 (.t 14))),
  c 7 16 (.q (.idx 1 (.t 13) (.t 15))),
  c 8 17 (.q (.load false 1 (.t 16))),
  c 9 18 (.q (.bin .eql (.t 17) (.k (.c (.int .i64 1))))),
  c 10 19 (.q (.mv (.t 18))),
  cg 11 20 19 false (.q (.fld 3 (.t 3))),
  cg 12 21 19 false (.q (.load false 1 (.t 20))),
  cg 13 22 19 false (.q (.bin .eql (.t 21) (.k (.c (.int .i64 0))))),
  c 14 23 (.q (.pick (.t 19) (.k (.c (.bool true))) (.t 22))),
  c 15 24 (.q (.mv (.t 23))),
  cg 16 25 24 false (.q (.fld 3 (.t 3))),
  cg 17 26 24 false (.q (.load false 1 (.t 25))),
  cg 18 27 24 false (.q (.bin .eql (.t 26) (.k (.c (.int .i64 1))))),
  c 19 28 (.q (.pick (.t 24) (.k (.c (.bool true))) (.t 27))),
  c 20 4 (.q (.mv (.t 28)))]
def r4 : List (Nat × RStep) := [
  c 0 30 (.q (.bin .eql (.t 6) (.k (.c (.int .i64 2))))),
  c 1 29 (.q (.mv (.t 30)))]
def r5 : List (Nat × RStep) := [
  c 0 31 (.q (.mv (.t 0))),
  c 1 32 (.q (.mv (.t 0))),
  c 2 33 (.q (.nilck (.t 32))),
  c 3 34 (.q (.fld 1 (.t 33))),
  c 4 35 (.q (.fld 2 (.t 34))),
  c 5 36 (.q (.load false 1 (.t 35))),
  c 6 37 (.q (.fld 2 (.t 3))),
  c 7 38 (.q (.load false 1 (.t 37))),
  c 8 39 (.q (.idx 1 (.t 38) (.k (.c (.int .i64 0))))),
  c 9 40 (.q (.load false 1 (.t 39))),
  c 10 41 (.q (.idx 1 (.t 36) (.t 40))),
  c 11 42 (.q (.load false 1 (.t 41))),
  c 12 43 (.q (.fld 1 (.t 3))),
  c 13 44 (.q (.load false 1 (.t 43))),
  c 14 45 (.bslp 1 1 [.int .i64 0] [(0, 1, (.t 44))]),
  c 15 46 (.call F.check_looker_are [(.t 31), (.t 42), (.t 45)]),
  c 16 4 (.q (.mv (.t 46)))]
def r6 : List (Nat × RStep) := [
  c 0 48 (.q (.bin .eql (.t 6) (.k (.c (.int .i64 12))))),
  c 1 47 (.q (.mv (.t 48)))]
def r7 : List (Nat × RStep) := [
  c 0 49 (.q (.bin .eql (.t 6) (.k (.c (.int .i64 13))))),
  c 1 47 (.q (.mv (.t 49)))]
def r8 : List (Nat × RStep) := [
  c 0 50 (.q (.mv (.t 0))),
  c 1 51 (.q (.fld 2 (.t 3))),
  c 2 52 (.q (.load false 1 (.t 51))),
  c 3 53 (.call F.check_looker_are [(.t 50), (.k (.c (.int .i64 1))), (.t 52)]),
  c 4 54 (.q (.mv (.t 53))),
  cg 5 55 54 true (.q (.mv (.t 0))),
  cg 6 56 54 true (.q (.fld 1 (.t 3))),
  cg 7 57 54 true (.q (.load false 1 (.t 56))),
  cg 8 58 54 true (.m (.bsl 1 1 [.int .i64 0] [(0, 1, (.t 57))] [])),
  cg 9 59 54 true (.call F.check_looker_are [(.t 55), (.k (.c (.int .i64 2))), (.t 58)]),
  c 10 60 (.q (.pick (.t 54) (.t 59) (.k (.c (.bool false))))),
  c 11 4 (.q (.mv (.t 60)))]
def r9 : List (Nat × RStep) := [
  c 0 62 (.q (.bin .eql (.t 6) (.k (.c (.int .i64 14))))),
  c 1 61 (.q (.mv (.t 62)))]
def r10 : List (Nat × RStep) := [
  c 0 63 (.q (.mv (.t 0))),
  c 1 64 (.q (.fld 2 (.t 3))),
  c 2 65 (.q (.load false 1 (.t 64))),
  c 3 66 (.q (.idx 1 (.t 65) (.k (.c (.int .i64 0))))),
  c 4 67 (.q (.load false 1 (.t 66))),
  c 5 68 (.q (.fld 1 (.t 3))),
  c 6 69 (.q (.load false 1 (.t 68))),
  c 7 70 (.bslp 1 2 [.int .i64 0] [(0, 1, (.t 67)), (1, 1, (.t 69))]),
  c 8 71 (.call F.check_looker_are [(.t 63), (.k (.c (.int .i64 2))), (.t 70)]),
  c 9 4 (.q (.mv (.t 71)))]
def r11 : List (Nat × RStep) := [
  c 0 73 (.q (.bin .eql (.t 6) (.k (.c (.int .i64 18))))),
  c 1 72 (.q (.mv (.t 73)))]
def r12 : List (Nat × RStep) := [
  c 0 74 (.q (.bin .eql (.t 6) (.k (.c (.int .i64 16))))),
  c 1 72 (.q (.mv (.t 74)))]
def r13 : List (Nat × RStep) := [
  c 0 75 (.q (.mv (.t 0))),
  c 1 76 (.q (.fld 2 (.t 3))),
  c 2 77 (.q (.load false 1 (.t 76))),
  c 3 78 (.call F.check_looker_are [(.t 75), (.k (.c (.int .i64 1))), (.t 77)]),
  c 4 4 (.q (.mv (.t 78)))]
def r14 : List (Nat × RStep) := [
  c 0 80 (.q (.bin .eql (.t 6) (.k (.c (.int .i64 17))))),
  c 1 79 (.q (.mv (.t 80)))]
def r15 : List (Nat × RStep) := [
  c 0 81 (.q (.mv (.t 0))),
  c 1 82 (.q (.load true 5 (.t 3))),
  c 2 83 (.call F.check_looker_call [(.t 81), (.t 82)]),
  c 3 4 (.q (.mv (.t 83)))]
def k0 : Blk := (.seq (.reg r2) (.cond (.t 7) (.seq (.reg r3) .ret) (.seq (.reg r4) (.cond (.t 29) (.seq (.reg r5) .ret) (.seq (.seq (.reg r6) (.cond (.t 47) .skip (.reg r7))) (.cond (.t 47) (.seq (.reg r8) .ret) (.seq (.reg r9) (.cond (.t 61) (.seq (.reg r10) .ret) (.seq (.seq (.reg r11) (.cond (.t 72) .skip (.reg r12))) (.cond (.t 72) (.seq (.reg r13) .ret) (.seq (.reg r14) (.cond (.t 79) (.seq (.reg r15) .ret) .skip))))))))))))
def r16 : List (Nat × RStep) := [
  c 0 84 (.q (.mv (.t 0))),
  c 1 85 (.q (.fld 2 (.t 3))),
  c 2 86 (.q (.load false 1 (.t 85))),
  c 3 87 (.call F.check_looker_are [(.t 84), (.k (.c (.int .i64 1))), (.t 86)]),
  c 4 88 (.q (.mv (.t 87))),
  cg 5 89 88 true (.q (.mv (.t 0))),
  cg 6 90 88 true (.q (.fld 1 (.t 3))),
  cg 7 91 88 true (.q (.load false 1 (.t 90))),
  cg 8 92 88 true (.m (.bsl 1 1 [.int .i64 0] [(0, 1, (.t 91))] [])),
  cg 9 93 88 true (.call F.check_looker_are [(.t 89), (.k (.c (.int .i64 1))), (.t 92)]),
  c 10 94 (.q (.pick (.t 88) (.t 93) (.k (.c (.bool false))))),
  c 11 4 (.q (.mv (.t 94)))]
def body : Blk := (.seq (.reg r0) (.seq (.seq (.reg r1) (.block 0 k0)) (.seq (.reg r16) .ret)))
def fi : FI := { nt := 95, na := 2, body := body, res := [(.tmp 4, [])] }
end check_looker_fits
namespace check_looker_instr
def r0 : List (Nat × RStep) := [
  c 0 3 (.boxr (.t 1)),
  c 1 4 (.q (.mv (.k (.c .nili))))]
def r1 : List (Nat × RStep) := [
  c 0 10 (.q (.mv (.t 0))),
  c 1 11 (.q (.load true 5 (.t 3))),
  c 2 12 (.call F.check_looker_arity [(.t 10), (.t 11)]),
  c 3 9 (.q (.mv (.t 12))),
  c 4 13 (.q (.ext (.t 9) 0)),
  c 5 14 (.q (.ext (.t 9) 1)),
  c 6 15 (.q (.ext (.t 9) 2)),
  c 7 5 (.q (.mv (.t 13))),
  c 8 6 (.q (.mv (.t 14))),
  c 9 7 (.q (.mv (.t 15)))]
def r2 : List (Nat × RStep) := [
  c 0 16 (.q (.mv (.t 6))),
  c 1 17 (.q (.bin .eql (.t 16) (.k (.c (.int .i64 0))))),
  c 2 8 (.q (.mv (.t 17)))]
def r3 : List (Nat × RStep) := [
  c 0 19 (.q (.mv (.t 7))),
  c 1 20 (.q (.eqi true true TC (.t 19) (.k (.c .nili)))),
  c 2 18 (.q (.mv (.t 20)))]
def r4 : List (Nat × RStep) := [
  c 0 21 (.q (.mv (.t 7))),
  c 1 4 (.q (.mv (.t 21)))]
def r5 : List (Nat × RStep) := [
  c 0 23 (.q (.fld 2 (.t 3))),
  c 1 24 (.q (.load false 1 (.t 23))),
  c 2 25 (.q (.len (.t 24))),
  c 3 26 (.q (.mv (.t 5))),
  c 4 27 (.q (.bin .neq (.t 25) (.t 26))),
  c 5 22 (.q (.mv (.t 27)))]
def r6 : List (Nat × RStep) := [
  c 0 28 (.q (.mkI TC (.k (.c (.int .i64 6))))),
  c 1 4 (.q (.mv (.t 28)))]
def r7 : List (Nat × RStep) := [
  c 0 30 (.q (.mv (.t 0))),
  c 1 31 (.q (.fld 2 (.t 3))),
  c 2 32 (.q (.load false 1 (.t 31))),
  c 3 33 (.call F.check_looker_has [(.t 30), (.t 32)]),
  c 4 34 (.q (.not (.t 33))),
  c 5 35 (.q (.mv (.t 34))),
  cg 6 36 35 false (.q (.mv (.t 8))),
  cg 7 37 35 false (.q (.not (.t 36))),
  cg 8 38 35 false (.q (.mv (.t 37))),
  cg 9 39 38 true (.q (.mv (.t 0))),
  cg 10 40 38 true (.q (.fld 1 (.t 3))),
  cg 11 41 38 true (.q (.load false 1 (.t 40))),
  cg 12 42 38 true (.m (.bsl 1 1 [.int .i64 0] [(0, 1, (.t 41))] [])),
  cg 13 43 38 true (.call F.check_looker_has [(.t 39), (.t 42)]),
  cg 14 44 38 true (.q (.not (.t 43))),
  cg 15 45 35 false (.q (.pick (.t 38) (.t 44) (.k (.c (.bool false))))),
  c 16 46 (.q (.pick (.t 35) (.k (.c (.bool true))) (.t 45))),
  c 17 29 (.q (.mv (.t 46)))]
def r8 : List (Nat × RStep) := [
  c 0 47 (.q (.mkI TC (.k (.c (.int .i64 4))))),
  c 1 4 (.q (.mv (.t 47)))]
def r9 : List (Nat × RStep) := [
  c 0 49 (.q (.mv (.t 8))),
  c 1 50 (.q (.mv (.t 49))),
  cg 2 51 50 true (.q (.fld 1 (.t 3))),
  cg 3 52 50 true (.q (.load false 1 (.t 51))),
  cg 4 53 50 true (.q (.bin .neq (.t 52) (.k (.c (.int .i64 (-1)))))),
  c 5 54 (.q (.pick (.t 50) (.t 53) (.k (.c (.bool false))))),
  c 6 55 (.q (.mv (.t 54))),
  cg 7 56 55 false (.q (.fld 0 (.t 3))),
  cg 8 57 55 false (.q (.load false 1 (.t 56))),
  cg 9 58 55 false (.q (.bin .neq (.t 57) (.k (.c (.int .i64 1))))),
  cg 10 59 55 false (.q (.mv (.t 58))),
  cg 11 60 59 true (.q (.fld 3 (.t 3))),
  cg 12 61 59 true (.q (.load false 1 (.t 60))),
  cg 13 62 59 true (.q (.bin .neq (.t 61) (.k (.c (.int .i64 0))))),
  cg 14 63 55 false (.q (.pick (.t 59) (.t 62) (.k (.c (.bool false))))),
  c 15 64 (.q (.pick (.t 55) (.k (.c (.bool true))) (.t 63))),
  c 16 65 (.q (.mv (.t 64))),
  cg 17 66 65 false (.q (.fld 0 (.t 3))),
  cg 18 67 65 false (.q (.load false 1 (.t 66))),
  cg 19 68 65 false (.q (.bin .neq (.t 67) (.k (.c (.int .i64 17))))),
  cg 20 69 65 false (.q (.mv (.t 68))),
  cg 21 70 69 true (.q (.fld 4 (.t 3))),
  cg 22 71 69 true (.q (.load false 1 (.t 70))),
  cg 23 72 69 true (.q (.bin .neq (.t 71) (.k (.c (.int .i64 0))))),
  cg 24 73 65 false (.q (.pick (.t 69) (.t 72) (.k (.c (.bool false))))),
  c 25 74 (.q (.pick (.t 65) (.k (.c (.bool true))) (.t 73))),
  c 26 75 (.q (.mv (.t 74))),
  cg 27 76 75 false (.q (.mv (.t 0))),
  cg 28 77 75 false (.q (.load true 5 (.t 3))),
  cg 29 78 75 false (.call F.check_looker_fits [(.t 76), (.t 77)]),
  cg 30 79 75 false (.q (.not (.t 78))),
  c 31 80 (.q (.pick (.t 75) (.k (.c (.bool true))) (.t 79))),
  c 32 48 (.q (.mv (.t 80)))]
def r10 : List (Nat × RStep) := [
  c 0 81 (.q (.mkI TC (.k (.c (.int .i64 3))))),
  c 1 4 (.q (.mv (.t 81)))]
def k0 : Blk := (.seq (.reg r3) (.cond (.t 18) (.seq (.reg r4) .ret) (.seq (.reg r5) (.cond (.t 22) (.seq (.reg r6) .ret) (.seq (.reg r7) (.cond (.t 29) (.seq (.reg r8) .ret) (.seq (.reg r9) (.cond (.t 48) (.seq (.reg r10) .ret) .skip))))))))
def r11 : List (Nat × RStep) := [
  c 0 4 (.q (.mv (.k (.c .nili))))]
def body : Blk := (.seq (.reg r0) (.seq (.reg r1) (.seq (.reg r2) (.seq (.block 0 k0) (.seq (.reg r11) .ret)))))
def fi : FI := { nt := 82, na := 2, body := body, res := [(.tmp 4, [])] }
end check_looker_instr
namespace check_looker_end
def r0 : List (Nat × RStep) := [
  c 0 3 (.boxr (.t 1)),
  c 1 4 (.q (.mv (.k (.c .nili))))]
def r1 : List (Nat × RStep) := [
  c 0 6 (.q (.fld 0 (.t 3))),
  c 1 7 (.q (.load false 1 (.t 6))),
  c 2 8 (.q (.bin .eql (.t 7) (.k (.c (.int .i64 1))))),
  c 3 9 (.q (.mv (.t 8))),
  cg 4 10 9 false (.q (.fld 0 (.t 3))),
  cg 5 11 9 false (.q (.load false 1 (.t 10))),
  cg 6 12 9 false (.q (.bin .eql (.t 11) (.k (.c (.int .i64 3))))),
  cg 7 13 9 false (.q (.mv (.t 12))),
  cg 8 14 13 true (.q (.mv (.t 0))),
  cg 9 15 13 true (.q (.nilck (.t 14))),
  cg 10 16 13 true (.q (.fld 1 (.t 15))),
  cg 11 17 13 true (.q (.fld 1 (.t 16))),
  cg 12 18 13 true (.q (.load false 1 (.t 17))),
  cg 13 19 13 true (.q (.bin .eql (.t 18) (.k (.c (.int .i64 0))))),
  cg 14 20 9 false (.q (.pick (.t 13) (.t 19) (.k (.c (.bool false))))),
  c 15 21 (.q (.pick (.t 9) (.k (.c (.bool true))) (.t 20)))]
def r2 : List (Nat × RStep) := [
  c 0 22 (.q (.fld 1 (.t 3))),
  c 1 23 (.q (.load false 1 (.t 22))),
  c 2 24 (.q (.bin .neq (.t 23) (.k (.c (.int .i64 (-1))))))]
def r3 : List (Nat × RStep) := [
  c 0 25 (.q (.mkI TC (.k (.c (.int .i64 3))))),
  c 1 4 (.q (.mv (.t 25)))]
def r4 : List (Nat × RStep) := [
  c 0 4 (.q (.mv (.k (.c .nili))))]
def r5 : List (Nat × RStep) := [
  c 0 5 (.q (.mv (.k (.c (.int .i64 2)))))]
def r6 : List (Nat × RStep) := [
  c 0 26 (.q (.fld 0 (.t 3))),
  c 1 27 (.q (.load false 1 (.t 26))),
  c 2 28 (.q (.bin .eql (.t 27) (.k (.c (.int .i64 3)))))]
def r7 : List (Nat × RStep) := [
  c 0 29 (.q (.mv (.t 0))),
  c 1 30 (.q (.nilck (.t 29))),
  c 2 31 (.q (.fld 1 (.t 30))),
  c 3 32 (.q (.fld 1 (.t 31))),
  c 4 33 (.q (.load false 1 (.t 32))),
  c 5 5 (.q (.mv (.t 33)))]
def r8 : List (Nat × RStep) := [
  c 0 35 (.q (.mv (.t 0))),
  c 1 36 (.q (.fld 1 (.t 3))),
  c 2 37 (.q (.load false 1 (.t 36))),
  c 3 38 (.m (.bsl 1 1 [.int .i64 0] [(0, 1, (.t 37))] [])),
  c 4 39 (.call F.check_looker_has [(.t 35), (.t 38)]),
  c 5 40 (.q (.not (.t 39))),
  c 6 34 (.q (.mv (.t 40)))]
def r9 : List (Nat × RStep) := [
  c 0 41 (.q (.mkI TC (.k (.c (.int .i64 4))))),
  c 1 4 (.q (.mv (.t 41)))]
def r10 : List (Nat × RStep) := [
  c 0 43 (.q (.mv (.t 0))),
  c 1 44 (.q (.mv (.t 5))),
  c 2 45 (.q (.fld 1 (.t 3))),
  c 3 46 (.q (.load false 1 (.t 45))),
  c 4 47 (.m (.bsl 1 1 [.int .i64 0] [(0, 1, (.t 46))] [])),
  c 5 48 (.call F.check_looker_are [(.t 43), (.t 44), (.t 47)]),
  c 6 49 (.q (.not (.t 48))),
  c 7 42 (.q (.mv (.t 49)))]
def r11 : List (Nat × RStep) := [
  c 0 50 (.q (.mkI TC (.k (.c (.int .i64 3))))),
  c 1 4 (.q (.mv (.t 50)))]
def k0 : Blk := (.seq (.reg r8) (.cond (.t 34) (.seq (.reg r9) .ret) (.seq (.reg r10) (.cond (.t 42) (.seq (.reg r11) .ret) .skip))))
def r12 : List (Nat × RStep) := [
  c 0 4 (.q (.mv (.k (.c .nili))))]
def body : Blk := (.seq (.reg r0) (.seq (.seq (.reg r1) (.cond (.t 21) (.seq (.seq (.reg r2) (.cond (.t 24) (.seq (.reg r3) .ret) .skip)) (.seq (.reg r4) .ret)) .skip)) (.seq (.reg r5) (.seq (.seq (.reg r6) (.cond (.t 28) (.reg r7) .skip)) (.seq (.block 0 k0) (.seq (.reg r12) .ret))))))
def fi : FI := { nt := 51, na := 2, body := body, res := [(.tmp 4, [])] }
end check_looker_end
namespace check_looker_block
def r0 : List (Nat × RStep) := [
  c 0 3 (.boxr (.t 1)),
  c 1 4 (.q (.mv (.k (.c .nili))))]
def r1 : List (Nat × RStep) := [
  c 0 11 (.q (.fld 0 (.t 3))),
  c 1 12 (.q (.load false 1 (.t 11))),
  c 2 13 (.q (.len (.t 12))),
  c 3 14 (.q (.mv (.k (.c (.int .i64 0)))))]
def r2 : List (Nat × RStep) := [
  c 0 15 (.q (.bin .lss (.t 14) (.t 13)))]
def r3 : List (Nat × RStep) := [
  c 0 16 (.q (.idx 2 (.t 12) (.t 14))),
  c 1 17 (.q (.load true 2 (.t 16))),
  c 2 6 (.m (.alloc [.int .i64 0, .ow 1 []])),
  v 3 (.st false 2 [0, 1] (.t 6) (.t 17))]
def r4 : List (Nat × RStep) := [
  c 0 18 (.q (.mv (.t 0))),
  c 1 19 (.q (.load true 2 (.t 6))),
  c 2 20 (.call F.check_looker_phi [(.t 18), (.t 19)]),
  c 3 7 (.q (.mv (.t 20)))]
def r5 : List (Nat × RStep) := [
  c 0 21 (.q (.mv (.t 7))),
  c 1 22 (.q (.eqi true true TC (.t 21) (.k (.c .nili))))]
def r6 : List (Nat × RStep) := [
  c 0 23 (.q (.mv (.t 7))),
  c 1 4 (.q (.mv (.t 23)))]
def k1 : Blk := (.seq (.post (.reg r3) [.frz 6]) (.seq (.reg r4) (.seq (.reg r5) (.cond (.t 22) (.seq (.reg r6) .ret) .skip))))
def r7 : List (Nat × RStep) := [
  c 0 24 (.q (.bin .add (.t 14) (.k (.c (.int .i64 1))))),
  c 1 14 (.q (.mv (.t 24)))]
def w0 : Blk := (.seq (.reg r2) (.seq (.cond (.t 15) .skip (.exit 0)) (.seq (.block 1 k1) (.reg r7))))
def k0 : Blk := (.loop w0)
def r8 : List (Nat × RStep) := [
  c 0 25 (.q (.fld 1 (.t 3))),
  c 1 26 (.q (.load false 1 (.t 25))),
  c 2 27 (.q (.len (.t 26))),
  c 3 28 (.q (.mv (.k (.c (.int .i64 0)))))]
def r9 : List (Nat × RStep) := [
  c 0 29 (.q (.bin .lss (.t 28) (.t 27)))]
def r10 : List (Nat × RStep) := [
  c 0 30 (.q (.idx 5 (.t 26) (.t 28))),
  c 1 31 (.q (.load true 5 (.t 30))),
  c 2 9 (.m (.alloc [.int .i64 0, .int .i64 0, .ow 1 [], .int .i64 0, .int .i64 0])),
  v 3 (.st false 5 [0, 0, 1] (.t 9) (.t 31))]
def r11 : List (Nat × RStep) := [
  c 0 32 (.q (.mv (.t 0))),
  c 1 33 (.q (.load true 5 (.t 9))),
  c 2 34 (.call F.check_looker_instr [(.t 32), (.t 33)]),
  c 3 10 (.q (.mv (.t 34)))]
def r12 : List (Nat × RStep) := [
  c 0 35 (.q (.mv (.t 10))),
  c 1 36 (.q (.eqi true true TC (.t 35) (.k (.c .nili))))]
def r13 : List (Nat × RStep) := [
  c 0 37 (.q (.mv (.t 10))),
  c 1 4 (.q (.mv (.t 37)))]
def k3 : Blk := (.seq (.post (.reg r10) [.frz 9]) (.seq (.reg r11) (.seq (.reg r12) (.cond (.t 36) (.seq (.reg r13) .ret) .skip))))
def r14 : List (Nat × RStep) := [
  c 0 38 (.q (.bin .add (.t 28) (.k (.c (.int .i64 1))))),
  c 1 28 (.q (.mv (.t 38)))]
def w1 : Blk := (.seq (.reg r9) (.seq (.cond (.t 29) .skip (.exit 2)) (.seq (.block 3 k3) (.reg r14))))
def k2 : Blk := (.loop w1)
def r15 : List (Nat × RStep) := [
  c 0 39 (.q (.mv (.t 0))),
  c 1 40 (.q (.fld 2 (.t 3))),
  c 2 41 (.q (.load true 3 (.t 40))),
  c 3 42 (.call F.check_looker_end [(.t 39), (.t 41)]),
  c 4 4 (.q (.mv (.t 42)))]
def body : Blk := (.seq (.reg r0) (.seq (.seq (.reg r1) (.block 0 k0)) (.seq (.seq (.reg r8) (.block 2 k2)) (.seq (.reg r15) .ret))))
def fi : FI := { nt := 43, na := 2, body := body, res := [(.tmp 4, [])] }
end check_looker_block
namespace check_Func
def r0 : List (Nat × RStep) := [
  c 0 2 (.boxr (.t 0)),
  c 1 4 (.q (.mv (.k (.c .nili))))]
def r1 : List (Nat × RStep) := [
  c 0 15 (.q (.mv (.t 1))),
  c 1 16 (.q (.bin .lss (.t 15) (.k (.c (.int .i64 0))))),
  c 2 17 (.q (.mv (.t 16))),
  cg 3 18 17 false (.q (.mv (.t 1))),
  cg 4 19 17 false (.q (.fld 0 (.t 2))),
  cg 5 20 17 false (.q (.load false 1 (.t 19))),
  cg 6 21 17 false (.q (.len (.t 20))),
  cg 7 22 17 false (.q (.bin .geq (.t 18) (.t 21))),
  c 8 23 (.q (.pick (.t 17) (.k (.c (.bool true))) (.t 22)))]
def r2 : List (Nat × RStep) := [
  c 0 24 (.q (.mkI TC (.k (.c (.int .i64 1))))),
  c 1 4 (.q (.mv (.t 24)))]
def r3 : List (Nat × RStep) := [
  c 0 25 (.q (.load true 1 (.t 2))),
  c 1 26 (.q (.fld 0 (.t 2))),
  c 2 27 (.q (.load false 1 (.t 26))),
  c 3 28 (.q (.mv (.t 1))),
  c 4 29 (.q (.idx 4 (.t 27) (.t 28))),
  c 5 30 (.q (.load true 4 (.t 29))),
  c 6 31 (.q (.build [.z, .int .i64 0, .int .i64 0, .z, .z] [(0, 1, (.t 25)), (1, 4, (.t 30))])),
  c 7 32 (.m (.box [4, 0, 0, 1, 5] (.t 31))),
  c 8 5 (.q (.mv (.t 32)))]
def r4 : List (Nat × RStep) := [
  c 0 34 (.q (.mv (.t 5))),
  c 1 35 (.q (.nilck (.t 34))),
  c 2 36 (.q (.fld 1 (.t 35))),
  c 3 37 (.q (.load true 4 (.t 36))),
  c 4 38 (.call F.check_small [(.t 37)]),
  c 5 39 (.q (.not (.t 38))),
  c 6 33 (.q (.mv (.t 39)))]
def r5 : List (Nat × RStep) := [
  c 0 40 (.q (.mkI TC (.k (.c (.int .i64 5))))),
  c 1 4 (.q (.mv (.t 40)))]
def r6 : List (Nat × RStep) := [
  c 0 42 (.q (.mv (.t 5))),
  c 1 43 (.q (.nilck (.t 42))),
  c 2 44 (.q (.fld 1 (.t 43))),
  c 3 45 (.q (.load true 4 (.t 44))),
  c 4 46 (.call F.check_typed [(.t 45)]),
  c 5 47 (.q (.not (.t 46))),
  c 6 41 (.q (.mv (.t 47)))]
def r7 : List (Nat × RStep) := [
  c 0 48 (.q (.mkI TC (.k (.c (.int .i64 3))))),
  c 1 4 (.q (.mv (.t 48)))]
def k0 : Blk := (.seq (.reg r4) (.cond (.t 33) (.seq (.reg r5) .ret) (.seq (.reg r6) (.cond (.t 41) (.seq (.reg r7) .ret) .skip))))
def r8 : List (Nat × RStep) := [
  c 0 49 (.q (.mv (.t 5))),
  c 1 50 (.q (.nilck (.t 49))),
  c 2 51 (.q (.fld 1 (.t 50))),
  c 3 52 (.q (.fld 3 (.t 51))),
  c 4 53 (.q (.load false 1 (.t 52))),
  c 5 54 (.q (.len (.t 53))),
  c 6 55 (.q (.mv (.k (.c (.int .i64 0)))))]
def r9 : List (Nat × RStep) := [
  c 0 56 (.q (.bin .lss (.t 55) (.t 54)))]
def r10 : List (Nat × RStep) := [
  c 0 57 (.q (.idx 5 (.t 53) (.t 55))),
  c 1 58 (.q (.load true 5 (.t 57))),
  c 2 7 (.m (.alloc [.ow 2 [], .ow 5 [], .int .i64 0, .int .i64 0, .ow 1 []])),
  v 3 (.st false 5 [2, 5, 0, 0, 1] (.t 7) (.t 58))]
def r11 : List (Nat × RStep) := [
  c 0 59 (.q (.mv (.t 5))),
  c 1 60 (.q (.nilck (.t 59))),
  c 2 61 (.q (.fld 1 (.t 60))),
  c 3 62 (.q (.load true 4 (.t 61))),
  c 4 63 (.q (.fld 2 (.t 7))),
  c 5 64 (.q (.load true 3 (.t 63))),
  c 6 65 (.call F.check_ends [(.t 62), (.t 64)]),
  c 7 66 (.q (.not (.t 65)))]
def r12 : List (Nat × RStep) := [
  c 0 67 (.q (.mkI TC (.k (.c (.int .i64 6))))),
  c 1 4 (.q (.mv (.t 67)))]
def k2 : Blk := (.seq (.post (.reg r10) [.frz 7]) (.seq (.reg r11) (.cond (.t 66) (.seq (.reg r12) .ret) .skip)))
def r13 : List (Nat × RStep) := [
  c 0 68 (.q (.bin .add (.t 55) (.k (.c (.int .i64 1))))),
  c 1 55 (.q (.mv (.t 68)))]
def w0 : Blk := (.seq (.reg r9) (.seq (.cond (.t 56) .skip (.exit 1)) (.seq (.block 2 k2) (.reg r13))))
def k1 : Blk := (.loop w0)
def r14 : List (Nat × RStep) := [
  c 0 69 (.q (.mv (.t 5))),
  c 1 70 (.q (.nilck (.t 69))),
  c 2 71 (.q (.fld 1 (.t 70))),
  c 3 72 (.q (.load true 4 (.t 71))),
  c 4 73 (.call F.check_Ahead [(.t 72)]),
  c 5 74 (.q (.len (.t 73))),
  c 6 75 (.q (.mv (.k (.c (.int .i64 0)))))]
def r15 : List (Nat × RStep) := [
  c 0 76 (.q (.bin .lss (.t 75) (.t 74)))]
def r16 : List (Nat × RStep) := [
  c 0 77 (.q (.mv (.t 75))),
  c 1 78 (.q (.idx 1 (.t 73) (.t 75))),
  c 2 79 (.q (.load false 1 (.t 78))),
  c 3 8 (.q (.mv (.t 77))),
  c 4 9 (.q (.mv (.t 79)))]
def r17 : List (Nat × RStep) := [
  c 0 80 (.q (.mv (.t 5))),
  c 1 81 (.q (.nilck (.t 80))),
  c 2 82 (.q (.fld 1 (.t 81))),
  c 3 83 (.q (.fld 3 (.t 82))),
  c 4 84 (.q (.load false 1 (.t 83))),
  c 5 85 (.q (.mv (.t 8))),
  c 6 86 (.q (.idx 5 (.t 84) (.t 85))),
  c 7 87 (.q (.fld 0 (.t 86))),
  c 8 88 (.q (.load false 1 (.t 87))),
  c 9 89 (.q (.len (.t 88))),
  c 10 90 (.q (.mv (.k (.c (.int .i64 0)))))]
def r18 : List (Nat × RStep) := [
  c 0 91 (.q (.bin .lss (.t 90) (.t 89)))]
def r19 : List (Nat × RStep) := [
  c 0 92 (.q (.idx 2 (.t 88) (.t 90))),
  c 1 93 (.q (.load true 2 (.t 92))),
  c 2 11 (.m (.alloc [.int .i64 0, .ow 1 []])),
  v 3 (.st false 2 [0, 1] (.t 11) (.t 93))]
def r20 : List (Nat × RStep) := [
  c 0 94 (.q (.fld 1 (.t 11))),
  c 1 95 (.q (.load false 1 (.t 94))),
  c 2 96 (.q (.len (.t 95))),
  c 3 97 (.q (.mv (.t 9))),
  c 4 98 (.q (.len (.t 97))),
  c 5 99 (.q (.bin .neq (.t 96) (.t 98)))]
def r21 : List (Nat × RStep) := [
  c 0 100 (.q (.mkI TC (.k (.c (.int .i64 6))))),
  c 1 4 (.q (.mv (.t 100)))]
def k6 : Blk := (.seq (.post (.reg r19) [.frz 11]) (.seq (.reg r20) (.cond (.t 99) (.seq (.reg r21) .ret) .skip)))
def r22 : List (Nat × RStep) := [
  c 0 101 (.q (.bin .add (.t 90) (.k (.c (.int .i64 1))))),
  c 1 90 (.q (.mv (.t 101)))]
def w1 : Blk := (.seq (.reg r18) (.seq (.cond (.t 91) .skip (.exit 5)) (.seq (.block 6 k6) (.reg r22))))
def k5 : Blk := (.loop w1)
def k4 : Blk := (.seq (.reg r16) (.seq (.reg r17) (.block 5 k5)))
def r23 : List (Nat × RStep) := [
  c 0 102 (.q (.bin .add (.t 75) (.k (.c (.int .i64 1))))),
  c 1 75 (.q (.mv (.t 102)))]
def w2 : Blk := (.seq (.reg r15) (.seq (.cond (.t 76) .skip (.exit 3)) (.seq (.block 4 k4) (.reg r23))))
def k3 : Blk := (.loop w2)
def r24 : List (Nat × RStep) := [
  c 0 103 (.q (.mv (.t 5))),
  c 1 104 (.q (.nilck (.t 103))),
  c 2 105 (.q (.fld 1 (.t 104))),
  c 3 106 (.q (.fld 3 (.t 105))),
  c 4 107 (.q (.load false 1 (.t 106))),
  c 5 108 (.q (.len (.t 107))),
  c 6 109 (.q (.mv (.k (.c (.int .i64 0)))))]
def r25 : List (Nat × RStep) := [
  c 0 110 (.q (.bin .lss (.t 109) (.t 108)))]
def r26 : List (Nat × RStep) := [
  c 0 111 (.q (.idx 5 (.t 107) (.t 109))),
  c 1 112 (.q (.load true 5 (.t 111))),
  c 2 13 (.m (.alloc [.ow 2 [], .ow 5 [], .int .i64 0, .int .i64 0, .ow 1 []])),
  v 3 (.st false 5 [2, 5, 0, 0, 1] (.t 13) (.t 112))]
def r27 : List (Nat × RStep) := [
  c 0 113 (.q (.mv (.t 5))),
  c 1 114 (.q (.load true 5 (.t 13))),
  c 2 115 (.call F.check_looker_block [(.t 113), (.t 114)]),
  c 3 14 (.q (.mv (.t 115)))]
def r28 : List (Nat × RStep) := [
  c 0 116 (.q (.mv (.t 14))),
  c 1 117 (.q (.eqi true true TC (.t 116) (.k (.c .nili))))]
def r29 : List (Nat × RStep) := [
  c 0 118 (.q (.mv (.t 14))),
  c 1 4 (.q (.mv (.t 118)))]
def k8 : Blk := (.seq (.post (.reg r26) [.frz 13]) (.seq (.reg r27) (.seq (.reg r28) (.cond (.t 117) (.seq (.reg r29) .ret) .skip))))
def r30 : List (Nat × RStep) := [
  c 0 119 (.q (.bin .add (.t 109) (.k (.c (.int .i64 1))))),
  c 1 109 (.q (.mv (.t 119)))]
def w3 : Blk := (.seq (.reg r25) (.seq (.cond (.t 110) .skip (.exit 7)) (.seq (.block 8 k8) (.reg r30))))
def k7 : Blk := (.loop w3)
def r31 : List (Nat × RStep) := [
  c 0 4 (.q (.mv (.k (.c .nili))))]
def body : Blk := (.seq (.reg r0) (.seq (.seq (.reg r1) (.cond (.t 23) (.seq (.reg r2) .ret) .skip)) (.seq (.post (.reg r3) [.frz 5]) (.seq (.block 0 k0) (.seq (.seq (.reg r8) (.block 1 k1)) (.seq (.seq (.post (.reg r14) [.frz 73]) (.block 3 k3)) (.seq (.seq (.reg r24) (.block 7 k7)) (.seq (.reg r31) .ret))))))))
def fi : FI := { nt := 120, na := 2, body := body, res := [(.tmp 4, [])] }
end check_Func
namespace check_Module
def r0 : List (Nat × RStep) := [
  c 0 1 (.boxr (.t 0)),
  c 1 2 (.q (.mv (.k (.c .nili))))]
def r1 : List (Nat × RStep) := [
  c 0 5 (.q (.fld 0 (.t 1))),
  c 1 6 (.q (.load false 1 (.t 5))),
  c 2 7 (.q (.len (.t 6))),
  c 3 8 (.q (.bin .gtr (.t 7) (.k (.c (.int .i64 32)))))]
def r2 : List (Nat × RStep) := [
  c 0 9 (.q (.mkI TC (.k (.c (.int .i64 5))))),
  c 1 2 (.q (.mv (.t 9)))]
def r3 : List (Nat × RStep) := [
  c 0 10 (.q (.fld 0 (.t 1))),
  c 1 11 (.q (.load false 1 (.t 10))),
  c 2 12 (.q (.len (.t 11))),
  c 3 13 (.q (.mv (.k (.c (.int .i64 0)))))]
def r4 : List (Nat × RStep) := [
  c 0 14 (.q (.bin .lss (.t 13) (.t 12)))]
def r5 : List (Nat × RStep) := [
  c 0 15 (.q (.mv (.t 13))),
  c 1 3 (.q (.mv (.t 15)))]
def r6 : List (Nat × RStep) := [
  c 0 16 (.q (.load true 1 (.t 1))),
  c 1 17 (.q (.mv (.t 3))),
  c 2 18 (.call F.check_Func [(.t 16), (.t 17)]),
  c 3 4 (.q (.mv (.t 18)))]
def r7 : List (Nat × RStep) := [
  c 0 19 (.q (.mv (.t 4))),
  c 1 20 (.q (.eqi true true TC (.t 19) (.k (.c .nili))))]
def r8 : List (Nat × RStep) := [
  c 0 21 (.q (.mv (.t 3))),
  c 1 22 (.q (.mv (.t 4))),
  c 2 23 (.q (.build [.int .i64 0, .nili] [(0, 1, (.t 21)), (1, 1, (.t 22))])),
  c 3 24 (.boxr (.t 23)),
  c 4 25 (.q (.mkI TS (.t 24))),
  c 5 2 (.q (.mv (.t 25)))]
def k1 : Blk := (.seq (.reg r5) (.seq (.reg r6) (.seq (.reg r7) (.cond (.t 20) (.seq (.reg r8) .ret) .skip))))
def r9 : List (Nat × RStep) := [
  c 0 26 (.q (.bin .add (.t 13) (.k (.c (.int .i64 1))))),
  c 1 13 (.q (.mv (.t 26)))]
def w0 : Blk := (.seq (.reg r4) (.seq (.cond (.t 14) .skip (.exit 0)) (.seq (.block 1 k1) (.reg r9))))
def k0 : Blk := (.loop w0)
def r10 : List (Nat × RStep) := [
  c 0 2 (.q (.mv (.k (.c .nili))))]
def body : Blk := (.seq (.reg r0) (.seq (.seq (.reg r1) (.cond (.t 8) (.seq (.reg r2) .ret) .skip)) (.seq (.seq (.reg r3) (.block 0 k0)) (.seq (.reg r10) .ret))))
def fi : FI := { nt := 27, na := 1, body := body, res := [(.tmp 2, [])] }
end check_Module
namespace calls_Calls
def r0 : List (Nat × RStep) := [
  c 0 1 (.boxr (.t 0)),
  c 1 2 (.q (.mv (.k (.c .z))))]
def r1 : List (Nat × RStep) := [
  c 0 10 (.q (.fld 0 (.t 1))),
  c 1 11 (.q (.load false 1 (.t 10))),
  c 2 12 (.q (.len (.t 11))),
  c 3 13 (.m (.mks 24 [.ow 1 []] (.t 12))),
  c 4 3 (.q (.mv (.t 13)))]
def r2 : List (Nat × RStep) := [
  c 0 14 (.q (.fld 0 (.t 1))),
  c 1 15 (.q (.load false 1 (.t 14))),
  c 2 16 (.q (.len (.t 15))),
  c 3 17 (.q (.mv (.k (.c (.int .i64 0)))))]
def r3 : List (Nat × RStep) := [
  c 0 18 (.q (.bin .lss (.t 17) (.t 16)))]
def r4 : List (Nat × RStep) := [
  c 0 19 (.q (.mv (.t 17))),
  c 1 20 (.q (.idx 4 (.t 15) (.t 17))),
  c 2 21 (.q (.load true 4 (.t 20))),
  c 3 5 (.m (.alloc [.int .i64 0, .int .i64 0, .ow 1 [], .ow 5 []])),
  c 4 4 (.q (.mv (.t 19))),
  v 5 (.st false 4 [0, 0, 1, 5] (.t 5) (.t 21))]
def r5 : List (Nat × RStep) := [
  c 0 22 (.q (.fld 3 (.t 5))),
  c 1 23 (.q (.load false 1 (.t 22))),
  c 2 24 (.q (.len (.t 23))),
  c 3 25 (.q (.mv (.k (.c (.int .i64 0)))))]
def r6 : List (Nat × RStep) := [
  c 0 26 (.q (.bin .lss (.t 25) (.t 24)))]
def r7 : List (Nat × RStep) := [
  c 0 27 (.q (.idx 5 (.t 23) (.t 25))),
  c 1 28 (.q (.load true 5 (.t 27))),
  c 2 7 (.m (.alloc [.ow 2 [], .ow 5 [], .int .i64 0, .int .i64 0, .ow 1 []])),
  v 3 (.st false 5 [2, 5, 0, 0, 1] (.t 7) (.t 28))]
def r8 : List (Nat × RStep) := [
  c 0 29 (.q (.fld 1 (.t 7))),
  c 1 30 (.q (.load false 1 (.t 29))),
  c 2 31 (.q (.len (.t 30))),
  c 3 32 (.q (.mv (.k (.c (.int .i64 0)))))]
def r9 : List (Nat × RStep) := [
  c 0 33 (.q (.bin .lss (.t 32) (.t 31)))]
def r10 : List (Nat × RStep) := [
  c 0 34 (.q (.idx 5 (.t 30) (.t 32))),
  c 1 35 (.q (.load true 5 (.t 34))),
  c 2 9 (.m (.alloc [.int .i64 0, .int .i64 0, .ow 1 [], .int .i64 0, .int .i64 0])),
  v 3 (.st false 5 [0, 0, 1] (.t 9) (.t 35))]
def r11 : List (Nat × RStep) := [
  c 0 36 (.q (.fld 0 (.t 9))),
  c 1 37 (.q (.load false 1 (.t 36))),
  c 2 38 (.q (.bin .eql (.t 37) (.k (.c (.int .i64 17))))),
  c 3 39 (.q (.mv (.t 38))),
  cg 4 40 39 true (.q (.fld 4 (.t 9))),
  cg 5 41 39 true (.q (.load false 1 (.t 40))),
  cg 6 42 39 true (.q (.bin .geq (.t 41) (.k (.c (.int .i64 0))))),
  c 7 43 (.q (.pick (.t 39) (.t 42) (.k (.c (.bool false))))),
  c 8 44 (.q (.mv (.t 43))),
  cg 9 45 44 true (.q (.fld 4 (.t 9))),
  cg 10 46 44 true (.q (.load false 1 (.t 45))),
  cg 11 47 44 true (.q (.mv (.t 3))),
  cg 12 48 44 true (.q (.len (.t 47))),
  cg 13 49 44 true (.q (.bin .lss (.t 46) (.t 48))),
  c 14 50 (.q (.pick (.t 44) (.t 49) (.k (.c (.bool false)))))]
def r12 : List (Nat × RStep) := [
  c 0 51 (.q (.mv (.t 3))),
  c 1 52 (.q (.mv (.t 4))),
  c 2 53 (.q (.mv (.t 3))),
  c 3 54 (.q (.mv (.t 4))),
  c 4 55 (.q (.idx 1 (.t 53) (.t 54))),
  c 5 56 (.q (.load false 1 (.t 55))),
  c 6 57 (.q (.fld 4 (.t 9))),
  c 7 58 (.q (.load false 1 (.t 57))),
  c 8 59 (.bslp 1 1 [.int .i64 0] [(0, 1, (.t 58))]),
  c 9 60 (.app 1 8 true (.t 56) (.t 59)),
  c 10 61 (.q (.idx 1 (.t 51) (.t 52))),
  v 11 (.st false 1 [1] (.t 61) (.t 60))]
def k5 : Blk := (.seq (.post (.reg r10) [.frz 9]) (.seq (.reg r11) (.cond (.t 50) (.gh [.idx 79 (.t 3) (.t 4), .opn 80 (.t 79)] (.reg r12)) .skip)))
def r13 : List (Nat × RStep) := [
  c 0 62 (.q (.bin .add (.t 32) (.k (.c (.int .i64 1))))),
  c 1 32 (.q (.mv (.t 62)))]
def w0 : Blk := (.seq (.reg r9) (.seq (.cond (.t 33) .skip (.exit 4)) (.seq (.block 5 k5) (.reg r13))))
def k4 : Blk := (.loop w0)
def k3 : Blk := (.seq (.post (.reg r7) [.frz 7]) (.seq (.reg r8) (.block 4 k4)))
def r14 : List (Nat × RStep) := [
  c 0 63 (.q (.bin .add (.t 25) (.k (.c (.int .i64 1))))),
  c 1 25 (.q (.mv (.t 63)))]
def w1 : Blk := (.seq (.reg r6) (.seq (.cond (.t 26) .skip (.exit 2)) (.seq (.block 3 k3) (.reg r14))))
def k2 : Blk := (.loop w1)
def r15 : List (Nat × RStep) := [
  c 0 64 (.q (.mv (.t 3))),
  c 1 65 (.q (.mv (.t 4))),
  c 2 66 (.q (.idx 1 (.t 64) (.t 65))),
  c 3 67 (.q (.load false 1 (.t 66))),
  c 4 68 (.calll F.slices_Sort_int_int [(.t 67)] [])]
def r16 : List (Nat × RStep) := [
  c 0 69 (.q (.mv (.t 3))),
  c 1 70 (.q (.mv (.t 4))),
  c 2 71 (.q (.mv (.t 3))),
  c 3 72 (.q (.mv (.t 4))),
  c 4 73 (.q (.idx 1 (.t 71) (.t 72))),
  c 5 74 (.q (.load false 1 (.t 73))),
  c 6 75 (.calll F.slices_Compact_int_int [(.t 74)] []),
  c 7 76 (.q (.idx 1 (.t 69) (.t 70))),
  v 8 (.st false 1 [1] (.t 76) (.t 75))]
def k1 : Blk := (.seq (.post (.reg r4) [.frz 5]) (.seq (.seq (.reg r5) (.block 2 k2)) (.seq (.gh [.idx 79 (.t 3) (.t 4), .opn 80 (.t 79)] (.post (.reg r15) [.cls (.t 66)])) (.gh [.idx 79 (.t 3) (.t 4), .opn 80 (.t 79)] (.reg r16)))))
def r17 : List (Nat × RStep) := [
  c 0 77 (.q (.bin .add (.t 17) (.k (.c (.int .i64 1))))),
  c 1 17 (.q (.mv (.t 77)))]
def w2 : Blk := (.seq (.reg r3) (.seq (.cond (.t 18) .skip (.exit 0)) (.seq (.block 1 k1) (.reg r17))))
def k0 : Blk := (.loop w2)
def r18 : List (Nat × RStep) := [
  c 0 78 (.q (.mv (.t 3))),
  c 1 2 (.q (.mv (.t 78)))]
def body : Blk := (.seq (.reg r0) (.seq (.reg r1) (.seq (.seq (.reg r2) (.block 0 k0)) (.seq (.reg r18) .ret))))
def fi : FI := { nt := 79, na := 1, body := body, res := [(.tmp 2, [1])] }
end calls_Calls
namespace effect_joined
def r0 : List (Nat × RStep) := [
  c 0 2 (.boxr (.t 0)),
  c 1 3 (.boxr (.t 1)),
  c 2 4 (.m (.alloc [.bool false, .bool false, .bool false, .bool false, .bool false]))]
def r1 : List (Nat × RStep) := [
  c 0 5 (.q (.fld 0 (.t 2))),
  c 1 6 (.q (.load false 1 (.t 5))),
  c 2 7 (.q (.mv (.t 6))),
  cg 3 8 7 false (.q (.fld 0 (.t 3))),
  cg 4 9 7 false (.q (.load false 1 (.t 8))),
  c 5 10 (.q (.pick (.t 7) (.k (.c (.bool true))) (.t 9))),
  c 6 11 (.q (.fld 1 (.t 2))),
  c 7 12 (.q (.load false 1 (.t 11))),
  c 8 13 (.q (.mv (.t 12))),
  cg 9 14 13 false (.q (.fld 1 (.t 3))),
  cg 10 15 13 false (.q (.load false 1 (.t 14))),
  c 11 16 (.q (.pick (.t 13) (.k (.c (.bool true))) (.t 15))),
  c 12 17 (.q (.fld 2 (.t 2))),
  c 13 18 (.q (.load false 1 (.t 17))),
  c 14 19 (.q (.mv (.t 18))),
  cg 15 20 19 false (.q (.fld 2 (.t 3))),
  cg 16 21 19 false (.q (.load false 1 (.t 20))),
  c 17 22 (.q (.pick (.t 19) (.k (.c (.bool true))) (.t 21))),
  c 18 23 (.q (.fld 3 (.t 2))),
  c 19 24 (.q (.load false 1 (.t 23))),
  c 20 25 (.q (.mv (.t 24))),
  cg 21 26 25 false (.q (.fld 3 (.t 3))),
  cg 22 27 25 false (.q (.load false 1 (.t 26))),
  c 23 28 (.q (.pick (.t 25) (.k (.c (.bool true))) (.t 27))),
  c 24 29 (.q (.fld 4 (.t 2))),
  c 25 30 (.q (.load false 1 (.t 29))),
  c 26 31 (.q (.mv (.t 30))),
  cg 27 32 31 false (.q (.fld 4 (.t 3))),
  cg 28 33 31 false (.q (.load false 1 (.t 32))),
  c 29 34 (.q (.pick (.t 31) (.k (.c (.bool true))) (.t 33))),
  c 30 35 (.q (.build [.bool false, .bool false, .bool false, .bool false, .bool false] [(0, 1, (.t 10)), (1, 1, (.t 16)), (2, 1, (.t 22)), (3, 1, (.t 28)), (4, 1, (.t 34))])),
  v 31 (.st false 5 [] (.t 4) (.t 35))]
def body : Blk := (.seq (.reg r0) (.seq (.reg r1) .ret))
def fi : FI := { nt := 36, na := 2, body := body, res := [(.cell 4 true 5, [])] }
end effect_joined
namespace graph_Next
def r0 : List (Nat × RStep) := [
  c 0 1 (.boxr (.t 0)),
  c 1 2 (.q (.mv (.k (.c .z))))]
def r1 : List (Nat × RStep) := [
  c 0 8 (.q (.fld 3 (.t 1))),
  c 1 9 (.q (.load false 1 (.t 8))),
  c 2 10 (.q (.len (.t 9))),
  c 3 11 (.m (.mks 24 [.ow 1 []] (.t 10))),
  c 4 3 (.q (.mv (.t 11)))]
def r2 : List (Nat × RStep) := [
  c 0 12 (.q (.fld 3 (.t 1))),
  c 1 13 (.q (.load false 1 (.t 12))),
  c 2 14 (.q (.len (.t 13))),
  c 3 15 (.q (.mv (.k (.c (.int .i64 0)))))]
def r3 : List (Nat × RStep) := [
  c 0 16 (.q (.bin .lss (.t 15) (.t 14)))]
def r4 : List (Nat × RStep) := [
  c 0 17 (.q (.mv (.t 15))),
  c 1 18 (.q (.idx 5 (.t 13) (.t 15))),
  c 2 19 (.q (.load true 5 (.t 18))),
  c 3 5 (.m (.alloc [.ow 2 [], .ow 5 [], .int .i64 0, .int .i64 0, .ow 1 []])),
  c 4 4 (.q (.mv (.t 17))),
  v 5 (.st false 5 [2, 5, 0, 0, 1] (.t 5) (.t 19))]
def r5 : List (Nat × RStep) := [
  c 0 20 (.q (.fld 2 (.t 5))),
  c 1 21 (.q (.fld 2 (.t 20))),
  c 2 22 (.q (.load false 1 (.t 21))),
  c 3 23 (.q (.len (.t 22))),
  c 4 24 (.q (.mv (.k (.c (.int .i64 0)))))]
def r6 : List (Nat × RStep) := [
  c 0 25 (.q (.bin .lss (.t 24) (.t 23)))]
def r7 : List (Nat × RStep) := [
  c 0 26 (.q (.idx 1 (.t 22) (.t 24))),
  c 1 27 (.q (.load false 1 (.t 26))),
  c 2 7 (.q (.mv (.t 27)))]
def r8 : List (Nat × RStep) := [
  c 0 28 (.q (.mv (.t 7))),
  c 1 29 (.q (.bin .geq (.t 28) (.k (.c (.int .i64 0))))),
  c 2 30 (.q (.mv (.t 29))),
  cg 3 31 30 true (.q (.mv (.t 7))),
  cg 4 32 30 true (.q (.mv (.t 3))),
  cg 5 33 30 true (.q (.len (.t 32))),
  cg 6 34 30 true (.q (.bin .lss (.t 31) (.t 33))),
  c 7 35 (.q (.pick (.t 30) (.t 34) (.k (.c (.bool false))))),
  c 8 36 (.q (.mv (.t 35))),
  cg 9 37 36 true (.q (.mv (.t 3))),
  cg 10 38 36 true (.q (.mv (.t 4))),
  cg 11 39 36 true (.q (.idx 1 (.t 37) (.t 38))),
  cg 12 40 36 true (.q (.load false 1 (.t 39))),
  cg 13 41 36 true (.q (.mv (.t 7))),
  cg 14 42 36 true (.call F.slices_Contains_int_int [(.t 40), (.t 41)]),
  cg 15 43 36 true (.q (.not (.t 42))),
  c 16 44 (.q (.pick (.t 36) (.t 43) (.k (.c (.bool false)))))]
def r9 : List (Nat × RStep) := [
  c 0 45 (.q (.mv (.t 3))),
  c 1 46 (.q (.mv (.t 4))),
  c 2 47 (.q (.mv (.t 3))),
  c 3 48 (.q (.mv (.t 4))),
  c 4 49 (.q (.idx 1 (.t 47) (.t 48))),
  c 5 50 (.q (.load false 1 (.t 49))),
  c 6 51 (.q (.mv (.t 7))),
  c 7 52 (.m (.bsl 1 1 [.int .i64 0] [(0, 1, (.t 51))] [])),
  c 8 53 (.app 1 8 true (.t 50) (.t 52)),
  c 9 54 (.q (.idx 1 (.t 45) (.t 46))),
  v 10 (.st false 1 [1] (.t 54) (.t 53))]
def k3 : Blk := (.seq (.reg r7) (.seq (.reg r8) (.cond (.t 44) (.gh [.idx 58 (.t 3) (.t 4), .opn 59 (.t 58)] (.reg r9)) .skip)))
def r10 : List (Nat × RStep) := [
  c 0 55 (.q (.bin .add (.t 24) (.k (.c (.int .i64 1))))),
  c 1 24 (.q (.mv (.t 55)))]
def w0 : Blk := (.seq (.reg r6) (.seq (.cond (.t 25) .skip (.exit 2)) (.seq (.block 3 k3) (.reg r10))))
def k2 : Blk := (.loop w0)
def k1 : Blk := (.seq (.post (.reg r4) [.frz 5]) (.seq (.reg r5) (.block 2 k2)))
def r11 : List (Nat × RStep) := [
  c 0 56 (.q (.bin .add (.t 15) (.k (.c (.int .i64 1))))),
  c 1 15 (.q (.mv (.t 56)))]
def w1 : Blk := (.seq (.reg r3) (.seq (.cond (.t 16) .skip (.exit 0)) (.seq (.block 1 k1) (.reg r11))))
def k0 : Blk := (.loop w1)
def r12 : List (Nat × RStep) := [
  c 0 57 (.q (.mv (.t 3))),
  c 1 2 (.q (.mv (.t 57)))]
def body : Blk := (.seq (.reg r0) (.seq (.reg r1) (.seq (.seq (.reg r2) (.block 0 k0)) (.seq (.reg r12) .ret))))
def fi : FI := { nt := 58, na := 1, body := body, res := [(.tmp 2, [1])] }
end graph_Next
namespace slices_Reverse_int_int
def r0 : List (Nat × RStep) := [
  c 0 4 (.q (.mv (.t 0))),
  c 1 5 (.q (.len (.t 4))),
  c 2 6 (.q (.bin .sub (.t 5) (.k (.c (.int .i64 1))))),
  c 3 2 (.q (.mv (.k (.c (.int .i64 0))))),
  c 4 3 (.q (.mv (.t 6)))]
def r1 : List (Nat × RStep) := [
  c 0 7 (.q (.mv (.t 2))),
  c 1 8 (.q (.mv (.t 3))),
  c 2 9 (.q (.bin .lss (.t 7) (.t 8)))]
def r3 : List (Nat × RStep) := [
  c 0 14 (.q (.mv (.t 0))),
  c 1 15 (.q (.mv (.t 2))),
  c 2 16 (.q (.mv (.t 0))),
  c 3 17 (.q (.mv (.t 3))),
  c 4 18 (.q (.mv (.t 0))),
  c 5 19 (.q (.mv (.t 3))),
  c 6 20 (.q (.idx 1 (.t 18) (.t 19))),
  c 7 21 (.q (.load false 1 (.t 20))),
  c 8 22 (.q (.mv (.t 0))),
  c 9 23 (.q (.mv (.t 2))),
  c 10 24 (.q (.idx 1 (.t 22) (.t 23))),
  c 11 25 (.q (.load false 1 (.t 24))),
  c 12 26 (.q (.idx 1 (.t 14) (.t 15))),
  v 13 (.st false 1 [] (.t 26) (.t 21)),
  c 14 27 (.q (.idx 1 (.t 16) (.t 17))),
  v 15 (.st false 1 [] (.t 27) (.t 25))]
def k1 : Blk := (.reg r3)
def r2 : List (Nat × RStep) := [
  c 0 10 (.q (.mv (.t 2))),
  c 1 11 (.q (.bin .add (.t 10) (.k (.c (.int .i64 1))))),
  c 2 12 (.q (.mv (.t 3))),
  c 3 13 (.q (.bin .sub (.t 12) (.k (.c (.int .i64 1))))),
  c 4 2 (.q (.mv (.t 11))),
  c 5 3 (.q (.mv (.t 13)))]
def w0 : Blk := (.seq (.seq (.reg r1) (.cond (.t 9) .skip (.exit 0))) (.seq (.block 1 k1) (.reg r2)))
def k0 : Blk := (.loop w0)
def body : Blk := (.seq (.reg r0) (.block 0 k0))
def fi : FI := { nt := 28, na := 1, body := body, res := [] }
end slices_Reverse_int_int
namespace graph_order_1
def r0 : List (Nat × RStep) := [
  c 0 8 (.q (.load false 1 (.t 1))),
  c 1 9 (.q (.mv (.t 0))),
  c 2 10 (.q (.idx 1 (.t 8) (.t 9))),
  v 3 (.st false 1 [] (.t 10) (.k (.c (.bool true))))]
def r1 : List (Nat × RStep) := [
  c 0 11 (.q (.load false 1 (.t 2))),
  c 1 12 (.q (.mv (.t 0))),
  c 2 13 (.q (.idx 1 (.t 11) (.t 12))),
  c 3 14 (.q (.load false 1 (.t 13))),
  c 4 15 (.q (.len (.t 14))),
  c 5 16 (.q (.mv (.k (.c (.int .i64 0)))))]
def r2 : List (Nat × RStep) := [
  c 0 17 (.q (.bin .lss (.t 16) (.t 15)))]
def r3 : List (Nat × RStep) := [
  c 0 18 (.q (.idx 1 (.t 14) (.t 16))),
  c 1 19 (.q (.load false 1 (.t 18))),
  c 2 7 (.q (.mv (.t 19)))]
def r4 : List (Nat × RStep) := [
  c 0 20 (.q (.load false 1 (.t 1))),
  c 1 21 (.q (.mv (.t 7))),
  c 2 22 (.q (.idx 1 (.t 20) (.t 21))),
  c 3 23 (.q (.load false 1 (.t 22))),
  c 4 24 (.q (.not (.t 23)))]
def r5 : List (Nat × RStep) := [
  c 0 25 (.q (.load false 1 (.t 3))),
  c 1 26 (.q (.mv (.t 7))),
  c 2 27 (.callv true (.t 25) [(.t 26)] [])]
def k1 : Blk := (.seq (.reg r3) (.seq (.reg r4) (.cond (.t 24) (.reg r5) .skip)))
def r6 : List (Nat × RStep) := [
  c 0 28 (.q (.bin .add (.t 16) (.k (.c (.int .i64 1))))),
  c 1 16 (.q (.mv (.t 28)))]
def w0 : Blk := (.seq (.reg r2) (.seq (.cond (.t 17) .skip (.exit 0)) (.seq (.block 1 k1) (.reg r6))))
def k0 : Blk := (.loop w0)
def r7 : List (Nat × RStep) := [
  c 0 29 (.q (.load false 1 (.t 4))),
  c 1 30 (.q (.mv (.t 0))),
  c 2 31 (.m (.bsl 1 1 [.int .i64 0] [(0, 1, (.t 30))] [])),
  c 3 32 (.app 1 8 true (.t 29) (.t 31)),
  v 4 (.st false 1 [1] (.t 4) (.t 32))]
def body : Blk := (.seq (.gh [.opn 33 (.t 1)] (.post (.reg r0) [.cls (.t 1)])) (.seq (.seq (.reg r1) (.block 0 k0)) (.gh [.opn 33 (.t 4)] (.reg r7))))
def fi : FI := { nt := 33, na := 5, body := body, res := [] }
end graph_order_1
namespace graph_order
def r0 : List (Nat × RStep) := [
  c 0 1 (.boxr (.t 0)),
  c 1 2 (.q (.mv (.k (.c .z)))),
  c 2 3 (.q (.mv (.k (.c .z))))]
def r1 : List (Nat × RStep) := [
  c 0 8 (.q (.load true 4 (.t 1))),
  c 1 9 (.call F.graph_Next [(.t 8)]),
  c 2 4 (.m (.alloc [.ow 1 []])),
  v 3 (.st false 1 [1] (.t 4) (.t 9))]
def r2 : List (Nat × RStep) := [
  c 0 10 (.q (.load false 1 (.t 4))),
  c 1 11 (.q (.len (.t 10))),
  c 2 12 (.m (.mks 1 [.bool false] (.t 11))),
  c 3 5 (.m (.alloc [.ow 1 []])),
  v 4 (.st false 1 [1] (.t 5) (.t 12))]
def r3 : List (Nat × RStep) := [
  c 0 6 (.m (.alloc [.ow 1 []]))]
def r4 : List (Nat × RStep) := [
  c 0 7 (.m (.alloc [.nilf]))]
def r5 : List (Nat × RStep) := [
  c 0 13 (.q (.mkF F.graph_order_1 [(.t 5), (.t 4), (.t 7), (.t 6)])),
  v 1 (.st false 1 [] (.t 7) (.t 13))]
def r6 : List (Nat × RStep) := [
  c 0 14 (.q (.load false 1 (.t 4))),
  c 1 15 (.q (.len (.t 14))),
  c 2 16 (.q (.bin .gtr (.t 15) (.k (.c (.int .i64 0)))))]
def r7 : List (Nat × RStep) := [
  c 0 17 (.q (.load false 1 (.t 7))),
  c 1 18 (.callv true (.t 17) [(.k (.c (.int .i64 0)))] [])]
def r8 : List (Nat × RStep) := [
  c 0 19 (.q (.load false 1 (.t 6))),
  c 1 20 (.calll F.slices_Reverse_int_int [(.t 19)] [])]
def r9 : List (Nat × RStep) := [
  c 0 21 (.q (.load false 1 (.t 6))),
  c 1 22 (.q (.load false 1 (.t 5))),
  c 2 2 (.q (.mv (.t 21))),
  c 3 3 (.q (.mv (.t 22)))]
def body : Blk := (.seq (.reg r0) (.seq (.reg r1) (.seq (.gh [.frn 117 (.t 4)] (.reg r2)) (.seq (.reg r3) (.seq (.reg r4) (.seq (.reg r5) (.seq (.seq (.reg r6) (.cond (.t 16) (.reg r7) .skip)) (.seq (.gh [.opn 23 (.t 6)] (.post (.reg r8) [.cls (.t 6)])) (.seq (.gh [.opn 23 (.t 6), .opn 24 (.t 5)] (.reg r9)) .ret)))))))))
def fi : FI := { nt := 23, na := 1, body := body, res := [(.tmp 2, [1]), (.tmp 3, [1])] }
end graph_order
namespace graph_Reached
def r0 : List (Nat × RStep) := [
  c 0 1 (.boxr (.t 0)),
  c 1 2 (.q (.mv (.k (.c .z))))]
def r1 : List (Nat × RStep) := [
  c 0 6 (.q (.load true 4 (.t 1))),
  c 1 7 (.call F.graph_order [(.t 6)]),
  c 2 5 (.q (.mv (.t 7))),
  c 3 8 (.q (.ext (.t 5) 0)),
  c 4 9 (.q (.ext (.t 5) 1)),
  c 5 3 (.q (.mv (.t 8))),
  c 6 4 (.q (.mv (.t 9)))]
def r2 : List (Nat × RStep) := [
  c 0 10 (.q (.mv (.t 4))),
  c 1 2 (.q (.mv (.t 10)))]
def body : Blk := (.seq (.reg r0) (.seq (.reg r1) (.seq (.reg r2) .ret)))
def fi : FI := { nt := 11, na := 1, body := body, res := [(.tmp 2, [1])] }
end graph_Reached
namespace graph_Order
def r0 : List (Nat × RStep) := [
  c 0 1 (.boxr (.t 0)),
  c 1 2 (.q (.mv (.k (.c .z))))]
def r1 : List (Nat × RStep) := [
  c 0 6 (.q (.load true 4 (.t 1))),
  c 1 7 (.call F.graph_order [(.t 6)]),
  c 2 5 (.q (.mv (.t 7))),
  c 3 8 (.q (.ext (.t 5) 0)),
  c 4 9 (.q (.ext (.t 5) 1)),
  c 5 3 (.q (.mv (.t 8))),
  c 6 4 (.q (.mv (.t 9)))]
def r2 : List (Nat × RStep) := [
  c 0 10 (.q (.mv (.t 3))),
  c 1 2 (.q (.mv (.t 10)))]
def body : Blk := (.seq (.reg r0) (.seq (.reg r1) (.seq (.reg r2) .ret)))
def fi : FI := { nt := 11, na := 1, body := body, res := [(.tmp 2, [1])] }
end graph_Order
namespace effect_turns_1
def r0 : List (Nat × RStep) := [
  c 0 4 (.q (.mv (.k (.c (.bool false)))))]
def r1 : List (Nat × RStep) := [
  c 0 5 (.q (.load false 1 (.t 1))),
  c 1 6 (.q (.mv (.t 0))),
  c 2 7 (.q (.idx 1 (.t 5) (.t 6))),
  c 3 8 (.q (.load false 1 (.t 7))),
  c 4 9 (.q (.load false 1 (.t 1))),
  c 5 10 (.q (.load false 1 (.t 2))),
  c 6 11 (.q (.idx 1 (.t 9) (.t 10))),
  c 7 12 (.q (.load false 1 (.t 11))),
  c 8 13 (.q (.bin .leq (.t 8) (.t 12))),
  c 9 4 (.q (.mv (.t 13)))]
def body : Blk := (.seq (.reg r0) (.seq (.reg r1) .ret))
def fi : FI := { nt := 14, na := 3, body := body, res := [(.tmp 4, [])] }
end effect_turns_1
namespace effect_turns
def r0 : List (Nat × RStep) := [
  c 0 1 (.boxr (.t 0)),
  c 1 2 (.q (.mv (.k (.c (.bool false)))))]
def r1 : List (Nat × RStep) := [
  c 0 10 (.q (.load true 4 (.t 1))),
  c 2 12 (.q (.fld 3 (.t 1))),
  c 3 13 (.q (.load false 1 (.t 12))),
  c 4 14 (.q (.len (.t 13))),
  c 1 11 (.call F.graph_Next [(.t 10)]),
  c 5 15 (.m (.mks 8 [.int .i64 0] (.t 14))),
  c 6 4 (.m (.alloc [.ow 1 []])),
  c 7 3 (.q (.mv (.t 11))),
  v 8 (.st false 1 [1] (.t 4) (.t 15))]
def r2 : List (Nat × RStep) := [
  c 0 16 (.q (.load true 4 (.t 1))),
  c 1 17 (.call F.graph_Order [(.t 16)]),
  c 2 5 (.q (.mv (.t 17)))]
def r3 : List (Nat × RStep) := [
  c 0 18 (.q (.mv (.t 5))),
  c 1 19 (.q (.len (.t 18))),
  c 2 20 (.q (.mv (.k (.c (.int .i64 0)))))]
def r4 : List (Nat × RStep) := [
  c 0 21 (.q (.bin .lss (.t 20) (.t 19)))]
def r5 : List (Nat × RStep) := [
  c 0 22 (.q (.mv (.t 20))),
  c 1 23 (.q (.idx 1 (.t 18) (.t 20))),
  c 2 24 (.q (.load false 1 (.t 23))),
  c 3 6 (.q (.mv (.t 22))),
  c 4 7 (.q (.mv (.t 24)))]
def r6 : List (Nat × RStep) := [
  c 0 25 (.q (.load false 1 (.t 4))),
  c 1 26 (.q (.mv (.t 7))),
  c 2 27 (.q (.mv (.t 6))),
  c 3 28 (.q (.idx 1 (.t 25) (.t 26))),
  v 4 (.st false 1 [] (.t 28) (.t 27))]
def k1 : Blk := (.seq (.reg r5) (.gh [.opn 43 (.t 4)] (.post (.reg r6) [.cls (.t 4)])))
def r7 : List (Nat × RStep) := [
  c 0 29 (.q (.bin .add (.t 20) (.k (.c (.int .i64 1))))),
  c 1 20 (.q (.mv (.t 29)))]
def w0 : Blk := (.seq (.reg r4) (.seq (.cond (.t 21) .skip (.exit 0)) (.seq (.block 1 k1) (.reg r7))))
def k0 : Blk := (.loop w0)
def r8 : List (Nat × RStep) := [
  c 0 30 (.q (.mv (.t 5))),
  c 1 31 (.q (.len (.t 30))),
  c 2 32 (.q (.mv (.k (.c (.int .i64 0)))))]
def r9 : List (Nat × RStep) := [
  c 0 33 (.q (.bin .lss (.t 32) (.t 31)))]
def r10 : List (Nat × RStep) := [
  c 0 34 (.q (.idx 1 (.t 30) (.t 32))),
  c 1 35 (.q (.load false 1 (.t 34))),
  c 2 9 (.m (.alloc [.int .i64 0])),
  v 3 (.st false 1 [] (.t 9) (.t 35))]
def r11 : List (Nat × RStep) := [
  c 0 36 (.q (.mv (.t 3))),
  c 1 37 (.q (.load false 1 (.t 9))),
  c 2 38 (.q (.idx 1 (.t 36) (.t 37))),
  c 3 39 (.q (.load false 1 (.t 38))),
  c 4 40 (.q (.mkF F.effect_turns_1 [(.t 4), (.t 9)])),
  c 5 41 (.calll F.slices_ContainsFunc_int_int [(.t 39), (.t 40)] [])]
def r12 : List (Nat × RStep) := [
  c 0 2 (.q (.mv (.k (.c (.bool true)))))]
def k3 : Blk := (.seq (.reg r10) (.seq (.reg r11) (.cond (.t 41) (.seq (.reg r12) .ret) .skip)))
def r13 : List (Nat × RStep) := [
  c 0 42 (.q (.bin .add (.t 32) (.k (.c (.int .i64 1))))),
  c 1 32 (.q (.mv (.t 42)))]
def w1 : Blk := (.seq (.reg r9) (.seq (.cond (.t 33) .skip (.exit 2)) (.seq (.block 3 k3) (.reg r13))))
def k2 : Blk := (.loop w1)
def r14 : List (Nat × RStep) := [
  c 0 2 (.q (.mv (.k (.c (.bool false)))))]
def body : Blk := (.seq (.reg r0) (.seq (.post (.reg r1) [.frz 3]) (.seq (.post (.reg r2) [.frz 5]) (.seq (.seq (.reg r3) (.block 0 k0)) (.seq (.seq (.reg r8) (.block 2 k2)) (.seq (.reg r14) .ret))))))
def fi : FI := { nt := 43, na := 1, body := body, res := [(.tmp 2, [])] }
end effect_turns
namespace arith_Traps
def r0 : List (Nat × RStep) := [
  c 0 2 (.q (.mv (.k (.c (.bool false)))))]
def r1 : List (Nat × RStep) := [
  c 0 3 (.q (.mv (.t 0))),
  c 1 4 (.q (.bin .eql (.t 3) (.k (.c (.int .i64 11))))),
  c 2 2 (.q (.mv (.t 4)))]
def body : Blk := (.seq (.reg r0) (.seq (.reg r1) .ret))
def fi : FI := { nt := 5, na := 1, body := body, res := [(.tmp 2, [])] }
end arith_Traps
namespace effect_instr
def r0 : List (Nat × RStep) := [
  c 0 1 (.boxr (.t 0)),
  c 1 2 (.m (.alloc [.bool false, .bool false, .bool false, .bool false, .bool false]))]
def r1 : List (Nat × RStep) := [
  c 0 5 (.q (.fld 0 (.t 1))),
  c 1 6 (.q (.load false 1 (.t 5))),
  c 2 7 (.q (.bin .eql (.t 6) (.k (.c (.int .i64 15))))),
  c 3 8 (.q (.fld 0 (.t 1))),
  c 4 9 (.q (.load false 1 (.t 8))),
  c 5 10 (.q (.bin .eql (.t 9) (.k (.c (.int .i64 16))))),
  c 6 3 (.q (.mv (.t 7))),
  c 7 4 (.q (.mv (.t 10)))]
def r2 : List (Nat × RStep) := [
  c 0 11 (.q (.mv (.t 3))),
  c 1 12 (.q (.mv (.t 4))),
  c 2 13 (.q (.fld 0 (.t 1))),
  c 3 14 (.q (.load false 1 (.t 13))),
  c 4 15 (.q (.bin .eql (.t 14) (.k (.c (.int .i64 18))))),
  c 5 16 (.q (.mv (.t 3))),
  c 6 17 (.q (.mv (.t 16))),
  cg 7 18 17 false (.q (.mv (.t 4))),
  c 8 19 (.q (.pick (.t 17) (.k (.c (.bool true))) (.t 18))),
  c 9 20 (.q (.mv (.t 19))),
  cg 10 21 20 false (.q (.fld 0 (.t 1))),
  cg 11 22 20 false (.q (.load false 1 (.t 21))),
  cg 12 23 20 false (.call F.arith_Traps [(.t 22)]),
  c 13 24 (.q (.pick (.t 20) (.k (.c (.bool true))) (.t 23))),
  c 14 25 (.q (.build [.bool false, .bool false, .bool false, .bool false, .bool false] [(0, 1, (.t 11)), (1, 1, (.t 12)), (2, 1, (.t 15)), (3, 1, (.t 24))])),
  v 15 (.st false 5 [] (.t 2) (.t 25))]
def body : Blk := (.seq (.reg r0) (.seq (.reg r1) (.seq (.reg r2) .ret)))
def fi : FI := { nt := 26, na := 1, body := body, res := [(.cell 2 true 5, [])] }
end effect_instr
namespace effect_own
def r0 : List (Nat × RStep) := [
  c 0 1 (.boxr (.t 0)),
  c 1 2 (.m (.alloc [.bool false, .bool false, .bool false, .bool false, .bool false])),
  c 2 3 (.q (.mv (.k (.c .z))))]
def r1 : List (Nat × RStep) := [
  c 0 10 (.q (.load true 4 (.t 1))),
  c 1 11 (.call F.effect_turns [(.t 10)]),
  c 2 12 (.q (.build [.bool false, .bool false, .bool false, .bool false, .bool false] [(4, 1, (.t 11))])),
  c 3 4 (.m (.alloc [.bool false, .bool false, .bool false, .bool false, .bool false])),
  v 4 (.st false 5 [] (.t 4) (.t 12))]
def r2 : List (Nat × RStep) := [
  c 0 5 (.q (.mv (.k (.c .z))))]
def r3 : List (Nat × RStep) := [
  c 0 13 (.q (.load true 4 (.t 1))),
  c 1 14 (.call F.graph_Reached [(.t 13)]),
  c 2 15 (.q (.len (.t 14))),
  c 3 16 (.q (.mv (.k (.c (.int .i64 0)))))]
def r4 : List (Nat × RStep) := [
  c 0 17 (.q (.bin .lss (.t 16) (.t 15)))]
def r5 : List (Nat × RStep) := [
  c 0 18 (.q (.mv (.t 16))),
  c 1 19 (.q (.idx 1 (.t 14) (.t 16))),
  c 2 20 (.q (.load false 1 (.t 19))),
  c 3 6 (.q (.mv (.t 18))),
  c 4 7 (.q (.mv (.t 20)))]
def r6 : List (Nat × RStep) := [
  c 0 21 (.q (.mv (.t 7))),
  c 1 22 (.q (.not (.t 21)))]
def r7 : List (Nat × RStep) := [
  c 0 23 (.q (.fld 3 (.t 1))),
  c 1 24 (.q (.load false 1 (.t 23))),
  c 2 25 (.q (.mv (.t 6))),
  c 3 26 (.q (.idx 5 (.t 24) (.t 25))),
  c 4 27 (.q (.fld 1 (.t 26))),
  c 5 28 (.q (.load false 1 (.t 27))),
  c 6 29 (.q (.len (.t 28))),
  c 7 30 (.q (.mv (.k (.c (.int .i64 0)))))]
def r8 : List (Nat × RStep) := [
  c 0 31 (.q (.bin .lss (.t 30) (.t 29)))]
def r9 : List (Nat × RStep) := [
  c 0 32 (.q (.idx 5 (.t 28) (.t 30))),
  c 1 33 (.q (.load true 5 (.t 32))),
  c 2 9 (.m (.alloc [.int .i64 0, .int .i64 0, .ow 1 [], .int .i64 0, .int .i64 0])),
  v 3 (.st false 5 [0, 0, 1] (.t 9) (.t 33))]
def r10 : List (Nat × RStep) := [
  c 0 34 (.q (.load true 5 (.t 4))),
  c 1 35 (.q (.load true 5 (.t 9))),
  c 2 36 (.call F.effect_instr [(.t 35)]),
  c 3 37 (.call F.effect_joined [(.t 34), (.t 36)]),
  v 4 (.st false 5 [] (.t 4) (.t 37))]
def r11 : List (Nat × RStep) := [
  c 0 38 (.q (.fld 0 (.t 9))),
  c 1 39 (.q (.load false 1 (.t 38))),
  c 2 40 (.q (.bin .eql (.t 39) (.k (.c (.int .i64 17)))))]
def r12 : List (Nat × RStep) := [
  c 0 41 (.q (.mv (.t 5))),
  c 1 42 (.q (.fld 4 (.t 9))),
  c 2 43 (.q (.load false 1 (.t 42))),
  c 3 44 (.m (.bsl 1 1 [.int .i64 0] [(0, 1, (.t 43))] [])),
  c 4 45 (.app 1 8 true (.t 41) (.t 44)),
  c 5 5 (.q (.mv (.t 45)))]
def k3 : Blk := (.seq (.post (.reg r9) [.frz 9]) (.seq (.reg r10) (.seq (.reg r11) (.cond (.t 40) (.reg r12) .skip))))
def r13 : List (Nat × RStep) := [
  c 0 46 (.q (.bin .add (.t 30) (.k (.c (.int .i64 1))))),
  c 1 30 (.q (.mv (.t 46)))]
def w0 : Blk := (.seq (.reg r8) (.seq (.cond (.t 31) .skip (.exit 2)) (.seq (.block 3 k3) (.reg r13))))
def k2 : Blk := (.loop w0)
def k1 : Blk := (.seq (.reg r5) (.seq (.seq (.reg r6) (.cond (.t 22) (.exit 1) .skip)) (.seq (.reg r7) (.block 2 k2))))
def r14 : List (Nat × RStep) := [
  c 0 47 (.q (.bin .add (.t 16) (.k (.c (.int .i64 1))))),
  c 1 16 (.q (.mv (.t 47)))]
def w1 : Blk := (.seq (.reg r4) (.seq (.cond (.t 17) .skip (.exit 0)) (.seq (.block 1 k1) (.reg r14))))
def k0 : Blk := (.loop w1)
def r15 : List (Nat × RStep) := [
  c 0 48 (.q (.load true 5 (.t 4))),
  c 1 49 (.q (.mv (.t 5))),
  v 2 (.st false 5 [] (.t 2) (.t 48)),
  c 3 3 (.q (.mv (.t 49)))]
def body : Blk := (.seq (.reg r0) (.seq (.reg r1) (.seq (.post (.reg r2) [.zsl 5 1]) (.seq (.seq (.post (.reg r3) [.frz 14]) (.block 0 k0)) (.seq (.reg r15) .ret)))))
def fi : FI := { nt := 50, na := 1, body := body, res := [(.cell 2 true 5, []), (.tmp 3, [1])] }
end effect_own
namespace calls_finder_visit
def r0 : List (Nat × RStep) := [
  c 0 10 (.q (.mv (.t 0))),
  c 1 11 (.q (.nilck (.t 10))),
  c 2 12 (.q (.fld 6 (.t 11))),
  c 3 13 (.q (.load false 1 (.t 12))),
  c 4 14 (.q (.bin .add (.t 13) (.k (.c (.int .i64 1))))),
  c 5 15 (.q (.nilck (.t 10))),
  c 6 16 (.q (.fld 6 (.t 15))),
  v 7 (.st false 1 [] (.t 16) (.t 14))]
def r1 : List (Nat × RStep) := [
  c 0 17 (.q (.mv (.t 0))),
  c 1 18 (.q (.nilck (.t 17))),
  c 2 19 (.q (.fld 1 (.t 18))),
  c 3 20 (.q (.load false 1 (.t 19))),
  c 4 21 (.q (.mv (.t 1))),
  c 5 22 (.q (.mv (.t 0))),
  c 6 23 (.q (.nilck (.t 22))),
  c 7 24 (.q (.fld 2 (.t 23))),
  c 8 25 (.q (.load false 1 (.t 24))),
  c 9 26 (.q (.mv (.t 1))),
  c 10 27 (.q (.mv (.t 0))),
  c 11 28 (.q (.nilck (.t 27))),
  c 12 29 (.q (.fld 6 (.t 28))),
  c 13 30 (.q (.load false 1 (.t 29))),
  c 14 31 (.q (.mv (.t 0))),
  c 15 32 (.q (.nilck (.t 31))),
  c 16 33 (.q (.fld 6 (.t 32))),
  c 17 34 (.q (.load false 1 (.t 33))),
  c 18 35 (.q (.idx 1 (.t 20) (.t 21))),
  v 19 (.st false 1 [] (.t 35) (.t 30)),
  c 20 36 (.q (.idx 1 (.t 25) (.t 26))),
  v 21 (.st false 1 [] (.t 36) (.t 34))]
def r2 : List (Nat × RStep) := [
  c 0 37 (.q (.mv (.t 0))),
  c 1 38 (.q (.mv (.t 0))),
  c 2 39 (.qk 1 (.nilck (.t 38))),
  c 3 40 (.qk 1 (.fld 3 (.t 39))),
  c 4 41 (.qk 1 (.load false 1 (.t 40))),
  c 5 42 (.q (.mv (.t 1))),
  c 6 43 (.q (.mv (.t 0))),
  c 7 44 (.q (.nilck (.t 43))),
  c 8 45 (.q (.fld 4 (.t 44))),
  c 9 46 (.q (.load false 1 (.t 45))),
  c 10 47 (.q (.mv (.t 1))),
  c 11 48 (.bslp 1 1 [.int .i64 0] [(0, 1, (.t 47))]),
  c 12 49 (.app 1 8 true (.t 46) (.t 48)),
  c 13 50 (.q (.nilck (.t 37))),
  c 14 51 (.q (.fld 4 (.t 50))),
  v 15 (.st false 1 [1] (.t 51) (.t 49)),
  c 16 52 (.q (.idx 1 (.t 41) (.t 42))),
  v 17 (.st false 1 [] (.t 52) (.k (.c (.bool true))))]
def r3 : List (Nat × RStep) := [
  c 0 53 (.q (.mv (.t 0))),
  c 1 54 (.q (.nilck (.t 53))),
  c 2 55 (.q (.fld 0 (.t 54))),
  c 3 56 (.q (.load false 1 (.t 55))),
  c 4 57 (.q (.mv (.t 1))),
  c 5 58 (.q (.idx 1 (.t 56) (.t 57))),
  c 6 59 (.q (.load false 1 (.t 58))),
  c 7 60 (.q (.len (.t 59))),
  c 8 61 (.q (.mv (.k (.c (.int .i64 0)))))]
def r4 : List (Nat × RStep) := [
  c 0 62 (.q (.bin .lss (.t 61) (.t 60)))]
def r5 : List (Nat × RStep) := [
  c 0 63 (.q (.idx 1 (.t 59) (.t 61))),
  c 1 64 (.q (.load false 1 (.t 63))),
  c 2 5 (.q (.mv (.t 64)))]
def r6 : List (Nat × RStep) := [
  c 0 66 (.q (.mv (.t 0))),
  c 1 67 (.q (.nilck (.t 66))),
  c 2 68 (.q (.fld 1 (.t 67))),
  c 3 69 (.q (.load false 1 (.t 68))),
  c 4 70 (.q (.mv (.t 5))),
  c 5 71 (.q (.idx 1 (.t 69) (.t 70))),
  c 6 72 (.q (.load false 1 (.t 71))),
  c 7 73 (.q (.bin .eql (.t 72) (.k (.c (.int .i64 0))))),
  c 8 65 (.q (.mv (.t 73)))]
def r7 : List (Nat × RStep) := [
  c 0 74 (.q (.mv (.t 0))),
  c 1 75 (.q (.mv (.t 5))),
  c 2 76 (.calll F.calls_finder_visit [(.t 74), (.t 75)] [])]
def r8 : List (Nat × RStep) := [
  c 0 77 (.q (.mv (.t 0))),
  c 1 78 (.q (.nilck (.t 77))),
  c 2 79 (.q (.fld 2 (.t 78))),
  c 3 80 (.q (.load false 1 (.t 79))),
  c 4 81 (.q (.mv (.t 1))),
  c 5 82 (.q (.mv (.t 0))),
  c 6 83 (.q (.nilck (.t 82))),
  c 7 84 (.q (.fld 2 (.t 83))),
  c 8 85 (.q (.load false 1 (.t 84))),
  c 9 86 (.q (.mv (.t 1))),
  c 10 87 (.q (.idx 1 (.t 85) (.t 86))),
  c 11 88 (.q (.load false 1 (.t 87))),
  c 12 89 (.q (.mv (.t 0))),
  c 13 90 (.q (.nilck (.t 89))),
  c 14 91 (.q (.fld 2 (.t 90))),
  c 15 92 (.q (.load false 1 (.t 91))),
  c 16 93 (.q (.mv (.t 5))),
  c 17 94 (.q (.idx 1 (.t 92) (.t 93))),
  c 18 95 (.q (.load false 1 (.t 94))),
  c 19 96 (.q (.min (.t 88) (.t 95))),
  c 20 97 (.q (.idx 1 (.t 80) (.t 81))),
  v 21 (.st false 1 [] (.t 97) (.t 96))]
def r9 : List (Nat × RStep) := [
  c 0 99 (.q (.mv (.t 0))),
  c 1 100 (.q (.nilck (.t 99))),
  c 2 101 (.q (.fld 3 (.t 100))),
  c 3 102 (.q (.load false 1 (.t 101))),
  c 4 103 (.q (.mv (.t 5))),
  c 5 104 (.q (.idx 1 (.t 102) (.t 103))),
  c 6 105 (.q (.load false 1 (.t 104))),
  c 7 98 (.q (.mv (.t 105)))]
def r10 : List (Nat × RStep) := [
  c 0 106 (.q (.mv (.t 0))),
  c 1 107 (.q (.nilck (.t 106))),
  c 2 108 (.q (.fld 2 (.t 107))),
  c 3 109 (.q (.load false 1 (.t 108))),
  c 4 110 (.q (.mv (.t 1))),
  c 5 111 (.q (.mv (.t 0))),
  c 6 112 (.q (.nilck (.t 111))),
  c 7 113 (.q (.fld 2 (.t 112))),
  c 8 114 (.q (.load false 1 (.t 113))),
  c 9 115 (.q (.mv (.t 1))),
  c 10 116 (.q (.idx 1 (.t 114) (.t 115))),
  c 11 117 (.q (.load false 1 (.t 116))),
  c 12 118 (.q (.mv (.t 0))),
  c 13 119 (.q (.nilck (.t 118))),
  c 14 120 (.q (.fld 1 (.t 119))),
  c 15 121 (.q (.load false 1 (.t 120))),
  c 16 122 (.q (.mv (.t 5))),
  c 17 123 (.q (.idx 1 (.t 121) (.t 122))),
  c 18 124 (.q (.load false 1 (.t 123))),
  c 19 125 (.q (.min (.t 117) (.t 124))),
  c 20 126 (.q (.idx 1 (.t 109) (.t 110))),
  v 21 (.st false 1 [] (.t 126) (.t 125))]
def k2 : Blk := (.seq (.reg r6) (.cond (.t 65) (.seq (.reg r7) (.gh [.fld 190 2 (.t 0), .opn 191 (.t 190)] (.post (.reg r8) [.cls (.t 79)]))) (.seq (.reg r9) (.cond (.t 98) (.gh [.fld 190 2 (.t 0), .opn 191 (.t 190)] (.post (.reg r10) [.cls (.t 108)])) .skip))))
def k1 : Blk := (.seq (.reg r5) (.block 2 k2))
def r11 : List (Nat × RStep) := [
  c 0 127 (.q (.bin .add (.t 61) (.k (.c (.int .i64 1))))),
  c 1 61 (.q (.mv (.t 127)))]
def w0 : Blk := (.seq (.reg r4) (.seq (.cond (.t 62) .skip (.exit 0)) (.seq (.block 1 k1) (.reg r11))))
def k0 : Blk := (.loop w0)
def r12 : List (Nat × RStep) := [
  c 0 128 (.q (.mv (.t 0))),
  c 1 129 (.q (.nilck (.t 128))),
  c 2 130 (.q (.fld 2 (.t 129))),
  c 3 131 (.q (.load false 1 (.t 130))),
  c 4 132 (.q (.mv (.t 1))),
  c 5 133 (.q (.idx 1 (.t 131) (.t 132))),
  c 6 134 (.q (.load false 1 (.t 133))),
  c 7 135 (.q (.mv (.t 0))),
  c 8 136 (.q (.nilck (.t 135))),
  c 9 137 (.q (.fld 1 (.t 136))),
  c 10 138 (.q (.load false 1 (.t 137))),
  c 11 139 (.q (.mv (.t 1))),
  c 12 140 (.q (.idx 1 (.t 138) (.t 139))),
  c 13 141 (.q (.load false 1 (.t 140))),
  c 14 142 (.q (.bin .neq (.t 134) (.t 141)))]
def r13 : List (Nat × RStep) := [
  c 0 143 (.q (.mv (.t 0))),
  c 1 144 (.q (.nilck (.t 143))),
  c 2 145 (.q (.fld 4 (.t 144))),
  c 3 146 (.q (.load false 1 (.t 145))),
  c 4 147 (.q (.mv (.t 1))),
  c 5 148 (.call F.slices_Index_int_int [(.t 146), (.t 147)]),
  c 6 6 (.q (.mv (.t 148)))]
def r14 : List (Nat × RStep) := [
  c 0 149 (.q (.mv (.t 0))),
  c 1 150 (.q (.nilck (.t 149))),
  c 2 151 (.q (.fld 4 (.t 150))),
  c 3 152 (.q (.load false 1 (.t 151))),
  c 4 153 (.q (.mv (.t 6))),
  c 5 154 (.q (.slc 1 (.t 152) (some (.t 153)) none)),
  c 6 155 (.call F.slices_Clone_int_int [(.t 154)]),
  c 7 7 (.q (.mv (.t 155)))]
def r15 : List (Nat × RStep) := [
  c 0 156 (.q (.mv (.t 0))),
  c 1 157 (.q (.mv (.t 0))),
  c 2 158 (.q (.nilck (.t 157))),
  c 3 159 (.q (.fld 4 (.t 158))),
  c 4 160 (.q (.load false 1 (.t 159))),
  c 5 161 (.q (.mv (.t 6))),
  c 6 162 (.q (.slc 1 (.t 160) none (some (.t 161)))),
  c 7 163 (.q (.nilck (.t 156))),
  c 8 164 (.q (.fld 4 (.t 163))),
  v 9 (.st false 1 [1] (.t 164) (.t 162))]
def r16 : List (Nat × RStep) := [
  c 0 165 (.q (.mv (.t 7))),
  c 1 166 (.q (.len (.t 165))),
  c 2 167 (.q (.mv (.k (.c (.int .i64 0)))))]
def r17 : List (Nat × RStep) := [
  c 0 168 (.q (.bin .lss (.t 167) (.t 166)))]
def r18 : List (Nat × RStep) := [
  c 0 169 (.q (.idx 1 (.t 165) (.t 167))),
  c 1 170 (.q (.load false 1 (.t 169))),
  c 2 9 (.q (.mv (.t 170)))]
def r19 : List (Nat × RStep) := [
  c 0 171 (.q (.mv (.t 0))),
  c 1 172 (.q (.nilck (.t 171))),
  c 2 173 (.q (.fld 3 (.t 172))),
  c 3 174 (.q (.load false 1 (.t 173))),
  c 4 175 (.q (.mv (.t 9))),
  c 5 176 (.q (.idx 1 (.t 174) (.t 175))),
  v 6 (.st false 1 [] (.t 176) (.k (.c (.bool false))))]
def k4 : Blk := (.seq (.reg r18) (.gh [.fld 190 3 (.t 0), .opn 191 (.t 190)] (.post (.reg r19) [.cls (.t 173)])))
def r20 : List (Nat × RStep) := [
  c 0 177 (.q (.bin .add (.t 167) (.k (.c (.int .i64 1))))),
  c 1 167 (.q (.mv (.t 177)))]
def w1 : Blk := (.seq (.reg r17) (.seq (.cond (.t 168) .skip (.exit 3)) (.seq (.block 4 k4) (.reg r20))))
def k3 : Blk := (.loop w1)
def r21 : List (Nat × RStep) := [
  c 0 178 (.q (.mv (.t 7))),
  c 1 179 (.calll F.slices_Sort_int_int [(.t 178)] [])]
def r22 : List (Nat × RStep) := [
  c 0 180 (.q (.mv (.t 0))),
  c 1 181 (.q (.mv (.t 0))),
  c 2 182 (.q (.nilck (.t 181))),
  c 3 183 (.q (.fld 5 (.t 182))),
  c 4 184 (.q (.load false 1 (.t 183))),
  c 5 185 (.q (.mv (.t 7))),
  c 6 186 (.m (.bsl 1 1 [.ow 1 []] [(0, 1, (.t 185))] [1])),
  c 7 187 (.app 1 24 true (.t 184) (.t 186)),
  c 8 188 (.q (.nilck (.t 180))),
  c 9 189 (.q (.fld 5 (.t 188))),
  v 10 (.st false 1 [1] (.t 189) (.t 187))]
def body : Blk := (.seq (.reg r0) (.seq (.gh [.fld 190 1 (.t 0), .opn 191 (.t 190), .fld 192 2 (.t 0), .opn 193 (.t 192)] (.post (.reg r1) [.cls (.t 19), .cls (.t 24)])) (.seq (.gh [.fld 190 3 (.t 0), .opn 191 (.t 190), .fld 192 4 (.t 0), .opn 193 (.t 192)] (.post (.reg r2) [.cls (.t 40)])) (.seq (.seq (.reg r3) (.block 0 k0)) (.seq (.seq (.reg r12) (.cond (.t 142) .ret .skip)) (.seq (.reg r13) (.seq (.gh [.fld 190 4 (.t 0), .opn 191 (.t 190)] (.post (.reg r14) [.cls (.t 145)])) (.seq (.gh [.fld 190 4 (.t 0), .opn 191 (.t 190)] (.reg r15)) (.seq (.seq (.reg r16) (.block 3 k3)) (.seq (.reg r21) (.gh [.fld 190 5 (.t 0), .opn 191 (.t 190)] (.reg r22))))))))))))
def fi : FI := { nt := 190, na := 2, body := body, res := [] }
end calls_finder_visit
namespace calls_found
def r0 : List (Nat × RStep) := [
  c 0 1 (.boxr (.t 0)),
  c 1 2 (.q (.mv (.k (.c .z))))]
def r1 : List (Nat × RStep) := [
  c 0 6 (.q (.fld 0 (.t 1))),
  c 1 7 (.q (.load false 1 (.t 6))),
  c 2 8 (.q (.len (.t 7))),
  c 3 3 (.q (.mv (.t 8)))]
def r2 : List (Nat × RStep) := [
  c 0 9 (.q (.load true 1 (.t 1))),
  c 2 11 (.q (.mv (.t 3))),
  c 4 13 (.q (.mv (.t 3))),
  c 6 15 (.q (.mv (.t 3))),
  c 1 10 (.call F.calls_Calls [(.t 9)]),
  c 3 12 (.m (.mks 8 [.int .i64 0] (.t 11))),
  c 5 14 (.m (.mks 8 [.int .i64 0] (.t 13))),
  c 7 16 (.m (.mks 1 [.bool false] (.t 15))),
  c 8 17 (.q (.build [.z, .z, .z, .z, .z, .z, .int .i64 0] [(0, 1, (.t 10)), (1, 1, (.t 12)), (2, 1, (.t 14)), (3, 1, (.t 16))])),
  c 9 18 (.m (.box [1, 1, 1, 1, 1, 1] (.t 17))),
  c 10 4 (.q (.mv (.t 18)))]
def r3 : List (Nat × RStep) := [
  c 0 19 (.q (.mv (.t 3))),
  c 1 20 (.q (.mv (.k (.c (.int .i64 0)))))]
def r4 : List (Nat × RStep) := [
  c 0 21 (.q (.bin .lss (.t 20) (.t 19)))]
def r5 : List (Nat × RStep) := [
  c 0 22 (.q (.mv (.t 20))),
  c 1 5 (.q (.mv (.t 22)))]
def r6 : List (Nat × RStep) := [
  c 0 23 (.q (.mv (.t 4))),
  c 1 24 (.q (.nilck (.t 23))),
  c 2 25 (.q (.fld 1 (.t 24))),
  c 3 26 (.q (.load false 1 (.t 25))),
  c 4 27 (.q (.mv (.t 5))),
  c 5 28 (.q (.idx 1 (.t 26) (.t 27))),
  c 6 29 (.q (.load false 1 (.t 28))),
  c 7 30 (.q (.bin .eql (.t 29) (.k (.c (.int .i64 0)))))]
def r7 : List (Nat × RStep) := [
  c 0 31 (.q (.mv (.t 4))),
  c 1 32 (.q (.mv (.t 5))),
  c 2 33 (.calll F.calls_finder_visit [(.t 31), (.t 32)] [])]
def k1 : Blk := (.seq (.reg r5) (.seq (.reg r6) (.cond (.t 30) (.reg r7) .skip)))
def r8 : List (Nat × RStep) := [
  c 0 34 (.q (.bin .add (.t 20) (.k (.c (.int .i64 1))))),
  c 1 20 (.q (.mv (.t 34)))]
def w0 : Blk := (.seq (.reg r4) (.seq (.cond (.t 21) .skip (.exit 0)) (.seq (.block 1 k1) (.reg r8))))
def k0 : Blk := (.loop w0)
def r9 : List (Nat × RStep) := [
  c 0 35 (.q (.mv (.t 4))),
  c 1 36 (.q (.nilck (.t 35))),
  c 2 37 (.q (.fld 5 (.t 36))),
  c 3 38 (.q (.load false 1 (.t 37))),
  c 4 2 (.q (.mv (.t 38)))]
def body : Blk := (.seq (.reg r0) (.seq (.reg r1) (.seq (.reg r2) (.seq (.seq (.gh [.fld 233 0 (.t 4), .frn 133 (.t 233)] (.reg r3)) (.block 0 k0)) (.seq (.gh [.fld 39 5 (.t 4), .opn 40 (.t 39)] (.reg r9)) .ret)))))
def fi : FI := { nt := 39, na := 1, body := body, res := [(.tmp 2, [1])] }
end calls_found
namespace calls_Rings
def r0 : List (Nat × RStep) := [
  c 0 1 (.boxr (.t 0)),
  c 1 2 (.q (.mv (.k (.c .z))))]
def r1 : List (Nat × RStep) := [
  c 0 4 (.q (.load true 1 (.t 1))),
  c 1 5 (.call F.calls_found [(.t 4)]),
  c 2 3 (.q (.mv (.t 5)))]
def r2 : List (Nat × RStep) := [
  c 0 6 (.q (.mv (.t 3))),
  c 1 7 (.calll F.slices_SortFunc_int_int [(.t 6), (.k (.c (.fn F.calls_byFirst [])))] [])]
def r3 : List (Nat × RStep) := [
  c 0 8 (.q (.mv (.t 3))),
  c 1 2 (.q (.mv (.t 8)))]
def body : Blk := (.seq (.reg r0) (.seq (.reg r1) (.seq (.reg r2) (.seq (.reg r3) .ret))))
def fi : FI := { nt := 9, na := 1, body := body, res := [(.tmp 2, [1])] }
end calls_Rings
namespace effect_Effects
def r0 : List (Nat × RStep) := [
  c 0 1 (.boxr (.t 0)),
  c 1 2 (.q (.mv (.k (.c .z)))),
  c 2 3 (.q (.mv (.k (.c .nili))))]
def r1 : List (Nat × RStep) := [
  c 0 19 (.q (.load true 1 (.t 1))),
  c 1 20 (.call F.check_Module [(.t 19)]),
  c 2 4 (.q (.mv (.t 20)))]
def r2 : List (Nat × RStep) := [
  c 0 21 (.q (.mv (.t 4))),
  c 1 22 (.q (.eqi true true TC (.t 21) (.k (.c .nili))))]
def r3 : List (Nat × RStep) := [
  c 0 23 (.q (.mv (.t 4))),
  c 1 2 (.q (.mv (.k (.c .z)))),
  c 2 3 (.q (.mv (.t 23)))]
def r4 : List (Nat × RStep) := [
  c 0 24 (.q (.fld 0 (.t 1))),
  c 1 25 (.q (.load false 1 (.t 24))),
  c 2 26 (.q (.len (.t 25))),
  c 4 28 (.q (.fld 0 (.t 1))),
  c 5 29 (.q (.load false 1 (.t 28))),
  c 6 30 (.q (.len (.t 29))),
  c 3 27 (.m (.mks 5 [.bool false, .bool false, .bool false, .bool false, .bool false] (.t 26))),
  c 8 5 (.q (.mv (.t 27))),
  c 7 31 (.m (.mks 24 [.ow 1 []] (.t 30))),
  c 9 6 (.q (.mv (.t 31)))]
def r5 : List (Nat × RStep) := [
  c 0 32 (.q (.load true 1 (.t 1))),
  c 1 33 (.call F.calls_Calls [(.t 32)]),
  c 2 7 (.q (.mv (.t 33)))]
def r6 : List (Nat × RStep) := [
  c 0 34 (.q (.fld 0 (.t 1))),
  c 1 35 (.q (.load false 1 (.t 34))),
  c 2 36 (.q (.len (.t 35))),
  c 3 37 (.q (.mv (.k (.c (.int .i64 0)))))]
def r7 : List (Nat × RStep) := [
  c 0 38 (.q (.bin .lss (.t 37) (.t 36)))]
def r8 : List (Nat × RStep) := [
  c 0 39 (.q (.mv (.t 37))),
  c 1 40 (.q (.idx 4 (.t 35) (.t 37))),
  c 2 41 (.q (.load true 4 (.t 40))),
  c 3 9 (.m (.alloc [.int .i64 0, .int .i64 0, .ow 1 [], .ow 5 []])),
  c 4 8 (.q (.mv (.t 39))),
  v 5 (.st false 4 [0, 0, 1, 5] (.t 9) (.t 41))]
def r9 : List (Nat × RStep) := [
  c 0 43 (.q (.mv (.t 5))),
  c 1 44 (.q (.mv (.t 8))),
  c 2 45 (.q (.mv (.t 6))),
  c 3 46 (.q (.mv (.t 8))),
  c 4 47 (.q (.load true 4 (.t 9))),
  c 5 48 (.call F.effect_own [(.t 47)]),
  c 6 42 (.q (.mv (.t 48))),
  c 7 49 (.q (.ext (.t 42) 0)),
  c 8 50 (.q (.ext (.t 42) 1)),
  c 9 51 (.q (.idx 5 (.t 43) (.t 44))),
  v 10 (.st false 5 [] (.t 51) (.t 49)),
  c 11 52 (.q (.idx 1 (.t 45) (.t 46))),
  v 12 (.st false 1 [1] (.t 52) (.t 50))]
def k1 : Blk := (.seq (.post (.reg r8) [.frz 9]) (.reg r9))
def r10 : List (Nat × RStep) := [
  c 0 53 (.q (.bin .add (.t 37) (.k (.c (.int .i64 1))))),
  c 1 37 (.q (.mv (.t 53)))]
def w0 : Blk := (.seq (.reg r7) (.seq (.cond (.t 38) .skip (.exit 0)) (.seq (.block 1 k1) (.reg r10))))
def k0 : Blk := (.loop w0)
def r11 : List (Nat × RStep) := [
  c 0 54 (.q (.load true 1 (.t 1))),
  c 1 55 (.call F.calls_Rings [(.t 54)]),
  c 2 56 (.q (.len (.t 55))),
  c 3 57 (.q (.mv (.k (.c (.int .i64 0)))))]
def r12 : List (Nat × RStep) := [
  c 0 58 (.q (.bin .lss (.t 57) (.t 56)))]
def r13 : List (Nat × RStep) := [
  c 0 59 (.q (.idx 1 (.t 55) (.t 57))),
  c 1 60 (.q (.load false 1 (.t 59))),
  c 2 11 (.q (.mv (.t 60)))]
def r14 : List (Nat × RStep) := [
  c 0 61 (.q (.mv (.t 11))),
  c 1 62 (.q (.len (.t 61))),
  c 2 63 (.q (.bin .gtr (.t 62) (.k (.c (.int .i64 1))))),
  c 3 64 (.q (.mv (.t 63))),
  cg 4 65 64 false (.q (.mv (.t 7))),
  cg 5 66 64 false (.q (.mv (.t 11))),
  cg 6 67 64 false (.q (.idx 1 (.t 66) (.k (.c (.int .i64 0))))),
  cg 7 68 64 false (.q (.load false 1 (.t 67))),
  cg 8 69 64 false (.q (.idx 1 (.t 65) (.t 68))),
  cg 9 70 64 false (.q (.load false 1 (.t 69))),
  cg 10 71 64 false (.q (.mv (.t 11))),
  cg 11 72 64 false (.q (.idx 1 (.t 71) (.k (.c (.int .i64 0))))),
  cg 12 73 64 false (.q (.load false 1 (.t 72))),
  cg 13 74 64 false (.call F.slices_Contains_int_int [(.t 70), (.t 73)]),
  c 14 75 (.q (.pick (.t 64) (.k (.c (.bool true))) (.t 74)))]
def r15 : List (Nat × RStep) := [
  c 0 76 (.q (.mv (.t 11))),
  c 1 77 (.q (.len (.t 76))),
  c 2 78 (.q (.mv (.k (.c (.int .i64 0)))))]
def r16 : List (Nat × RStep) := [
  c 0 79 (.q (.bin .lss (.t 78) (.t 77)))]
def r17 : List (Nat × RStep) := [
  c 0 80 (.q (.idx 1 (.t 76) (.t 78))),
  c 1 81 (.q (.load false 1 (.t 80))),
  c 2 13 (.q (.mv (.t 81)))]
def r18 : List (Nat × RStep) := [
  c 0 82 (.q (.mv (.t 5))),
  c 1 83 (.q (.mv (.t 13))),
  c 2 84 (.q (.idx 5 (.t 82) (.t 83))),
  c 3 85 (.q (.fld 4 (.t 84))),
  v 4 (.st false 1 [] (.t 85) (.k (.c (.bool true))))]
def k5 : Blk := (.seq (.reg r17) (.reg r18))
def r19 : List (Nat × RStep) := [
  c 0 86 (.q (.bin .add (.t 78) (.k (.c (.int .i64 1))))),
  c 1 78 (.q (.mv (.t 86)))]
def w1 : Blk := (.seq (.reg r16) (.seq (.cond (.t 79) .skip (.exit 4)) (.seq (.block 5 k5) (.reg r19))))
def k4 : Blk := (.loop w1)
def k3 : Blk := (.seq (.reg r13) (.seq (.reg r14) (.cond (.t 75) (.seq (.reg r15) (.block 4 k4)) .skip)))
def r20 : List (Nat × RStep) := [
  c 0 87 (.q (.bin .add (.t 57) (.k (.c (.int .i64 1))))),
  c 1 57 (.q (.mv (.t 87)))]
def w2 : Blk := (.seq (.reg r12) (.seq (.cond (.t 58) .skip (.exit 2)) (.seq (.block 3 k3) (.reg r20))))
def k2 : Blk := (.loop w2)
def r21 : List (Nat × RStep) := [
  c 0 14 (.q (.mv (.k (.c (.bool true)))))]
def r22 : List (Nat × RStep) := [
  c 0 88 (.q (.mv (.t 14)))]
def r23 : List (Nat × RStep) := [
  c 0 14 (.q (.mv (.k (.c (.bool false)))))]
def r24 : List (Nat × RStep) := [
  c 0 89 (.q (.mv (.t 5))),
  c 1 90 (.q (.len (.t 89))),
  c 2 91 (.q (.mv (.k (.c (.int .i64 0)))))]
def r25 : List (Nat × RStep) := [
  c 0 92 (.q (.bin .lss (.t 91) (.t 90)))]
def r26 : List (Nat × RStep) := [
  c 0 93 (.q (.mv (.t 91))),
  c 1 15 (.q (.mv (.t 93)))]
def r27 : List (Nat × RStep) := [
  c 0 94 (.q (.mv (.t 5))),
  c 1 95 (.q (.mv (.t 15))),
  c 2 96 (.q (.idx 5 (.t 94) (.t 95))),
  c 3 97 (.q (.load true 5 (.t 96))),
  c 4 16 (.m (.alloc [.bool false, .bool false, .bool false, .bool false, .bool false])),
  v 5 (.st false 5 [] (.t 16) (.t 97))]
def r28 : List (Nat × RStep) := [
  c 0 98 (.q (.mv (.t 6))),
  c 1 99 (.q (.mv (.t 15))),
  c 2 100 (.q (.idx 1 (.t 98) (.t 99))),
  c 3 101 (.q (.load false 1 (.t 100))),
  c 4 102 (.q (.len (.t 101))),
  c 5 103 (.q (.mv (.k (.c (.int .i64 0)))))]
def r29 : List (Nat × RStep) := [
  c 0 104 (.q (.bin .lss (.t 103) (.t 102)))]
def r30 : List (Nat × RStep) := [
  c 0 105 (.q (.idx 1 (.t 101) (.t 103))),
  c 1 106 (.q (.load false 1 (.t 105))),
  c 2 18 (.q (.mv (.t 106)))]
def r31 : List (Nat × RStep) := [
  c 0 107 (.q (.load true 5 (.t 16))),
  c 1 108 (.q (.mv (.t 5))),
  c 2 109 (.q (.mv (.t 18))),
  c 3 110 (.q (.idx 5 (.t 108) (.t 109))),
  c 4 111 (.q (.load true 5 (.t 110))),
  c 5 112 (.call F.effect_joined [(.t 107), (.t 111)]),
  v 6 (.st false 5 [] (.t 16) (.t 112))]
def k11 : Blk := (.seq (.reg r30) (.reg r31))
def r32 : List (Nat × RStep) := [
  c 0 113 (.q (.bin .add (.t 103) (.k (.c (.int .i64 1))))),
  c 1 103 (.q (.mv (.t 113)))]
def w3 : Blk := (.seq (.reg r29) (.seq (.cond (.t 104) .skip (.exit 10)) (.seq (.block 11 k11) (.reg r32))))
def k10 : Blk := (.loop w3)
def r33 : List (Nat × RStep) := [
  c 0 114 (.q (.mv (.t 14))),
  c 1 115 (.q (.mv (.t 114))),
  cg 2 116 115 false (.q (.load true 5 (.t 16))),
  cg 3 117 115 false (.q (.mv (.t 5))),
  cg 4 118 115 false (.q (.mv (.t 15))),
  cg 5 119 115 false (.q (.idx 5 (.t 117) (.t 118))),
  cg 6 120 115 false (.q (.load true 5 (.t 119))),
  cg 7 121 115 false (.q (.eqa true [false, false, false, false, false] (.t 116) (.t 120))),
  c 8 122 (.q (.pick (.t 115) (.k (.c (.bool true))) (.t 121))),
  c 9 14 (.q (.mv (.t 122)))]
def r34 : List (Nat × RStep) := [
  c 0 123 (.q (.mv (.t 5))),
  c 1 124 (.q (.mv (.t 15))),
  c 2 125 (.q (.load true 5 (.t 16))),
  c 3 126 (.q (.idx 5 (.t 123) (.t 124))),
  v 4 (.st false 5 [] (.t 126) (.t 125))]
def k9 : Blk := (.seq (.reg r26) (.seq (.reg r27) (.seq (.seq (.reg r28) (.block 10 k10)) (.seq (.reg r33) (.reg r34)))))
def r35 : List (Nat × RStep) := [
  c 0 127 (.q (.bin .add (.t 91) (.k (.c (.int .i64 1))))),
  c 1 91 (.q (.mv (.t 127)))]
def w4 : Blk := (.seq (.reg r25) (.seq (.cond (.t 92) .skip (.exit 8)) (.seq (.block 9 k9) (.reg r35))))
def k8 : Blk := (.loop w4)
def k7 : Blk := (.seq (.reg r23) (.seq (.reg r24) (.block 8 k8)))
def w5 : Blk := (.seq (.seq (.reg r22) (.cond (.t 88) .skip (.exit 6))) (.block 7 k7))
def k6 : Blk := (.loop w5)
def r36 : List (Nat × RStep) := [
  c 0 128 (.q (.mv (.t 5))),
  c 1 2 (.q (.mv (.t 128))),
  c 2 3 (.q (.mv (.k (.c .nili))))]
def body : Blk := (.seq (.reg r0) (.seq (.seq (.reg r1) (.seq (.reg r2) (.cond (.t 22) (.seq (.reg r3) .ret) .skip))) (.seq (.reg r4) (.seq (.post (.reg r5) [.frz 7]) (.seq (.seq (.reg r6) (.block 0 k0)) (.seq (.seq (.gh [.frz 6] (.post (.reg r11) [.frz 55])) (.block 2 k2)) (.seq (.seq (.reg r21) (.block 6 k6)) (.seq (.reg r36) .ret))))))))
def fi : FI := { nt := 129, na := 1, body := body, res := [(.tmp 2, [5]), (.tmp 3, [])] }
end effect_Effects
namespace effect_Quiet
def r0 : List (Nat × RStep) := [
  c 0 1 (.boxr (.t 0)),
  c 1 2 (.q (.mv (.k (.c (.bool false)))))]
def r1 : List (Nat × RStep) := [
  c 0 3 (.q (.fld 1 (.t 1))),
  c 1 4 (.q (.load false 1 (.t 3))),
  c 2 5 (.q (.not (.t 4))),
  c 3 6 (.q (.mv (.t 5))),
  cg 4 7 6 true (.q (.fld 2 (.t 1))),
  cg 5 8 6 true (.q (.load false 1 (.t 7))),
  cg 6 9 6 true (.q (.not (.t 8))),
  c 7 10 (.q (.pick (.t 6) (.t 9) (.k (.c (.bool false))))),
  c 8 11 (.q (.mv (.t 10))),
  cg 9 12 11 true (.q (.fld 3 (.t 1))),
  cg 10 13 11 true (.q (.load false 1 (.t 12))),
  cg 11 14 11 true (.q (.not (.t 13))),
  c 12 15 (.q (.pick (.t 11) (.t 14) (.k (.c (.bool false))))),
  c 13 16 (.q (.mv (.t 15))),
  cg 14 17 16 true (.q (.fld 4 (.t 1))),
  cg 15 18 16 true (.q (.load false 1 (.t 17))),
  cg 16 19 16 true (.q (.not (.t 18))),
  c 17 20 (.q (.pick (.t 16) (.t 19) (.k (.c (.bool false))))),
  c 18 2 (.q (.mv (.t 20)))]
def body : Blk := (.seq (.reg r0) (.seq (.reg r1) .ret))
def fi : FI := { nt := 21, na := 1, body := body, res := [(.tmp 2, [])] }
end effect_Quiet
namespace effect_Still
def r0 : List (Nat × RStep) := [
  c 0 1 (.boxr (.t 0)),
  c 1 2 (.q (.mv (.k (.c (.bool false)))))]
def r1 : List (Nat × RStep) := [
  c 0 3 (.q (.load true 5 (.t 1))),
  c 1 4 (.call F.effect_Quiet [(.t 3)]),
  c 2 5 (.q (.mv (.t 4))),
  cg 3 6 5 true (.q (.fld 0 (.t 1))),
  cg 4 7 5 true (.q (.load false 1 (.t 6))),
  cg 5 8 5 true (.q (.not (.t 7))),
  c 6 9 (.q (.pick (.t 5) (.t 8) (.k (.c (.bool false))))),
  c 7 2 (.q (.mv (.t 9)))]
def body : Blk := (.seq (.reg r0) (.seq (.reg r1) .ret))
def fi : FI := { nt := 10, na := 1, body := body, res := [(.tmp 2, [])] }
end effect_Still
namespace law15_up
def r0 : List (Nat × RStep) := [
  c 0 0 (.q (.mv (.k (.c (.bool false)))))]
def r1 : List (Nat × RStep) := [
  c 0 4 (.m (.bsl 1 1 [.int .i64 0] [(0, 1, (.k (.c (.int .i64 1))))] [])),
  c 1 5 (.q (.build [.int .i64 0, .int .i64 0, .z] [(0, 1, (.k (.c (.int .i64 3))))])),
  c 2 6 (.q (.build [.z, .z, .int .i64 0, .int .i64 0, .z] [(2, 3, (.t 5))])),
  c 3 7 (.m (.bsl 5 1 [.ow 2 [], .ow 5 [], .int .i64 0, .int .i64 0, .ow 1 []] [(0, 5, (.t 6))] [2, 5, 0, 0, 1])),
  c 4 8 (.q (.build [.int .i64 0, .int .i64 0, .z, .z] [(0, 1, (.k (.c (.int .i64 1)))), (1, 1, (.k (.c (.int .i64 1)))), (2, 1, (.t 4)), (3, 1, (.t 7))])),
  c 5 1 (.m (.alloc [.int .i64 0, .int .i64 0, .ow 1 [], .ow 5 []])),
  v 6 (.st false 4 [0, 0, 1, 5] (.t 1) (.t 8))]
def r2 : List (Nat × RStep) := [
  c 0 10 (.q (.load true 4 (.t 1))),
  c 1 11 (.m (.bsl 4 1 [.int .i64 0, .int .i64 0, .ow 1 [], .ow 5 []] [(0, 4, (.t 10))] [0, 0, 1, 5])),
  c 2 12 (.q (.build [.z] [(0, 1, (.t 11))])),
  c 3 13 (.call F.effect_Effects [(.t 12)]),
  c 4 9 (.q (.mv (.t 13))),
  c 5 14 (.q (.ext (.t 9) 0)),
  c 6 15 (.q (.ext (.t 9) 1)),
  c 7 2 (.q (.mv (.t 14))),
  c 8 3 (.q (.mv (.t 15)))]
def r3 : List (Nat × RStep) := [
  c 0 16 (.q (.mv (.t 3))),
  c 1 17 (.q (.eqi false true TC (.t 16) (.k (.c .nili)))),
  c 2 18 (.q (.mv (.t 17))),
  cg 3 19 18 true (.q (.mv (.t 2))),
  cg 4 20 18 true (.q (.len (.t 19))),
  cg 5 21 18 true (.q (.bin .eql (.t 20) (.k (.c (.int .i64 1))))),
  c 6 22 (.q (.pick (.t 18) (.t 21) (.k (.c (.bool false))))),
  c 7 23 (.q (.mv (.t 22))),
  cg 8 24 23 true (.q (.mv (.t 2))),
  cg 9 25 23 true (.q (.idx 5 (.t 24) (.k (.c (.int .i64 0))))),
  cg 10 26 23 true (.q (.load true 5 (.t 25))),
  cg 11 27 23 true (.q (.build [.bool false, .bool false, .bool false, .bool false, .bool false] [])),
  cg 12 28 23 true (.q (.eqa false [false, false, false, false, false] (.t 26) (.t 27))),
  c 13 29 (.q (.pick (.t 23) (.t 28) (.k (.c (.bool false))))),
  c 14 30 (.q (.mv (.t 29))),
  cg 15 31 30 true (.q (.mv (.t 2))),
  cg 16 32 30 true (.q (.idx 5 (.t 31) (.k (.c (.int .i64 0))))),
  cg 17 33 30 true (.q (.load true 5 (.t 32))),
  cg 18 34 30 true (.call F.effect_Quiet [(.t 33)]),
  c 19 35 (.q (.pick (.t 30) (.t 34) (.k (.c (.bool false))))),
  c 20 36 (.q (.mv (.t 35))),
  cg 21 37 36 true (.q (.mv (.t 2))),
  cg 22 38 36 true (.q (.idx 5 (.t 37) (.k (.c (.int .i64 0))))),
  cg 23 39 36 true (.q (.load true 5 (.t 38))),
  cg 24 40 36 true (.call F.effect_Still [(.t 39)]),
  c 25 41 (.q (.pick (.t 36) (.t 40) (.k (.c (.bool false))))),
  c 26 0 (.q (.mv (.t 41)))]
def body : Blk := (.seq (.reg r0) (.seq (.post (.reg r1) [.frz 1]) (.seq (.post (.reg r2) [.frz 2]) (.seq (.reg r3) .ret))))
def fi : FI := { nt := 42, na := 0, body := body, res := [(.tmp 0, [])] }
end law15_up
namespace ref15_Quiet
def r0 : List (Nat × RStep) := [
  c 0 1 (.boxr (.t 0)),
  c 1 2 (.q (.mv (.k (.c (.bool false)))))]
def r1 : List (Nat × RStep) := [
  c 0 3 (.q (.fld 1 (.t 1))),
  c 1 4 (.q (.load false 1 (.t 3))),
  c 2 5 (.q (.mv (.t 4))),
  cg 3 6 5 false (.q (.fld 2 (.t 1))),
  cg 4 7 5 false (.q (.load false 1 (.t 6))),
  c 5 8 (.q (.pick (.t 5) (.k (.c (.bool true))) (.t 7))),
  c 6 9 (.q (.mv (.t 8))),
  cg 7 10 9 false (.q (.fld 3 (.t 1))),
  cg 8 11 9 false (.q (.load false 1 (.t 10))),
  c 9 12 (.q (.pick (.t 9) (.k (.c (.bool true))) (.t 11))),
  c 10 13 (.q (.mv (.t 12))),
  cg 11 14 13 false (.q (.fld 4 (.t 1))),
  cg 12 15 13 false (.q (.load false 1 (.t 14))),
  c 13 16 (.q (.pick (.t 13) (.k (.c (.bool true))) (.t 15))),
  c 14 17 (.q (.not (.t 16))),
  c 15 2 (.q (.mv (.t 17)))]
def body : Blk := (.seq (.reg r0) (.seq (.reg r1) .ret))
def fi : FI := { nt := 18, na := 1, body := body, res := [(.tmp 2, [])] }
end ref15_Quiet
namespace ref15_Still
def r0 : List (Nat × RStep) := [
  c 0 1 (.boxr (.t 0)),
  c 1 2 (.q (.mv (.k (.c (.bool false)))))]
def r1 : List (Nat × RStep) := [
  c 0 3 (.q (.load true 5 (.t 1))),
  c 1 4 (.call F.ref15_Quiet [(.t 3)]),
  c 2 5 (.q (.mv (.t 4))),
  cg 3 6 5 true (.q (.fld 0 (.t 1))),
  cg 4 7 5 true (.q (.load false 1 (.t 6))),
  cg 5 8 5 true (.q (.not (.t 7))),
  c 6 9 (.q (.pick (.t 5) (.t 8) (.k (.c (.bool false))))),
  c 7 2 (.q (.mv (.t 9)))]
def body : Blk := (.seq (.reg r0) (.seq (.reg r1) .ret))
def fi : FI := { nt := 10, na := 1, body := body, res := [(.tmp 2, [])] }
end ref15_Still
namespace effect_plain
def r0 : List (Nat × RStep) := [
  c 0 1 (.boxr (.t 0)),
  c 1 2 (.q (.mv (.k (.c (.bool false)))))]
def r1 : List (Nat × RStep) := [
  c 0 6 (.q (.fld 0 (.t 1))),
  c 1 7 (.q (.load false 1 (.t 6))),
  c 2 8 (.call F.arith_Args [(.t 7)]),
  c 3 5 (.q (.mv (.t 8))),
  c 4 9 (.q (.ext (.t 5) 0)),
  c 5 10 (.q (.ext (.t 5) 1)),
  c 6 3 (.q (.mv (.t 9))),
  c 7 4 (.q (.mv (.t 10)))]
def r2 : List (Nat × RStep) := [
  c 0 11 (.q (.fld 0 (.t 1))),
  c 1 12 (.q (.load false 1 (.t 11))),
  c 2 13 (.q (.bin .eql (.t 12) (.k (.c (.int .i64 1))))),
  c 3 14 (.q (.mv (.t 13))),
  cg 4 15 14 false (.q (.mv (.t 4))),
  cg 5 16 14 false (.q (.mv (.t 15))),
  cg 6 17 16 true (.q (.fld 0 (.t 1))),
  cg 7 18 16 true (.q (.load false 1 (.t 17))),
  cg 8 19 16 true (.call F.arith_Traps [(.t 18)]),
  cg 9 20 16 true (.q (.not (.t 19))),
  cg 10 21 14 false (.q (.pick (.t 16) (.t 20) (.k (.c (.bool false))))),
  c 11 22 (.q (.pick (.t 14) (.k (.c (.bool true))) (.t 21))),
  c 12 2 (.q (.mv (.t 22)))]
def body : Blk := (.seq (.reg r0) (.seq (.reg r1) (.seq (.reg r2) .ret)))
def fi : FI := { nt := 23, na := 1, body := body, res := [(.tmp 2, [])] }
end effect_plain
namespace effect_Removable
def r0 : List (Nat × RStep) := [
  c 0 2 (.boxr (.t 0)),
  c 1 4 (.q (.mv (.k (.c (.bool false)))))]
def r1 : List (Nat × RStep) := [
  c 0 5 (.q (.load true 5 (.t 2))),
  c 1 6 (.call F.effect_plain [(.t 5)]),
  c 2 7 (.q (.mv (.t 6))),
  cg 3 8 7 false (.q (.fld 0 (.t 2))),
  cg 4 9 7 false (.q (.load false 1 (.t 8))),
  cg 5 10 7 false (.q (.bin .eql (.t 9) (.k (.c (.int .i64 17))))),
  cg 6 11 7 false (.q (.mv (.t 10))),
  cg 7 12 11 true (.q (.fld 4 (.t 2))),
  cg 8 13 11 true (.q (.load false 1 (.t 12))),
  cg 9 14 11 true (.q (.bin .geq (.t 13) (.k (.c (.int .i64 0))))),
  cg 10 15 7 false (.q (.pick (.t 11) (.t 14) (.k (.c (.bool false))))),
  cg 11 16 7 false (.q (.mv (.t 15))),
  cg 12 17 16 true (.q (.fld 4 (.t 2))),
  cg 13 18 16 true (.q (.load false 1 (.t 17))),
  cg 14 19 16 true (.q (.mv (.t 1))),
  cg 15 20 16 true (.q (.len (.t 19))),
  cg 16 21 16 true (.q (.bin .lss (.t 18) (.t 20))),
  cg 17 22 7 false (.q (.pick (.t 16) (.t 21) (.k (.c (.bool false))))),
  cg 18 23 7 false (.q (.mv (.t 22))),
  cg 19 24 23 true (.q (.mv (.t 1))),
  cg 20 25 23 true (.q (.fld 4 (.t 2))),
  cg 21 26 23 true (.q (.load false 1 (.t 25))),
  cg 22 27 23 true (.q (.idx 5 (.t 24) (.t 26))),
  cg 23 28 23 true (.q (.load true 5 (.t 27))),
  cg 24 29 23 true (.call F.effect_Quiet [(.t 28)]),
  cg 25 30 7 false (.q (.pick (.t 23) (.t 29) (.k (.c (.bool false))))),
  c 26 31 (.q (.pick (.t 7) (.k (.c (.bool true))) (.t 30))),
  c 27 4 (.q (.mv (.t 31)))]
def body : Blk := (.seq (.reg r0) (.seq (.reg r1) .ret))
def fi : FI := { nt := 32, na := 2, body := body, res := [(.tmp 4, [])] }
end effect_Removable
namespace ref01_Args
def r0 : List (Nat × RStep) := [
  c 0 2 (.q (.mv (.k (.c (.int .i64 0)))))]
def r1 : List (Nat × RStep) := [
  c 0 3 (.q (.mv (.t 0)))]
def r2 : List (Nat × RStep) := [
  c 0 5 (.q (.bin .eql (.t 3) (.k (.c (.int .i64 2))))),
  c 1 4 (.q (.mv (.t 5)))]
def r3 : List (Nat × RStep) := [
  c 0 6 (.q (.bin .eql (.t 3) (.k (.c (.int .i64 14))))),
  c 1 4 (.q (.mv (.t 6)))]
def r4 : List (Nat × RStep) := [
  c 0 2 (.q (.mv (.k (.c (.int .i64 1)))))]
def r5 : List (Nat × RStep) := [
  c 0 8 (.q (.bin .eql (.t 3) (.k (.c (.int .i64 3))))),
  c 1 7 (.q (.mv (.t 8)))]
def r6 : List (Nat × RStep) := [
  c 0 9 (.q (.bin .eql (.t 3) (.k (.c (.int .i64 4))))),
  c 1 7 (.q (.mv (.t 9)))]
def r7 : List (Nat × RStep) := [
  c 0 10 (.q (.bin .eql (.t 3) (.k (.c (.int .i64 5))))),
  c 1 7 (.q (.mv (.t 10)))]
def r8 : List (Nat × RStep) := [
  c 0 11 (.q (.bin .eql (.t 3) (.k (.c (.int .i64 6))))),
  c 1 7 (.q (.mv (.t 11)))]
def r9 : List (Nat × RStep) := [
  c 0 12 (.q (.bin .eql (.t 3) (.k (.c (.int .i64 7))))),
  c 1 7 (.q (.mv (.t 12)))]
def r10 : List (Nat × RStep) := [
  c 0 13 (.q (.bin .eql (.t 3) (.k (.c (.int .i64 8))))),
  c 1 7 (.q (.mv (.t 13)))]
def r11 : List (Nat × RStep) := [
  c 0 14 (.q (.bin .eql (.t 3) (.k (.c (.int .i64 9))))),
  c 1 7 (.q (.mv (.t 14)))]
def r12 : List (Nat × RStep) := [
  c 0 15 (.q (.bin .eql (.t 3) (.k (.c (.int .i64 10))))),
  c 1 7 (.q (.mv (.t 15)))]
def r13 : List (Nat × RStep) := [
  c 0 16 (.q (.bin .eql (.t 3) (.k (.c (.int .i64 11))))),
  c 1 7 (.q (.mv (.t 16)))]
def r14 : List (Nat × RStep) := [
  c 0 17 (.q (.bin .eql (.t 3) (.k (.c (.int .i64 12))))),
  c 1 7 (.q (.mv (.t 17)))]
def r15 : List (Nat × RStep) := [
  c 0 18 (.q (.bin .eql (.t 3) (.k (.c (.int .i64 13))))),
  c 1 7 (.q (.mv (.t 18)))]
def r16 : List (Nat × RStep) := [
  c 0 2 (.q (.mv (.k (.c (.int .i64 2)))))]
def k0 : Blk := (.seq (.seq (.reg r2) (.cond (.t 4) .skip (.reg r3))) (.cond (.t 4) (.seq (.reg r4) .ret) (.seq (.seq (.reg r5) (.cond (.t 7) .skip (.seq (.reg r6) (.cond (.t 7) .skip (.seq (.reg r7) (.cond (.t 7) .skip (.seq (.reg r8) (.cond (.t 7) .skip (.seq (.reg r9) (.cond (.t 7) .skip (.seq (.reg r10) (.cond (.t 7) .skip (.seq (.reg r11) (.cond (.t 7) .skip (.seq (.reg r12) (.cond (.t 7) .skip (.seq (.reg r13) (.cond (.t 7) .skip (.seq (.reg r14) (.cond (.t 7) .skip (.reg r15))))))))))))))))))))) (.cond (.t 7) (.seq (.reg r16) .ret) .skip))))
def r17 : List (Nat × RStep) := [
  c 0 2 (.q (.mv (.k (.c (.int .i64 (-1))))))]
def body : Blk := (.seq (.reg r0) (.seq (.seq (.reg r1) (.block 0 k0)) (.seq (.reg r17) .ret)))
def fi : FI := { nt := 19, na := 1, body := body, res := [(.tmp 2, [])] }
end ref01_Args
namespace ref15_Removable
def r0 : List (Nat × RStep) := [
  c 0 3 (.boxr (.t 0)),
  c 1 6 (.q (.mv (.k (.c (.bool false)))))]
def r1 : List (Nat × RStep) := [
  c 0 8 (.q (.fld 0 (.t 3))),
  c 1 9 (.q (.load false 1 (.t 8))),
  c 2 10 (.q (.bin .eql (.t 9) (.k (.c (.int .i64 17)))))]
def r2 : List (Nat × RStep) := [
  c 0 11 (.q (.fld 4 (.t 3))),
  c 1 12 (.q (.load false 1 (.t 11))),
  c 2 13 (.q (.bin .lss (.t 12) (.k (.c (.int .i64 0))))),
  c 3 14 (.q (.mv (.t 13))),
  cg 4 15 14 false (.q (.fld 4 (.t 3))),
  cg 5 16 14 false (.q (.load false 1 (.t 15))),
  cg 6 17 14 false (.q (.mv (.t 1))),
  cg 7 18 14 false (.q (.len (.t 17))),
  cg 8 19 14 false (.q (.bin .geq (.t 16) (.t 18))),
  c 9 20 (.q (.pick (.t 14) (.k (.c (.bool true))) (.t 19)))]
def r3 : List (Nat × RStep) := [
  c 0 6 (.q (.mv (.k (.c (.bool false)))))]
def r4 : List (Nat × RStep) := [
  c 0 21 (.q (.mv (.t 1))),
  c 1 22 (.q (.fld 4 (.t 3))),
  c 2 23 (.q (.load false 1 (.t 22))),
  c 3 24 (.q (.idx 5 (.t 21) (.t 23))),
  c 4 25 (.q (.load true 5 (.t 24))),
  c 5 7 (.m (.alloc [.bool false, .bool false, .bool false, .bool false, .bool false])),
  v 6 (.st false 5 [] (.t 7) (.t 25))]
def r5 : List (Nat × RStep) := [
  c 0 26 (.q (.load true 5 (.t 7))),
  c 1 27 (.call F.ref15_Quiet [(.t 26)]),
  c 2 28 (.q (.mv (.t 27))),
  cg 3 29 28 true (.q (.mv (.t 2))),
  cg 4 30 28 true (.q (.mv (.t 29))),
  cg 5 31 30 true (.q (.fld 0 (.t 7))),
  cg 6 32 30 true (.q (.load false 1 (.t 31))),
  cg 7 33 28 true (.q (.pick (.t 30) (.t 32) (.k (.c (.bool false))))),
  cg 8 34 28 true (.q (.not (.t 33))),
  c 9 35 (.q (.pick (.t 28) (.t 34) (.k (.c (.bool false))))),
  c 10 6 (.q (.mv (.t 35)))]
def r6 : List (Nat × RStep) := [
  c 0 36 (.q (.fld 0 (.t 3))),
  c 1 37 (.q (.load false 1 (.t 36))),
  c 2 38 (.q (.bin .eql (.t 37) (.k (.c (.int .i64 1))))),
  c 3 39 (.q (.mv (.t 38))),
  cg 4 40 39 false (.q (.fld 0 (.t 3))),
  cg 5 41 39 false (.q (.load false 1 (.t 40))),
  cg 6 42 39 false (.q (.bin .neq (.t 41) (.k (.c (.int .i64 11))))),
  cg 7 43 39 false (.q (.mv (.t 42))),
  cg 8 44 43 true (.q (.fld 0 (.t 3))),
  cg 9 45 43 true (.q (.load false 1 (.t 44))),
  cg 10 46 43 true (.call F.ref01_Args [(.t 45)]),
  cg 11 47 43 true (.q (.bin .gtr (.t 46) (.k (.c (.int .i64 0))))),
  cg 12 48 39 false (.q (.pick (.t 43) (.t 47) (.k (.c (.bool false))))),
  c 13 49 (.q (.pick (.t 39) (.k (.c (.bool true))) (.t 48))),
  c 14 6 (.q (.mv (.t 49)))]
def body : Blk := (.seq (.reg r0) (.seq (.seq (.reg r1) (.cond (.t 10) (.seq (.seq (.reg r2) (.cond (.t 20) (.seq (.reg r3) .ret) .skip)) (.seq (.post (.reg r4) [.frz 7]) (.seq (.reg r5) .ret))) .skip)) (.seq (.reg r6) .ret)))
def fi : FI := { nt := 50, na := 3, body := body, res := [(.tmp 6, [])] }
end ref15_Removable
namespace effect_Fixed
def r0 : List (Nat × RStep) := [
  c 0 2 (.boxr (.t 0)),
  c 1 4 (.q (.mv (.k (.c (.bool false)))))]
def r1 : List (Nat × RStep) := [
  c 0 5 (.q (.load true 5 (.t 2))),
  c 1 6 (.call F.effect_plain [(.t 5)]),
  c 2 7 (.q (.mv (.t 6))),
  cg 3 8 7 false (.q (.fld 0 (.t 2))),
  cg 4 9 7 false (.q (.load false 1 (.t 8))),
  cg 5 10 7 false (.q (.bin .eql (.t 9) (.k (.c (.int .i64 17))))),
  cg 6 11 7 false (.q (.mv (.t 10))),
  cg 7 12 11 true (.q (.fld 4 (.t 2))),
  cg 8 13 11 true (.q (.load false 1 (.t 12))),
  cg 9 14 11 true (.q (.bin .geq (.t 13) (.k (.c (.int .i64 0))))),
  cg 10 15 7 false (.q (.pick (.t 11) (.t 14) (.k (.c (.bool false))))),
  cg 11 16 7 false (.q (.mv (.t 15))),
  cg 12 17 16 true (.q (.fld 4 (.t 2))),
  cg 13 18 16 true (.q (.load false 1 (.t 17))),
  cg 14 19 16 true (.q (.mv (.t 1))),
  cg 15 20 16 true (.q (.len (.t 19))),
  cg 16 21 16 true (.q (.bin .lss (.t 18) (.t 20))),
  cg 17 22 7 false (.q (.pick (.t 16) (.t 21) (.k (.c (.bool false))))),
  cg 18 23 7 false (.q (.mv (.t 22))),
  cg 19 24 23 true (.q (.mv (.t 1))),
  cg 20 25 23 true (.q (.fld 4 (.t 2))),
  cg 21 26 23 true (.q (.load false 1 (.t 25))),
  cg 22 27 23 true (.q (.idx 5 (.t 24) (.t 26))),
  cg 23 28 23 true (.q (.load true 5 (.t 27))),
  cg 24 29 23 true (.call F.effect_Still [(.t 28)]),
  cg 25 30 7 false (.q (.pick (.t 23) (.t 29) (.k (.c (.bool false))))),
  c 26 31 (.q (.pick (.t 7) (.k (.c (.bool true))) (.t 30))),
  c 27 4 (.q (.mv (.t 31)))]
def body : Blk := (.seq (.reg r0) (.seq (.reg r1) .ret))
def fi : FI := { nt := 32, na := 2, body := body, res := [(.tmp 4, [])] }
end effect_Fixed
namespace law15_EffectKinds
def r0 : List (Nat × RStep) := [
  c 0 3 (.boxr (.t 0)),
  c 1 5 (.boxr (.t 2)),
  c 2 6 (.q (.mv (.k (.c (.bool false)))))]
def r1 : List (Nat × RStep) := [
  c 0 8 (.call F.law15_up []),
  c 1 7 (.q (.mv (.t 8)))]
def r2 : List (Nat × RStep) := [
  c 0 9 (.q (.mv (.t 1))),
  c 1 10 (.q (.len (.t 9))),
  c 2 11 (.q (.bin .gtr (.t 10) (.k (.c (.int .i64 100))))),
  c 3 12 (.q (.mv (.t 11))),
  cg 4 13 12 false (.q (.fld 2 (.t 3))),
  cg 5 14 12 false (.q (.load false 1 (.t 13))),
  cg 6 15 12 false (.q (.len (.t 14))),
  cg 7 16 12 false (.q (.bin .gtr (.t 15) (.k (.c (.int .i64 300))))),
  c 8 17 (.q (.pick (.t 12) (.k (.c (.bool true))) (.t 16)))]
def r3 : List (Nat × RStep) := [
  c 0 18 (.q (.mv (.t 7))),
  c 1 6 (.q (.mv (.t 18)))]
def r4 : List (Nat × RStep) := [
  c 0 19 (.q (.load true 5 (.t 5))),
  c 2 21 (.q (.load true 5 (.t 5))),
  c 1 20 (.call F.effect_Quiet [(.t 19)]),
  c 3 22 (.call F.ref15_Quiet [(.t 21)]),
  c 4 23 (.q (.eqb true (.t 20) (.t 22))),
  c 5 24 (.q (.mv (.t 23))),
  cg 6 25 24 false (.q (.load true 5 (.t 5))),
  cg 8 27 24 false (.q (.load true 5 (.t 5))),
  cg 7 26 24 false (.call F.effect_Still [(.t 25)]),
  cg 9 28 24 false (.call F.ref15_Still [(.t 27)]),
  cg 10 29 24 false (.q (.eqb true (.t 26) (.t 28))),
  c 11 30 (.q (.pick (.t 24) (.k (.c (.bool true))) (.t 29)))]
def r5 : List (Nat × RStep) := [
  c 0 6 (.q (.mv (.k (.c (.bool false)))))]
def r6 : List (Nat × RStep) := [
  c 0 31 (.q (.mv (.t 7))),
  c 1 32 (.q (.mv (.t 31))),
  cg 2 33 32 true (.q (.load true 5 (.t 3))),
  cg 3 34 32 true (.q (.mv (.t 1))),
  cg 5 36 32 true (.q (.load true 5 (.t 3))),
  cg 6 37 32 true (.q (.mv (.t 1))),
  cg 4 35 32 true (.call F.effect_Removable [(.t 33), (.t 34)]),
  cg 7 38 32 true (.call F.ref15_Removable [(.t 36), (.t 37), (.k (.c (.bool false)))]),
  cg 8 39 32 true (.q (.eqb false (.t 35) (.t 38))),
  c 9 40 (.q (.pick (.t 32) (.t 39) (.k (.c (.bool false))))),
  c 10 41 (.q (.mv (.t 40))),
  cg 11 42 41 true (.q (.load true 5 (.t 3))),
  cg 12 43 41 true (.q (.mv (.t 1))),
  cg 14 45 41 true (.q (.load true 5 (.t 3))),
  cg 15 46 41 true (.q (.mv (.t 1))),
  cg 13 44 41 true (.call F.effect_Fixed [(.t 42), (.t 43)]),
  cg 16 47 41 true (.call F.ref15_Removable [(.t 45), (.t 46), (.k (.c (.bool true)))]),
  cg 17 48 41 true (.q (.eqb false (.t 44) (.t 47))),
  c 18 49 (.q (.pick (.t 41) (.t 48) (.k (.c (.bool false))))),
  c 19 6 (.q (.mv (.t 49)))]
def body : Blk := (.seq (.reg r0) (.seq (.reg r1) (.seq (.seq (.reg r2) (.cond (.t 17) (.seq (.reg r3) .ret) .skip)) (.seq (.seq (.reg r4) (.cond (.t 30) (.seq (.reg r5) .ret) .skip)) (.seq (.reg r6) .ret)))))
def fi : FI := { nt := 50, na := 3, body := body, res := [(.tmp 6, [])] }
end law15_EffectKinds
def tab : Tab := fun f => match f with
  | 6 => some law15_EffectKinds.fi
  | 13 => some check_Module.fi
  | 15 => some law15_up.fi
  | 16 => some effect_Effects.fi
  | 19 => some effect_Quiet.fi
  | 20 => some ref15_Quiet.fi
  | 21 => some effect_Still.fi
  | 22 => some ref15_Still.fi
  | 23 => some effect_Removable.fi
  | 24 => some ref15_Removable.fi
  | 25 => some effect_Fixed.fi
  | 31 => some check_Ahead.fi
  | 36 => some check_Func.fi
  | 39 => some calls_Calls.fi
  | 40 => some effect_own.fi
  | 41 => some calls_Rings.fi
  | 42 => some slices_Contains_int_int.fi
  | 43 => some effect_joined.fi
  | 45 => some effect_plain.fi
  | 46 => some ref01_Args.fi
  | 64 => some graph_Reached.fi
  | 69 => some slices_Index_int_int.fi
  | 70 => some check_small.fi
  | 71 => some check_typed.fi
  | 72 => some check_ends.fi
  | 73 => some check_looker_block.fi
  | 76 => some effect_turns.fi
  | 77 => some effect_instr.fi
  | 78 => some calls_found.fi
  | 83 => some arith_Args.fi
  | 84 => some arith_Traps.fi
  | 90 => some graph_Next.fi
  | 96 => some graph_Order.fi
  | 102 => some graph_order.fi
  | 106 => some check_typed_1.fi
  | 107 => some check_value.fi
  | 108 => some slices_ContainsFunc_int_int.fi
  | 109 => some check_looker_phi.fi
  | 110 => some check_looker_instr.fi
  | 111 => some check_looker_end.fi
  | 114 => some effect_turns_1.fi
  | 115 => some calls_finder_visit.fi
  | 124 => some graph_order_1.fi
  | 125 => some slices_Reverse_int_int.fi
  | 126 => some slices_IndexFunc_int_int.fi
  | 127 => some check_looker_has.fi
  | 128 => some check_looker_are.fi
  | 129 => some check_looker_arity.fi
  | 130 => some check_looker_fits.fi
  | 152 => some check_looker_has_1.fi
  | 153 => some check_looker_are_1.fi
  | 154 => some check_looker_call.fi
  | _ => none
end Go.Fw.K

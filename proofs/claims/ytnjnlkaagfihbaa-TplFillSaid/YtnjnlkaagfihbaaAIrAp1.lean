/- A part of the proof of the statement that the last text of this claim closes; no condition. -/
import Derived.Test.YtnjnlkaagfihbaaAIrAp0
set_option linter.all false
namespace Gv
open Go
set_option maxRecDepth 100000
set_option maxHeartbeats 4000000

/-- (*gloss/rx.reader).bracket -/
def m_rx_reader_bracket_0 : Mask := (.nd true (.nd false (.nd true .lf .lf) (.nd true .lf .lf)) (.nd true (.nd true .lf .lf) .lf))
@[simp] theorem mm_rx_reader_bracket_0 : m_rx_reader_bracket_0.go = (.nd true (.nd false (.nd true .lf .lf) (.nd true .lf .lf)) (.nd true (.nd true .lf .lf) .lf)) := rfl
def c_rx_reader_bracket_0 : VCode := .seq (.seq (.region false [⟨some r10, .mov (.t r5), none, []⟩,
    ⟨some r11, .mov (.t r10), none, []⟩,
    ⟨some r12, .mov (.t r0), some (r11, false), []⟩,
    ⟨some r13, .call f_rx_reader_is [(.t r12), (.c (.p (.str [93])))], some (r11, false), []⟩,
    ⟨some r14, .un .not (.t r13), some (r11, false), []⟩,
    ⟨some r15, .pick (.t r11) (.c (.p (.bool true))) (.t r14), none, []⟩])
  (.cond (.t r15) (.skip)
   (.exit 0)))
 (.seq (.block 1 (.block 2 (.seq (.region true [⟨some r22, .mov (.t r0), none, []⟩,
       ⟨some r23, .nilchk (.t r22), none, [0]⟩,
       ⟨some r24, .faddr 4 (.t r23), none, [1, 0]⟩,
       ⟨some r25, .load 1 false (.t r24), none, [2, 1, 0]⟩,
       ⟨some r26, .bin .neq (.t r25) (.c (.p (.int .i64 0))), none, [3, 2, 1, 0]⟩,
       ⟨some r27, .mov (.t r26), none, [4, 3, 2, 1, 0]⟩,
       ⟨some r28, .mov (.t r0), some (r27, false), [5, 4, 3, 2, 1, 0]⟩,
       ⟨some r29, .nilchk (.t r28), some (r27, false), [6, 5, 4, 3, 2, 1, 0]⟩,
       ⟨some r30, .faddr 2 (.t r29), some (r27, false), [7, 6, 5, 4, 3, 2, 1, 0]⟩,
       ⟨some r31, .load 1 false (.t r30), some (r27, false), [8, 7, 6, 5, 4, 3, 2, 1, 0]⟩,
       ⟨some r32, .mov (.t r0), some (r27, false), [5, 4, 3, 2, 1, 0]⟩,
       ⟨some r33, .nilchk (.t r32), some (r27, false), [10, 5, 4, 3, 2, 1, 0]⟩,
       ⟨some r34, .faddr 0 (.t r33), some (r27, false), [11, 10, 5, 4, 3, 2, 1, 0]⟩,
       ⟨some r35, .load 1 false (.t r34), some (r27, false), [12, 11, 10, 5, 4, 3, 2, 1, 0]⟩,
       ⟨some r36, .lenstr (.t r35), some (r27, false), [13, 12, 11, 10, 5, 4, 3, 2, 1, 0]⟩,
       ⟨some r37, .bin .eql (.t r31) (.t r36), some (r27, false), [9, 8, 7, 6, 5, 4, 3, 2, 1, 0, 14, 13, 12, 11, 10]⟩,
       ⟨some r38, .pick (.t r27) (.c (.p (.bool true))) (.t r37), none, [5, 4, 3, 2, 1, 0, 15, 9, 8, 7, 6, 14, 13, 12, 11, 10]⟩,
       ⟨some r21, .mov (.t r38), none, [16, 5, 4, 3, 2, 1, 0, 15, 9, 8, 7, 6, 14, 13, 12, 11, 10]⟩])
     (.cond (.t r21) (.seq (.region false [⟨some r39, .mov (.t r0), none, []⟩,
         ⟨some r40, .call f_rx_reader_fail [(.t r39), (.c (.p (.int .i64 1)))], none, []⟩,
         ⟨none, .store 9 (.t r2) (.t r40), none, []⟩])
       (.ret))
      (.seq (.region false [⟨some r42, .mov (.t r0), none, []⟩,
         ⟨some r43, .call f_rx_reader_is [(.t r42), (.c (.p (.str [91, 58])))], none, []⟩,
         ⟨some r41, .mov (.t r43), none, []⟩])
       (.cond (.t r41) (.region true [⟨some r44, .load 4 true (.t r4), none, []⟩,
          ⟨some r45, .mov (.t r0), none, []⟩,
          ⟨some r46, .call f_rx_reader_class [(.t r45)], none, [1]⟩,
          ⟨some r47, .bsl t_api_Set 4 [.p (.int .u64 0), .p (.int .u64 0), .p (.int .u64 0), .p (.int .u64 0), .p (.int .u64 0), .p (.int .u64 0), .p (.int .u64 0), .p (.int .u64 0)] 2 [(0, 4, (.t r44)), (4, 4, (.t r46))], none, [0, 2, 1]⟩,
          ⟨some r48, .call f_bset_Join [(.t r47)], none, [3, 0, 2, 1]⟩,
          ⟨none, .store 4 (.t r4) (.t r48), none, [4, 3, 0, 2, 1]⟩])
        (.region true [⟨some r16, .load 4 true (.t r4), none, []⟩,
          ⟨some r17, .mov (.t r0), none, []⟩,
          ⟨some r18, .call f_rx_reader_some [(.t r17)], none, [1]⟩,
          ⟨some r19, .bsl t_api_Set 4 [.p (.int .u64 0), .p (.int .u64 0), .p (.int .u64 0), .p (.int .u64 0), .p (.int .u64 0), .p (.int .u64 0), .p (.int .u64 0), .p (.int .u64 0)] 2 [(0, 4, (.t r16)), (4, 4, (.t r18))], none, [0, 2, 1]⟩,
          ⟨some r20, .call f_bset_Join [(.t r19)], none, [3, 0, 2, 1]⟩,
          ⟨none, .store 4 (.t r4) (.t r20), none, [4, 3, 0, 2, 1]⟩])))))))
  (.region false [⟨some r5, .mov (.c (.p (.bool false))), none, []⟩]))
def b_rx_reader_bracket : VCode := .seq (.region false [⟨some r2, .alloc t_api_Rx [.p (.int .i64 0), .p (.int .i64 0), .p (.int .i64 0), .p (.int .i64 0), .p (.int .u64 0), .p (.int .u64 0), .p (.int .u64 0), .p (.int .u64 0), .nils], none, []⟩])
  (.seq (.region false [⟨some r6, .mov (.t r0), none, []⟩,
     ⟨some r7, .call f_rx_reader_took [(.t r6), (.c (.p (.str [91])))], none, []⟩])
   (.seq (.region false [⟨some r8, .mov (.t r0), none, []⟩,
      ⟨some r9, .call f_rx_reader_took [(.t r8), (.c (.p (.str [94])))], none, []⟩,
      ⟨some r3, .mov (.t r9), none, []⟩])
    (.seq (.region false [⟨some r4, .alloc t_api_Set [.p (.int .u64 0), .p (.int .u64 0), .p (.int .u64 0), .p (.int .u64 0)], none, []⟩])
     (.seq (.seq (.region false [⟨some r5, .mov (.c (.p (.bool true))), none, []⟩])
       (.block 0 (.loop m_rx_reader_bracket_0 c_rx_reader_bracket_0)))
      (.seq (.region false [⟨some r49, .mov (.t r0), none, []⟩,
         ⟨some r50, .call f_rx_reader_took [(.t r49), (.c (.p (.str [93])))], none, []⟩])
       (.seq (.seq (.region false [⟨some r51, .mov (.t r3), none, []⟩])
         (.cond (.t r51) (.region false [⟨some r52, .load 4 true (.t r4), none, []⟩,
            ⟨some r53, .call f_bset_Not [(.t r52)], none, []⟩,
            ⟨none, .store 4 (.t r4) (.t r53), none, []⟩])
          (.skip)))
        (.seq (.seq (.region false [⟨some r54, .load 4 true (.t r4), none, []⟩,
            ⟨some r55, .build [.p (.int .u64 0), .p (.int .u64 0), .p (.int .u64 0), .p (.int .u64 0)] [], none, []⟩,
            ⟨some r56, .eqa [.int, .int, .int, .int] false (.t r54) (.t r55), none, []⟩])
          (.cond (.t r56) (.seq (.region false [⟨some r57, .mov (.t r0), none, []⟩,
              ⟨some r58, .call f_rx_reader_fail [(.t r57), (.c (.p (.int .i64 1)))], none, []⟩,
              ⟨none, .store 9 (.t r2) (.t r58), none, []⟩])
            (.ret))
           (.skip)))
         (.seq (.region false [⟨some r59, .load 4 true (.t r4), none, []⟩,
            ⟨some r60, .build [.p (.int .i64 0), .p (.int .i64 0), .p (.int .i64 0), .p (.int .i64 0), .p (.int .u64 0), .p (.int .u64 0), .p (.int .u64 0), .p (.int .u64 0), .nils] [(0, 1, (.c (.p (.int .i64 1)))), (4, 4, (.t r59))], none, []⟩,
            ⟨none, .store 9 (.t r2) (.t r60), none, []⟩])
          (.ret)))))))))
def ir_rx_reader_bracket : VFn := ⟨.heap, 1, b_rx_reader_bracket, [.cell r2 9 true]⟩
@[simp] theorem bb_rx_reader_bracket : ir_rx_reader_bracket.body = b_rx_reader_bracket := rfl
@[simp] theorem br_rx_reader_bracket : ir_rx_reader_bracket.res = [.cell r2 9 true] := rfl
@[simp] theorem bn_rx_reader_bracket : ir_rx_reader_bracket.nargs = 1 := rfl

/-- (*gloss/rx.reader).begins -/
def b_rx_reader_begins : VCode := .seq (.region false [⟨some r4, .mov (.c (.p (.bool false))), none, []⟩])
  (.seq (.region false [⟨some r5, .mov (.t r0), none, []⟩,
     ⟨some r6, .call f_rx_reader_is [(.t r5), (.c (.p (.str [94])))], none, []⟩,
     ⟨some r7, .mov (.t r6), none, []⟩,
     ⟨some r8, .mov (.t r0), some (r7, true), []⟩,
     ⟨some r9, .nilchk (.t r8), some (r7, true), []⟩,
     ⟨some r10, .faddr 1 (.t r9), some (r7, true), []⟩,
     ⟨some r11, .load 1 false (.t r10), some (r7, true), []⟩,
     ⟨some r12, .mov (.t r11), some (r7, true), []⟩,
     ⟨some r13, .mov (.t r1), some (r12, false), []⟩,
     ⟨some r14, .lensl (.t r13), some (r12, false), []⟩,
     ⟨some r15, .bin .eql (.t r14) (.c (.p (.int .i64 0))), some (r12, false), []⟩,
     ⟨some r16, .pick (.t r12) (.c (.p (.bool true))) (.t r15), some (r7, true), []⟩,
     ⟨some r17, .pick (.t r7) (.t r16) (.c (.p (.bool false))), none, []⟩,
     ⟨some r4, .mov (.t r17), none, []⟩])
   (.ret))
def ir_rx_reader_begins : VFn := ⟨.borrow, 2, b_rx_reader_begins, [.tmp r4]⟩
@[simp] theorem bb_rx_reader_begins : ir_rx_reader_begins.body = b_rx_reader_begins := rfl
@[simp] theorem br_rx_reader_begins : ir_rx_reader_begins.res = [.tmp r4] := rfl
@[simp] theorem bn_rx_reader_begins : ir_rx_reader_begins.nargs = 2 := rfl

/-- (*gloss/rx.reader).stops -/
def b_rx_reader_stops : VCode := .seq (.region false [⟨some r2, .mov (.c (.p (.bool false))), none, []⟩])
  (.seq (.region true [⟨some r3, .mov (.t r0), none, []⟩,
     ⟨some r4, .call f_rx_reader_is [(.t r3), (.c (.p (.str [36])))], none, [0]⟩,
     ⟨some r5, .mov (.t r4), none, [1, 0]⟩,
     ⟨some r6, .mov (.t r0), some (r5, true), [2, 1, 0]⟩,
     ⟨some r7, .nilchk (.t r6), some (r5, true), [3, 2, 1, 0]⟩,
     ⟨some r8, .faddr 1 (.t r7), some (r5, true), [4, 3, 2, 1, 0]⟩,
     ⟨some r9, .load 1 false (.t r8), some (r5, true), [5, 4, 3, 2, 1, 0]⟩,
     ⟨some r10, .mov (.t r9), some (r5, true), [6, 5, 4, 3, 2, 1, 0]⟩,
     ⟨some r11, .mov (.t r0), some (r10, false), [7, 6, 5, 4, 3, 2, 1, 0]⟩,
     ⟨some r12, .nilchk (.t r11), some (r10, false), [8, 7, 6, 5, 4, 3, 2, 1, 0]⟩,
     ⟨some r13, .faddr 2 (.t r12), some (r10, false), [9, 8, 7, 6, 5, 4, 3, 2, 1, 0]⟩,
     ⟨some r14, .load 1 false (.t r13), some (r10, false), [10, 9, 8, 7, 6, 5, 4, 3, 2, 1, 0]⟩,
     ⟨some r15, .bin .add (.t r14) (.c (.p (.int .i64 1))), some (r10, false), [11, 10, 9, 8, 7, 6, 5, 4, 3, 2, 1, 0]⟩,
     ⟨some r16, .mov (.t r0), some (r10, false), [7, 6, 5, 4, 3, 2, 1, 0]⟩,
     ⟨some r17, .nilchk (.t r16), some (r10, false), [13, 7, 6, 5, 4, 3, 2, 1, 0]⟩,
     ⟨some r18, .faddr 0 (.t r17), some (r10, false), [14, 13, 7, 6, 5, 4, 3, 2, 1, 0]⟩,
     ⟨some r19, .load 1 false (.t r18), some (r10, false), [15, 14, 13, 7, 6, 5, 4, 3, 2, 1, 0]⟩,
     ⟨some r20, .lenstr (.t r19), some (r10, false), [16, 15, 14, 13, 7, 6, 5, 4, 3, 2, 1, 0]⟩,
     ⟨some r21, .bin .eql (.t r15) (.t r20), some (r10, false), [12, 11, 10, 9, 8, 7, 6, 5, 4, 3, 2, 1, 0, 17, 16, 15, 14, 13]⟩,
     ⟨some r22, .pick (.t r10) (.c (.p (.bool true))) (.t r21), some (r5, true), [7, 6, 5, 4, 3, 2, 1, 0, 18, 12, 11, 10, 9, 8, 17, 16, 15, 14, 13]⟩,
     ⟨some r23, .mov (.t r22), some (r5, true), [19, 7, 6, 5, 4, 3, 2, 1, 0, 18, 12, 11, 10, 9, 8, 17, 16, 15, 14, 13]⟩,
     ⟨some r24, .mov (.t r0), some (r23, false), [20, 19, 7, 6, 5, 4, 3, 2, 1, 0, 18, 12, 11, 10, 9, 8, 17, 16, 15, 14, 13]⟩,
     ⟨some r25, .nilchk (.t r24), some (r23, false), [21, 20, 19, 7, 6, 5, 4, 3, 2, 1, 0, 18, 12, 11, 10, 9, 8, 17, 16, 15, 14, 13]⟩,
     ⟨some r26, .faddr 0 (.t r25), some (r23, false), [22, 21, 20, 19, 7, 6, 5, 4, 3, 2, 1, 0, 18, 12, 11, 10, 9, 8, 17, 16, 15, 14, 13]⟩,
     ⟨some r27, .load 1 false (.t r26), some (r23, false), [23, 22, 21, 20, 19, 7, 6, 5, 4, 3, 2, 1, 0, 18, 12, 11, 10, 9, 8, 17, 16, 15, 14, 13]⟩,
     ⟨some r28, .mov (.t r0), some (r23, false), [20, 19, 7, 6, 5, 4, 3, 2, 1, 0, 18, 12, 11, 10, 9, 8, 17, 16, 15, 14, 13]⟩,
     ⟨some r29, .nilchk (.t r28), some (r23, false), [25, 20, 19, 7, 6, 5, 4, 3, 2, 1, 0, 18, 12, 11, 10, 9, 8, 17, 16, 15, 14, 13]⟩,
     ⟨some r30, .faddr 2 (.t r29), some (r23, false), [26, 25, 20, 19, 7, 6, 5, 4, 3, 2, 1, 0, 18, 12, 11, 10, 9, 8, 17, 16, 15, 14, 13]⟩,
     ⟨some r31, .load 1 false (.t r30), some (r23, false), [27, 26, 25, 20, 19, 7, 6, 5, 4, 3, 2, 1, 0, 18, 12, 11, 10, 9, 8, 17, 16, 15, 14, 13]⟩,
     ⟨some r32, .bin .add (.t r31) (.c (.p (.int .i64 1))), some (r23, false), [28, 27, 26, 25, 20, 19, 7, 6, 5, 4, 3, 2, 1, 0, 18, 12, 11, 10, 9, 8, 17, 16, 15, 14, 13]⟩,
     ⟨some r33, .substr (.t r27) (some (.t r32)) none, some (r23, false), [24, 23, 22, 21, 20, 19, 7, 6, 5, 4, 3, 2, 1, 0, 18, 12, 11, 10, 9, 8, 17, 16, 15, 14, 13, 29, 28, 27, 26, 25]⟩,
     ⟨some r34, .call f_strings_HasPrefix [(.t r33), (.c (.p (.str [92, 41])))], some (r23, false), [30, 24, 23, 22, 21, 20, 19, 7, 6, 5, 4, 3, 2, 1, 0, 18, 12, 11, 10, 9, 8, 17, 16, 15, 14, 13, 29, 28, 27, 26, 25]⟩,
     ⟨some r35, .pick (.t r23) (.c (.p (.bool true))) (.t r34), some (r5, true), [20, 19, 7, 6, 5, 4, 3, 2, 1, 0, 18, 12, 11, 10, 9, 8, 17, 16, 15, 14, 13, 31, 30, 24, 23, 22, 21, 29, 28, 27, 26, 25]⟩,
     ⟨some r36, .pick (.t r5) (.t r35) (.c (.p (.bool false))), none, [2, 1, 0, 32, 20, 19, 7, 6, 5, 4, 3, 18, 12, 11, 10, 9, 8, 17, 16, 15, 14, 13, 31, 30, 24, 23, 22, 21, 29, 28, 27, 26, 25]⟩,
     ⟨some r2, .mov (.t r36), none, [33, 2, 1, 0, 32, 20, 19, 7, 6, 5, 4, 3, 18, 12, 11, 10, 9, 8, 17, 16, 15, 14, 13, 31, 30, 24, 23, 22, 21, 29, 28, 27, 26, 25]⟩])
   (.ret))
def ir_rx_reader_stops : VFn := ⟨.borrow, 1, b_rx_reader_stops, [.tmp r2]⟩
@[simp] theorem bb_rx_reader_stops : ir_rx_reader_stops.body = b_rx_reader_stops := rfl
@[simp] theorem br_rx_reader_stops : ir_rx_reader_stops.res = [.tmp r2] := rfl
@[simp] theorem bn_rx_reader_stops : ir_rx_reader_stops.nargs = 1 := rfl

/-- (*gloss/rx.reader).one -/
def b_rx_reader_one : VCode := .seq (.region false [⟨some r6, .alloc t_api_Rx [.p (.int .i64 0), .p (.int .i64 0), .p (.int .i64 0), .p (.int .i64 0), .p (.int .u64 0), .p (.int .u64 0), .p (.int .u64 0), .p (.int .u64 0), .nils], none, []⟩])
  (.seq (.region false [⟨some r7, .mov (.t r0), none, []⟩,
     ⟨some r8, .nilchk (.t r7), none, []⟩,
     ⟨some r9, .faddr 2 (.t r8), none, []⟩,
     ⟨some r10, .load 1 false (.t r9), none, []⟩,
     ⟨some r11, .mov (.t r2), none, []⟩,
     ⟨some r12, .bin .add (.t r10) (.t r11), none, []⟩,
     ⟨some r13, .nilchk (.t r7), none, []⟩,
     ⟨some r14, .faddr 2 (.t r13), none, []⟩,
     ⟨none, .store 1 (.t r14) (.t r12), none, []⟩])
   (.seq (.region false [⟨some r15, .mov (.t r1), none, []⟩,
      ⟨some r16, .bsl t_uint8 1 [.p (.int .u8 0)] 1 [(0, 1, (.t r15))], none, []⟩,
      ⟨some r17, .call f_bset_Of [(.t r16)], none, []⟩,
      ⟨some r18, .build [.p (.int .i64 0), .p (.int .i64 0), .p (.int .i64 0), .p (.int .i64 0), .p (.int .u64 0), .p (.int .u64 0), .p (.int .u64 0), .p (.int .u64 0), .nils] [(0, 1, (.c (.p (.int .i64 1)))), (4, 4, (.t r17))], none, []⟩,
      ⟨none, .store 9 (.t r6) (.t r18), none, []⟩])
    (.ret)))
def ir_rx_reader_one : VFn := ⟨.heap, 3, b_rx_reader_one, [.cell r6 9 true]⟩
@[simp] theorem bb_rx_reader_one : ir_rx_reader_one.body = b_rx_reader_one := rfl
@[simp] theorem br_rx_reader_one : ir_rx_reader_one.res = [.cell r6 9 true] := rfl
@[simp] theorem bn_rx_reader_one : ir_rx_reader_one.nargs = 3 := rfl

/-- (*gloss/rx.reader).behind -/
def b_rx_reader_behind : VCode := .seq (.region false [⟨some r2, .alloc t_api_Rx [.p (.int .i64 0), .p (.int .i64 0), .p (.int .i64 0), .p (.int .i64 0), .p (.int .u64 0), .p (.int .u64 0), .p (.int .u64 0), .p (.int .u64 0), .nils], none, []⟩])
  (.seq (.seq (.region true [⟨some r5, .mov (.t r0), none, []⟩,
      ⟨some r6, .nilchk (.t r5), none, [0]⟩,
      ⟨some r7, .faddr 2 (.t r6), none, [1, 0]⟩,
      ⟨some r8, .load 1 false (.t r7), none, [2, 1, 0]⟩,
      ⟨some r9, .bin .add (.t r8) (.c (.p (.int .i64 1))), none, [3, 2, 1, 0]⟩,
      ⟨some r10, .mov (.t r0), none, []⟩,
      ⟨some r11, .nilchk (.t r10), none, [5]⟩,
      ⟨some r12, .faddr 0 (.t r11), none, [6, 5]⟩,
      ⟨some r13, .load 1 false (.t r12), none, [7, 6, 5]⟩,
      ⟨some r14, .lenstr (.t r13), none, [8, 7, 6, 5]⟩,
      ⟨some r15, .bin .eql (.t r9) (.t r14), none, [4, 3, 2, 1, 0, 9, 8, 7, 6, 5]⟩])
    (.cond (.t r15) (.seq (.region false [⟨some r16, .mov (.t r0), none, []⟩,
        ⟨some r17, .call f_rx_reader_fail [(.t r16), (.c (.p (.int .i64 1)))], none, []⟩,
        ⟨none, .store 9 (.t r2) (.t r17), none, []⟩])
      (.ret))
     (.skip)))
   (.seq (.region true [⟨some r18, .mov (.t r0), none, []⟩,
      ⟨some r19, .nilchk (.t r18), none, [0]⟩,
      ⟨some r20, .faddr 0 (.t r19), none, [1, 0]⟩,
      ⟨some r21, .load 1 false (.t r20), none, [2, 1, 0]⟩,
      ⟨some r22, .mov (.t r0), none, []⟩,
      ⟨some r23, .nilchk (.t r22), none, [4]⟩,
      ⟨some r24, .faddr 2 (.t r23), none, [5, 4]⟩,
      ⟨some r25, .load 1 false (.t r24), none, [6, 5, 4]⟩,
      ⟨some r26, .bin .add (.t r25) (.c (.p (.int .i64 1))), none, [7, 6, 5, 4]⟩,
      ⟨some r27, .sidx (.t r21) (.t r26), none, [3, 2, 1, 0, 8, 7, 6, 5, 4]⟩,
      ⟨some r3, .mov (.t r27), none, [9, 3, 2, 1, 0, 8, 7, 6, 5, 4]⟩])
    (.seq (.seq (.region false [⟨some r28, .mov (.t r3), none, []⟩,
        ⟨some r29, .bin .sub (.t r28) (.c (.p (.int .u8 48))), none, []⟩,
        ⟨some r30, .conv .i64 (.t r29), none, []⟩,
        ⟨some r4, .mov (.t r30), none, []⟩])
      (.block 0 (.seq (.region false [⟨some r32, .mov (.t r3), none, []⟩,
          ⟨some r33, .bin .eql (.t r32) (.c (.p (.int .u8 110))), none, []⟩,
          ⟨some r31, .mov (.t r33), none, []⟩])
        (.cond (.t r31) (.seq (.region false [⟨some r34, .mov (.t r0), none, []⟩,
            ⟨some r35, .call f_rx_reader_one [(.t r34), (.c (.p (.int .u8 10))), (.c (.p (.int .i64 2)))], none, []⟩,
            ⟨none, .store 9 (.t r2) (.t r35), none, []⟩])
          (.ret))
         (.seq (.region false [⟨some r37, .mov (.t r0), none, []⟩,
            ⟨some r38, .nilchk (.t r37), none, []⟩,
            ⟨some r39, .faddr 1 (.t r38), none, []⟩,
            ⟨some r40, .load 1 false (.t r39), none, []⟩,
            ⟨some r41, .call f_rx_escaped [(.t r40)], none, []⟩,
            ⟨some r42, .mov (.t r3), none, []⟩,
            ⟨some r43, .call f_strings_IndexByte [(.t r41), (.t r42)], none, []⟩,
            ⟨some r44, .bin .geq (.t r43) (.c (.p (.int .i64 0))), none, []⟩,
            ⟨some r36, .mov (.t r44), none, []⟩])
          (.cond (.t r36) (.seq (.region false [⟨some r45, .mov (.t r0), none, []⟩,
              ⟨some r46, .mov (.t r3), none, []⟩,
              ⟨some r47, .call f_rx_reader_one [(.t r45), (.t r46), (.c (.p (.int .i64 2)))], none, []⟩,
              ⟨none, .store 9 (.t r2) (.t r47), none, []⟩])
            (.ret))
           (.seq (.region false [⟨some r49, .mov (.t r3), none, []⟩,
              ⟨some r50, .bin .geq (.t r49) (.c (.p (.int .u8 49))), none, []⟩,
              ⟨some r51, .mov (.t r50), none, []⟩,
              ⟨some r52, .mov (.t r3), some (r51, true), []⟩,
              ⟨some r53, .bin .leq (.t r52) (.c (.p (.int .u8 57))), some (r51, true), []⟩,
              ⟨some r54, .pick (.t r51) (.t r53) (.c (.p (.bool false))), none, []⟩,
              ⟨some r55, .mov (.t r54), none, []⟩,
              ⟨some r56, .mov (.t r4), some (r55, true), []⟩,
              ⟨some r57, .mov (.t r0), some (r55, true), []⟩,
              ⟨some r58, .nilchk (.t r57), some (r55, true), []⟩,
              ⟨some r59, .faddr 3 (.t r58), some (r55, true), []⟩,
              ⟨some r60, .load 1 false (.t r59), some (r55, true), []⟩,
              ⟨some r61, .bin .leq (.t r56) (.t r60), some (r55, true), []⟩,
              ⟨some r62, .pick (.t r55) (.t r61) (.c (.p (.bool false))), none, []⟩,
              ⟨some r48, .mov (.t r62), none, []⟩])
            (.cond (.t r48) (.seq (.region false [⟨some r63, .mov (.t r0), none, []⟩,
                ⟨some r64, .nilchk (.t r63), none, []⟩,
                ⟨some r65, .faddr 2 (.t r64), none, []⟩,
                ⟨some r66, .load 1 false (.t r65), none, []⟩,
                ⟨some r67, .bin .add (.t r66) (.c (.p (.int .i64 2))), none, []⟩,
                ⟨some r68, .nilchk (.t r63), none, []⟩,
                ⟨some r69, .faddr 2 (.t r68), none, []⟩,
                ⟨none, .store 1 (.t r69) (.t r67), none, []⟩])
              (.seq (.region false [⟨some r70, .mov (.t r4), none, []⟩,
                 ⟨some r71, .build [.p (.int .i64 0), .p (.int .i64 0), .p (.int .i64 0), .p (.int .i64 0), .p (.int .u64 0), .p (.int .u64 0), .p (.int .u64 0), .p (.int .u64 0), .nils] [(0, 1, (.c (.p (.int .i64 6)))), (3, 1, (.t r70))], none, []⟩,
                 ⟨none, .store 9 (.t r2) (.t r71), none, []⟩])
               (.ret)))
             (.skip)))))))))
     (.seq (.region false [⟨some r72, .mov (.t r0), none, []⟩,
        ⟨some r73, .call f_rx_reader_fail [(.t r72), (.c (.p (.int .i64 1)))], none, []⟩,
        ⟨none, .store 9 (.t r2) (.t r73), none, []⟩])
      (.ret)))))
def ir_rx_reader_behind : VFn := ⟨.heap, 1, b_rx_reader_behind, [.cell r2 9 true]⟩
@[simp] theorem bb_rx_reader_behind : ir_rx_reader_behind.body = b_rx_reader_behind := rfl
@[simp] theorem br_rx_reader_behind : ir_rx_reader_behind.res = [.cell r2 9 true] := rfl
@[simp] theorem bn_rx_reader_behind : ir_rx_reader_behind.nargs = 1 := rfl

/-- (*gloss/rx.reader).interval -/
def b_rx_reader_interval : VCode := .seq (.region false [⟨some r2, .mov (.c (.p (.int .i64 0))), none, []⟩,
    ⟨some r3, .mov (.c (.p (.int .i64 0))), none, []⟩,
    ⟨some r4, .mov (.c (.p (.bool false))), none, []⟩])
  (.seq (.seq (.region false [⟨some r8, .mov (.t r0), none, []⟩,
      ⟨some r9, .call f_rx_reader_number [(.t r8)], none, []⟩,
      ⟨some r7, .mov (.t r9), none, []⟩,
      ⟨some r10, .extr (.t r7) 0, none, []⟩,
      ⟨some r11, .extr (.t r7) 1, none, []⟩,
      ⟨some r2, .mov (.t r10), none, []⟩,
      ⟨some r4, .mov (.t r11), none, []⟩])
    (.seq (.region false [⟨some r12, .mov (.t r4), none, []⟩,
       ⟨some r13, .un .not (.t r12), none, []⟩])
     (.cond (.t r13) (.seq (.region false [⟨some r2, .mov (.c (.p (.int .i64 0))), none, []⟩,
         ⟨some r3, .mov (.c (.p (.int .i64 0))), none, []⟩,
         ⟨some r4, .mov (.c (.p (.bool false))), none, []⟩])
       (.ret))
      (.skip))))
   (.seq (.region false [⟨some r14, .mov (.t r2), none, []⟩,
      ⟨some r3, .mov (.t r14), none, []⟩])
    (.seq (.seq (.region false [⟨some r15, .mov (.t r0), none, []⟩,
        ⟨some r16, .call f_rx_reader_took [(.t r15), (.c (.p (.str [44])))], none, []⟩])
      (.cond (.t r16) (.seq (.region false [⟨some r18, .mov (.t r0), none, []⟩,
          ⟨some r19, .call f_rx_reader_number [(.t r18)], none, []⟩,
          ⟨some r17, .mov (.t r19), none, []⟩,
          ⟨some r20, .extr (.t r17) 0, none, []⟩,
          ⟨some r21, .extr (.t r17) 1, none, []⟩,
          ⟨some r5, .mov (.t r20), none, []⟩,
          ⟨some r6, .mov (.t r21), none, []⟩])
        (.seq (.region false [⟨some r3, .mov (.c (.p (.int .i64 (-1)))), none, []⟩])
         (.seq (.region false [⟨some r22, .mov (.t r6), none, []⟩])
          (.cond (.t r22) (.region false [⟨some r23, .mov (.t r5), none, []⟩,
             ⟨some r3, .mov (.t r23), none, []⟩])
           (.skip)))))
       (.skip)))
     (.seq (.region false [⟨some r24, .mov (.t r2), none, []⟩,
        ⟨some r25, .mov (.t r3), none, []⟩,
        ⟨some r26, .mov (.t r0), none, []⟩,
        ⟨some r27, .mov (.t r0), none, []⟩,
        ⟨some r28, .call f_rx_reader_op [(.t r27), (.c (.p (.str [125])))], none, []⟩,
        ⟨some r29, .call f_rx_reader_took [(.t r26), (.t r28)], none, []⟩,
        ⟨some r2, .mov (.t r24), none, []⟩,
        ⟨some r3, .mov (.t r25), none, []⟩,
        ⟨some r4, .mov (.t r29), none, []⟩])
      (.ret)))))
def ir_rx_reader_interval : VFn := ⟨.heap, 1, b_rx_reader_interval, [.tmp r2, .tmp r3, .tmp r4]⟩
@[simp] theorem bb_rx_reader_interval : ir_rx_reader_interval.body = b_rx_reader_interval := rfl
@[simp] theorem br_rx_reader_interval : ir_rx_reader_interval.res = [.tmp r2, .tmp r3, .tmp r4] := rfl
@[simp] theorem bn_rx_reader_interval : ir_rx_reader_interval.nargs = 1 := rfl

/-- strings.HasPrefix -/
def b_strings_HasPrefix : VCode := .seq (.region false [⟨some r4, .mov (.c (.p (.bool false))), none, []⟩])
  (.seq (.region false [⟨some r5, .mov (.t r0), none, []⟩,
     ⟨some r6, .mov (.t r1), none, []⟩,
     ⟨some r7, .call f_internal_stringslite_HasPrefix [(.t r5), (.t r6)], none, []⟩,
     ⟨some r4, .mov (.t r7), none, []⟩])
   (.ret))
def ir_strings_HasPrefix : VFn := ⟨.borrow, 2, b_strings_HasPrefix, [.tmp r4]⟩
@[simp] theorem bb_strings_HasPrefix : ir_strings_HasPrefix.body = b_strings_HasPrefix := rfl
@[simp] theorem br_strings_HasPrefix : ir_strings_HasPrefix.res = [.tmp r4] := rfl
@[simp] theorem bn_strings_HasPrefix : ir_strings_HasPrefix.nargs = 2 := rfl

/-- gloss/rx.has -/
def b_rx_has : VCode := .seq (.region false [⟨some r3, .box t_S_int (.t r1), none, []⟩,
    ⟨some r4, .mov (.c (.p (.bool false))), none, []⟩])
  (.seq (.region false [⟨some r5, .mov (.t r0), none, []⟩,
     ⟨some r6, .clo f_rx_has_1 [(.t r3)], none, []⟩,
     ⟨some r7, .call f_slices_ContainsFunc_api_Rx_api_Rx [(.t r5), (.t r6)], none, []⟩,
     ⟨some r4, .mov (.t r7), none, []⟩])
   (.ret))
def ir_rx_has : VFn := ⟨.borrow, 2, b_rx_has, [.tmp r4]⟩
@[simp] theorem bb_rx_has : ir_rx_has.body = b_rx_has := rfl
@[simp] theorem br_rx_has : ir_rx_has.res = [.tmp r4] := rfl
@[simp] theorem bn_rx_has : ir_rx_has.nargs = 2 := rfl

/-- gloss/rx.rep -/
def b_rx_rep : VCode := .seq (.region false [⟨some r1, .box t_api_Rx (.t r0), none, []⟩,
    ⟨some r2, .mov (.c (.p (.bool false))), none, []⟩])
  (.seq (.region false [⟨some r3, .faddr 1 (.t r1), none, []⟩,
     ⟨some r4, .load 1 false (.t r3), none, []⟩,
     ⟨some r5, .bin .geq (.t r4) (.c (.p (.int .i64 0))), none, []⟩,
     ⟨some r6, .mov (.t r5), none, []⟩,
     ⟨some r7, .faddr 1 (.t r1), some (r6, true), []⟩,
     ⟨some r8, .load 1 false (.t r7), some (r6, true), []⟩,
     ⟨some r9, .bin .leq (.t r8) (.c (.p (.int .i64 20))), some (r6, true), []⟩,
     ⟨some r10, .pick (.t r6) (.t r9) (.c (.p (.bool false))), none, []⟩,
     ⟨some r11, .mov (.t r10), none, []⟩,
     ⟨some r12, .faddr 2 (.t r1), some (r11, true), []⟩,
     ⟨some r13, .load 1 false (.t r12), some (r11, true), []⟩,
     ⟨some r14, .bin .eql (.t r13) (.c (.p (.int .i64 (-1)))), some (r11, true), []⟩,
     ⟨some r15, .mov (.t r14), some (r11, true), []⟩,
     ⟨some r16, .faddr 2 (.t r1), some (r15, false), []⟩,
     ⟨some r17, .load 1 false (.t r16), some (r15, false), []⟩,
     ⟨some r18, .faddr 1 (.t r1), some (r15, false), []⟩,
     ⟨some r19, .load 1 false (.t r18), some (r15, false), []⟩,
     ⟨some r20, .mx (.t r19) [(.c (.p (.int .i64 1)))], some (r15, false), []⟩,
     ⟨some r21, .bin .geq (.t r17) (.t r20), some (r15, false), []⟩,
     ⟨some r22, .mov (.t r21), some (r15, false), []⟩,
     ⟨some r23, .faddr 2 (.t r1), some (r22, true), []⟩,
     ⟨some r24, .load 1 false (.t r23), some (r22, true), []⟩,
     ⟨some r25, .bin .leq (.t r24) (.c (.p (.int .i64 20))), some (r22, true), []⟩,
     ⟨some r26, .pick (.t r22) (.t r25) (.c (.p (.bool false))), some (r15, false), []⟩,
     ⟨some r27, .pick (.t r15) (.c (.p (.bool true))) (.t r26), some (r11, true), []⟩,
     ⟨some r28, .pick (.t r11) (.t r27) (.c (.p (.bool false))), none, []⟩,
     ⟨some r2, .mov (.t r28), none, []⟩])
   (.ret))
def ir_rx_rep : VFn := ⟨.borrow, 1, b_rx_rep, [.tmp r2]⟩
@[simp] theorem bb_rx_rep : ir_rx_rep.body = b_rx_rep := rfl
@[simp] theorem br_rx_rep : ir_rx_rep.res = [.tmp r2] := rfl
@[simp] theorem bn_rx_rep : ir_rx_rep.nargs = 1 := rfl

/-- internal/stringslite.IndexByte -/
def b_internal_stringslite_IndexByte : VCode := .seq (.region false [⟨some r4, .mov (.c (.p (.int .i64 0))), none, []⟩])
  (.seq (.region false [⟨some r5, .mov (.t r0), none, []⟩,
     ⟨some r6, .mov (.t r1), none, []⟩,
     ⟨some r7, .ext .idxByteStr [(.t r5), (.t r6)], none, []⟩,
     ⟨some r4, .mov (.t r7), none, []⟩])
   (.ret))
def ir_internal_stringslite_IndexByte : VFn := ⟨.borrow, 2, b_internal_stringslite_IndexByte, [.tmp r4]⟩
@[simp] theorem bb_internal_stringslite_IndexByte : ir_internal_stringslite_IndexByte.body = b_internal_stringslite_IndexByte := rfl
@[simp] theorem br_internal_stringslite_IndexByte : ir_internal_stringslite_IndexByte.res = [.tmp r4] := rfl
@[simp] theorem bn_internal_stringslite_IndexByte : ir_internal_stringslite_IndexByte.nargs = 2 := rfl

/-- gloss/bset.Join -/
def m_bset_Join_0 : Mask := (.nd false (.nd false (.nd true (.nd false (.nd true .lf .lf) .lf) .lf) (.nd false (.nd true .lf .lf) .lf)) (.nd true (.nd false (.nd true .lf .lf) .lf) (.nd false (.nd true .lf .lf) (.nd true .lf .lf))))
@[simp] theorem mm_bset_Join_0 : m_bset_Join_0.go = (.nd false (.nd false (.nd true (.nd false (.nd true .lf .lf) .lf) .lf) (.nd false (.nd true .lf .lf) .lf)) (.nd true (.nd false (.nd true .lf .lf) .lf) (.nd false (.nd true .lf .lf) (.nd true .lf .lf)))) := rfl
def c_bset_Join_0 : VCode := .seq (.region false [⟨some r16, .bin .lss (.t r15) (.c (.p (.int .i64 4))), none, []⟩])
 (.seq (.cond (.t r16) (.skip)
   (.exit 2))
  (.seq (.block 3 (.seq (.region false [⟨some r17, .mov (.t r15), none, []⟩,
       ⟨some r18, .aidx 4 1 false (.t r14) (.t r15), none, []⟩,
       ⟨some r6, .mov (.t r17), none, []⟩,
       ⟨some r7, .mov (.t r18), none, []⟩])
     (.region false [⟨some r19, .mov (.t r6), none, []⟩,
       ⟨some r20, .aaddr 4 1 (.t r3) (.t r19), none, []⟩,
       ⟨some r21, .load 1 false (.t r20), none, []⟩,
       ⟨some r22, .mov (.t r7), none, []⟩,
       ⟨some r23, .bin .or (.t r21) (.t r22), none, []⟩,
       ⟨some r24, .aaddr 4 1 (.t r3) (.t r19), none, []⟩,
       ⟨none, .store 1 (.t r24) (.t r23), none, []⟩])))
   (.region false [⟨some r25, .bin .add (.t r15) (.c (.p (.int .i64 1))), none, []⟩,
     ⟨some r15, .mov (.t r25), none, []⟩])))

def m_bset_Join_1 : Mask := (.nd false (.nd false (.nd true .lf .lf) (.nd false (.nd true .lf .lf) .lf)) (.nd true (.nd false (.nd true .lf .lf) .lf) (.nd false (.nd true .lf .lf) .lf)))
@[simp] theorem mm_bset_Join_1 : m_bset_Join_1.go = (.nd false (.nd false (.nd true .lf .lf) (.nd false (.nd true .lf .lf) .lf)) (.nd true (.nd false (.nd true .lf .lf) .lf) (.nd false (.nd true .lf .lf) .lf))) := rfl
def c_bset_Join_1 : VCode := .seq (.region false [⟨some r11, .bin .lss (.t r10) (.t r9), none, []⟩])
 (.seq (.cond (.t r11) (.skip)
   (.exit 0))
  (.seq (.block 1 (.seq (.region false [⟨some r12, .iaddr 4 (.t r8) (.t r10), none, []⟩,
       ⟨some r13, .load 4 true (.t r12), none, []⟩,
       ⟨some r5, .alloc t_api_Set [.p (.int .u64 0), .p (.int .u64 0), .p (.int .u64 0), .p (.int .u64 0)], none, []⟩,
       ⟨none, .store 4 (.t r5) (.t r13), none, []⟩])
     (.seq (.region false [⟨some r14, .load 4 true (.t r5), none, []⟩,
        ⟨some r15, .mov (.c (.p (.int .i64 0))), none, []⟩])
      (.block 2 (.loop m_bset_Join_0 c_bset_Join_0)))))
   (.region false [⟨some r26, .bin .add (.t r10) (.c (.p (.int .i64 1))), none, []⟩,
     ⟨some r10, .mov (.t r26), none, []⟩])))
def b_bset_Join : VCode := .seq (.region false [⟨some r2, .alloc t_api_Set [.p (.int .u64 0), .p (.int .u64 0), .p (.int .u64 0), .p (.int .u64 0)], none, []⟩])
  (.seq (.region false [⟨some r3, .alloc t_api_Set [.p (.int .u64 0), .p (.int .u64 0), .p (.int .u64 0), .p (.int .u64 0)], none, []⟩])
   (.seq (.seq (.region false [⟨some r8, .mov (.t r0), none, []⟩,
       ⟨some r9, .lensl (.t r8), none, []⟩,
       ⟨some r10, .mov (.c (.p (.int .i64 0))), none, []⟩])
     (.block 0 (.loop m_bset_Join_1 c_bset_Join_1)))
    (.seq (.region false [⟨some r27, .load 4 true (.t r3), none, []⟩,
       ⟨none, .store 4 (.t r2) (.t r27), none, []⟩])
     (.ret))))
def ir_bset_Join : VFn := ⟨.freeze, 1, b_bset_Join, [.cell r2 4 true]⟩
@[simp] theorem bb_bset_Join : ir_bset_Join.body = b_bset_Join := rfl
@[simp] theorem br_bset_Join : ir_bset_Join.res = [.cell r2 4 true] := rfl
@[simp] theorem bn_bset_Join : ir_bset_Join.nargs = 1 := rfl

/-- (*gloss/rx.reader).class -/
def b_rx_reader_class : VCode := .seq (.region false [⟨some r2, .alloc t_api_Set [.p (.int .u64 0), .p (.int .u64 0), .p (.int .u64 0), .p (.int .u64 0)], none, []⟩])
  (.seq (.region true [⟨some r9, .mov (.t r0), none, []⟩,
     ⟨some r10, .nilchk (.t r9), none, [0]⟩,
     ⟨some r11, .faddr 0 (.t r10), none, [1, 0]⟩,
     ⟨some r12, .load 1 false (.t r11), none, [2, 1, 0]⟩,
     ⟨some r13, .mov (.t r0), none, []⟩,
     ⟨some r14, .nilchk (.t r13), none, [4]⟩,
     ⟨some r15, .faddr 2 (.t r14), none, [5, 4]⟩,
     ⟨some r16, .load 1 false (.t r15), none, [6, 5, 4]⟩,
     ⟨some r17, .bin .add (.t r16) (.c (.p (.int .i64 2))), none, [7, 6, 5, 4]⟩,
     ⟨some r18, .substr (.t r12) (some (.t r17)) none, none, [3, 2, 1, 0, 8, 7, 6, 5, 4]⟩,
     ⟨some r19, .call f_strings_Cut [(.t r18), (.c (.p (.str [58, 93])))], none, [9, 3, 2, 1, 0, 8, 7, 6, 5, 4]⟩,
     ⟨some r8, .mov (.t r19), none, [10, 9, 3, 2, 1, 0, 8, 7, 6, 5, 4]⟩,
     ⟨some r20, .extr (.t r8) 0, none, [11, 10, 9, 3, 2, 1, 0, 8, 7, 6, 5, 4]⟩,
     ⟨some r21, .extr (.t r8) 1, none, [11, 10, 9, 3, 2, 1, 0, 8, 7, 6, 5, 4]⟩,
     ⟨some r22, .extr (.t r8) 2, none, [11, 10, 9, 3, 2, 1, 0, 8, 7, 6, 5, 4]⟩,
     ⟨some r3, .mov (.t r20), none, [12, 11, 10, 9, 3, 2, 1, 0, 8, 7, 6, 5, 4]⟩,
     ⟨some r4, .mov (.t r21), none, [13, 11, 10, 9, 3, 2, 1, 0, 8, 7, 6, 5, 4, 15, 12]⟩,
     ⟨some r5, .mov (.t r22), none, [14, 11, 10, 9, 3, 2, 1, 0, 8, 7, 6, 5, 4, 16, 13, 15, 12]⟩])
   (.seq (.region false [⟨some r24, .mov (.t r3), none, []⟩,
      ⟨some r25, .call f_bset_Class [(.t r24)], none, []⟩,
      ⟨some r23, .mov (.t r25), none, []⟩,
      ⟨some r26, .extr (.t r23) 0, none, []⟩,
      ⟨some r27, .extr (.t r23) 1, none, []⟩,
      ⟨some r6, .alloc t_api_Set [.p (.int .u64 0), .p (.int .u64 0), .p (.int .u64 0), .p (.int .u64 0)], none, []⟩,
      ⟨none, .store 4 (.t r6) (.t r26), none, []⟩,
      ⟨some r7, .mov (.t r27), none, []⟩])
    (.seq (.seq (.region false [⟨some r28, .mov (.t r5), none, []⟩,
        ⟨some r29, .un .not (.t r28), none, []⟩,
        ⟨some r30, .mov (.t r29), none, []⟩,
        ⟨some r31, .mov (.t r7), some (r30, false), []⟩,
        ⟨some r32, .un .not (.t r31), some (r30, false), []⟩,
        ⟨some r33, .pick (.t r30) (.c (.p (.bool true))) (.t r32), none, []⟩])
      (.cond (.t r33) (.seq (.region false [⟨some r34, .mov (.t r0), none, []⟩,
          ⟨some r35, .call f_rx_reader_fail [(.t r34), (.c (.p (.int .i64 1)))], none, []⟩])
        (.seq (.region false [⟨some r36, .load 4 true (.t r6), none, []⟩,
           ⟨none, .store 4 (.t r2) (.t r36), none, []⟩])
         (.ret)))
       (.skip)))
     (.seq (.region false [⟨some r37, .mov (.t r0), none, []⟩,
        ⟨some r38, .nilchk (.t r37), none, []⟩,
        ⟨some r39, .faddr 2 (.t r38), none, []⟩,
        ⟨some r40, .load 1 false (.t r39), none, []⟩,
        ⟨some r41, .mov (.t r3), none, []⟩,
        ⟨some r42, .lenstr (.t r41), none, []⟩,
        ⟨some r43, .bin .add (.t r42) (.c (.p (.int .i64 4))), none, []⟩,
        ⟨some r44, .bin .add (.t r40) (.t r43), none, []⟩,
        ⟨some r45, .nilchk (.t r37), none, []⟩,
        ⟨some r46, .faddr 2 (.t r45), none, []⟩,
        ⟨none, .store 1 (.t r46) (.t r44), none, []⟩])
      (.seq (.region false [⟨some r47, .load 4 true (.t r6), none, []⟩,
         ⟨none, .store 4 (.t r2) (.t r47), none, []⟩])
       (.ret))))))
def ir_rx_reader_class : VFn := ⟨.heap, 1, b_rx_reader_class, [.cell r2 4 true]⟩
@[simp] theorem bb_rx_reader_class : ir_rx_reader_class.body = b_rx_reader_class := rfl
@[simp] theorem br_rx_reader_class : ir_rx_reader_class.res = [.cell r2 4 true] := rfl
@[simp] theorem bn_rx_reader_class : ir_rx_reader_class.nargs = 1 := rfl

/-- (*gloss/rx.reader).some -/
def b_rx_reader_some : VCode := .seq (.region false [⟨some r2, .alloc t_api_Set [.p (.int .u64 0), .p (.int .u64 0), .p (.int .u64 0), .p (.int .u64 0)], none, []⟩])
  (.seq (.region true [⟨some r5, .mov (.t r0), none, []⟩,
     ⟨some r6, .nilchk (.t r5), none, [0]⟩,
     ⟨some r7, .faddr 0 (.t r6), none, [1, 0]⟩,
     ⟨some r8, .load 1 false (.t r7), none, [2, 1, 0]⟩,
     ⟨some r9, .mov (.t r0), none, []⟩,
     ⟨some r10, .nilchk (.t r9), none, [4]⟩,
     ⟨some r11, .faddr 2 (.t r10), none, [5, 4]⟩,
     ⟨some r12, .load 1 false (.t r11), none, [6, 5, 4]⟩,
     ⟨some r13, .substr (.t r8) (some (.t r12)) none, none, [3, 2, 1, 0, 7, 6, 5, 4]⟩,
     ⟨some r3, .mov (.t r13), none, [8, 3, 2, 1, 0, 7, 6, 5, 4]⟩])
   (.seq (.region false [⟨some r14, .mov (.t r3), none, []⟩,
      ⟨some r15, .sidx (.t r14) (.c (.p (.int .i64 0))), none, []⟩,
      ⟨some r4, .mov (.t r15), none, []⟩])
    (.seq (.seq (.region false [⟨some r16, .mov (.t r3), none, []⟩,
        ⟨some r17, .lenstr (.t r16), none, []⟩,
        ⟨some r18, .bin .lss (.t r17) (.c (.p (.int .i64 3))), none, []⟩,
        ⟨some r19, .mov (.t r18), none, []⟩,
        ⟨some r20, .mov (.t r3), some (r19, false), []⟩,
        ⟨some r21, .sidx (.t r20) (.c (.p (.int .i64 1))), some (r19, false), []⟩,
        ⟨some r22, .bin .neq (.t r21) (.c (.p (.int .u8 45))), some (r19, false), []⟩,
        ⟨some r23, .pick (.t r19) (.c (.p (.bool true))) (.t r22), none, []⟩,
        ⟨some r24, .mov (.t r23), none, []⟩,
        ⟨some r25, .mov (.t r3), some (r24, false), []⟩,
        ⟨some r26, .sidx (.t r25) (.c (.p (.int .i64 2))), some (r24, false), []⟩,
        ⟨some r27, .bin .eql (.t r26) (.c (.p (.int .u8 93))), some (r24, false), []⟩,
        ⟨some r28, .pick (.t r24) (.c (.p (.bool true))) (.t r27), none, []⟩])
      (.cond (.t r28) (.seq (.region false [⟨some r29, .mov (.t r0), none, []⟩,
          ⟨some r30, .nilchk (.t r29), none, []⟩,
          ⟨some r31, .faddr 2 (.t r30), none, []⟩,
          ⟨some r32, .load 1 false (.t r31), none, []⟩,
          ⟨some r33, .bin .add (.t r32) (.c (.p (.int .i64 1))), none, []⟩,
          ⟨some r34, .nilchk (.t r29), none, []⟩,
          ⟨some r35, .faddr 2 (.t r34), none, []⟩,
          ⟨none, .store 1 (.t r35) (.t r33), none, []⟩])
        (.seq (.region false [⟨some r36, .mov (.t r4), none, []⟩,
           ⟨some r37, .bsl t_uint8 1 [.p (.int .u8 0)] 1 [(0, 1, (.t r36))], none, []⟩,
           ⟨some r38, .call f_bset_Of [(.t r37)], none, []⟩,
           ⟨none, .store 4 (.t r2) (.t r38), none, []⟩])
         (.ret)))
       (.skip)))
     (.seq (.seq (.region false [⟨some r39, .mov (.t r3), none, []⟩,
         ⟨some r40, .sidx (.t r39) (.c (.p (.int .i64 2))), none, []⟩,
         ⟨some r41, .mov (.t r4), none, []⟩,
         ⟨some r42, .bin .lss (.t r40) (.t r41), none, []⟩])
       (.cond (.t r42) (.seq (.region false [⟨some r43, .mov (.t r0), none, []⟩,
           ⟨some r44, .call f_rx_reader_fail [(.t r43), (.c (.p (.int .i64 1)))], none, []⟩])
         (.seq (.region false [⟨some r45, .build [.p (.int .u64 0), .p (.int .u64 0), .p (.int .u64 0), .p (.int .u64 0)] [], none, []⟩,
            ⟨none, .store 4 (.t r2) (.t r45), none, []⟩])
          (.ret)))
        (.skip)))
      (.seq (.region false [⟨some r46, .mov (.t r0), none, []⟩,
         ⟨some r47, .nilchk (.t r46), none, []⟩,
         ⟨some r48, .faddr 2 (.t r47), none, []⟩,
         ⟨some r49, .load 1 false (.t r48), none, []⟩,
         ⟨some r50, .bin .add (.t r49) (.c (.p (.int .i64 3))), none, []⟩,
         ⟨some r51, .nilchk (.t r46), none, []⟩,
         ⟨some r52, .faddr 2 (.t r51), none, []⟩,
         ⟨none, .store 1 (.t r52) (.t r50), none, []⟩])
       (.seq (.region false [⟨some r53, .mov (.t r4), none, []⟩,
          ⟨some r54, .mov (.t r3), none, []⟩,
          ⟨some r55, .sidx (.t r54) (.c (.p (.int .i64 2))), none, []⟩,
          ⟨some r56, .call f_bset_Range [(.t r53), (.t r55)], none, []⟩,
          ⟨none, .store 4 (.t r2) (.t r56), none, []⟩])
        (.ret)))))))
def ir_rx_reader_some : VFn := ⟨.heap, 1, b_rx_reader_some, [.cell r2 4 true]⟩
@[simp] theorem bb_rx_reader_some : ir_rx_reader_some.body = b_rx_reader_some := rfl
@[simp] theorem br_rx_reader_some : ir_rx_reader_some.res = [.cell r2 4 true] := rfl
@[simp] theorem bn_rx_reader_some : ir_rx_reader_some.nargs = 1 := rfl

/-- gloss/rx.escaped -/
def b_rx_escaped : VCode := .seq (.region false [⟨some r2, .mov (.c (.p (.str []))), none, []⟩])
  (.seq (.seq (.region false [⟨some r3, .mov (.t r0), none, []⟩])
    (.cond (.t r3) (.seq (.region false [⟨some r2, .mov (.c (.p (.str [46, 91, 93, 42, 94, 36, 92, 47, 43, 63, 123, 125, 124, 40, 41]))), none, []⟩])
      (.ret))
     (.skip)))
   (.seq (.region false [⟨some r2, .mov (.c (.p (.str [46, 91, 93, 42, 94, 36, 92, 47]))), none, []⟩])
    (.ret)))
def ir_rx_escaped : VFn := ⟨.borrow, 1, b_rx_escaped, [.tmp r2]⟩
@[simp] theorem bb_rx_escaped : ir_rx_escaped.body = b_rx_escaped := rfl
@[simp] theorem br_rx_escaped : ir_rx_escaped.res = [.tmp r2] := rfl
@[simp] theorem bn_rx_escaped : ir_rx_escaped.nargs = 1 := rfl

/-- (*gloss/rx.reader).number -/
def m_rx_reader_number_0 : Mask := (.nd true (.nd false .lf (.nd true .lf .lf)) (.nd false (.nd true .lf .lf) .lf))
@[simp] theorem mm_rx_reader_number_0 : m_rx_reader_number_0.go = (.nd true (.nd false .lf (.nd true .lf .lf)) (.nd false (.nd true .lf .lf) .lf)) := rfl
def c_rx_reader_number_0 : VCode := .seq (.seq (.region true [⟨some r10, .mov (.t r0), none, []⟩,
    ⟨some r11, .nilchk (.t r10), none, [0]⟩,
    ⟨some r12, .faddr 2 (.t r11), none, [1, 0]⟩,
    ⟨some r13, .load 1 false (.t r12), none, [2, 1, 0]⟩,
    ⟨some r14, .mov (.t r0), none, []⟩,
    ⟨some r15, .nilchk (.t r14), none, [4]⟩,
    ⟨some r16, .faddr 0 (.t r15), none, [5, 4]⟩,
    ⟨some r17, .load 1 false (.t r16), none, [6, 5, 4]⟩,
    ⟨some r18, .lenstr (.t r17), none, [7, 6, 5, 4]⟩,
    ⟨some r19, .bin .lss (.t r13) (.t r18), none, [3, 2, 1, 0, 8, 7, 6, 5, 4]⟩,
    ⟨some r20, .mov (.t r19), none, [9, 3, 2, 1, 0, 8, 7, 6, 5, 4]⟩,
    ⟨some r21, .mov (.t r0), some (r20, true), [10, 9, 3, 2, 1, 0, 8, 7, 6, 5, 4]⟩,
    ⟨some r22, .nilchk (.t r21), some (r20, true), [11, 10, 9, 3, 2, 1, 0, 8, 7, 6, 5, 4]⟩,
    ⟨some r23, .faddr 0 (.t r22), some (r20, true), [12, 11, 10, 9, 3, 2, 1, 0, 8, 7, 6, 5, 4]⟩,
    ⟨some r24, .load 1 false (.t r23), some (r20, true), [13, 12, 11, 10, 9, 3, 2, 1, 0, 8, 7, 6, 5, 4]⟩,
    ⟨some r25, .mov (.t r0), some (r20, true), [10, 9, 3, 2, 1, 0, 8, 7, 6, 5, 4]⟩,
    ⟨some r26, .nilchk (.t r25), some (r20, true), [15, 10, 9, 3, 2, 1, 0, 8, 7, 6, 5, 4]⟩,
    ⟨some r27, .faddr 2 (.t r26), some (r20, true), [16, 15, 10, 9, 3, 2, 1, 0, 8, 7, 6, 5, 4]⟩,
    ⟨some r28, .load 1 false (.t r27), some (r20, true), [17, 16, 15, 10, 9, 3, 2, 1, 0, 8, 7, 6, 5, 4]⟩,
    ⟨some r29, .sidx (.t r24) (.t r28), some (r20, true), [14, 13, 12, 11, 10, 9, 3, 2, 1, 0, 8, 7, 6, 5, 4, 18, 17, 16, 15]⟩,
    ⟨some r30, .bin .geq (.t r29) (.c (.p (.int .u8 48))), some (r20, true), [19, 14, 13, 12, 11, 10, 9, 3, 2, 1, 0, 8, 7, 6, 5, 4, 18, 17, 16, 15]⟩,
    ⟨some r31, .pick (.t r20) (.t r30) (.c (.p (.bool false))), none, [10, 9, 3, 2, 1, 0, 8, 7, 6, 5, 4, 20, 19, 14, 13, 12, 11, 18, 17, 16, 15]⟩,
    ⟨some r32, .mov (.t r31), none, [21, 10, 9, 3, 2, 1, 0, 8, 7, 6, 5, 4, 20, 19, 14, 13, 12, 11, 18, 17, 16, 15]⟩,
    ⟨some r33, .mov (.t r0), some (r32, true), [22, 21, 10, 9, 3, 2, 1, 0, 8, 7, 6, 5, 4, 20, 19, 14, 13, 12, 11, 18, 17, 16, 15]⟩,
    ⟨some r34, .nilchk (.t r33), some (r32, true), [23, 22, 21, 10, 9, 3, 2, 1, 0, 8, 7, 6, 5, 4, 20, 19, 14, 13, 12, 11, 18, 17, 16, 15]⟩,
    ⟨some r35, .faddr 0 (.t r34), some (r32, true), [24, 23, 22, 21, 10, 9, 3, 2, 1, 0, 8, 7, 6, 5, 4, 20, 19, 14, 13, 12, 11, 18, 17, 16, 15]⟩,
    ⟨some r36, .load 1 false (.t r35), some (r32, true), [25, 24, 23, 22, 21, 10, 9, 3, 2, 1, 0, 8, 7, 6, 5, 4, 20, 19, 14, 13, 12, 11, 18, 17, 16, 15]⟩,
    ⟨some r37, .mov (.t r0), some (r32, true), [22, 21, 10, 9, 3, 2, 1, 0, 8, 7, 6, 5, 4, 20, 19, 14, 13, 12, 11, 18, 17, 16, 15]⟩,
    ⟨some r38, .nilchk (.t r37), some (r32, true), [27, 22, 21, 10, 9, 3, 2, 1, 0, 8, 7, 6, 5, 4, 20, 19, 14, 13, 12, 11, 18, 17, 16, 15]⟩,
    ⟨some r39, .faddr 2 (.t r38), some (r32, true), [28, 27, 22, 21, 10, 9, 3, 2, 1, 0, 8, 7, 6, 5, 4, 20, 19, 14, 13, 12, 11, 18, 17, 16, 15]⟩,
    ⟨some r40, .load 1 false (.t r39), some (r32, true), [29, 28, 27, 22, 21, 10, 9, 3, 2, 1, 0, 8, 7, 6, 5, 4, 20, 19, 14, 13, 12, 11, 18, 17, 16, 15]⟩,
    ⟨some r41, .sidx (.t r36) (.t r40), some (r32, true), [26, 25, 24, 23, 22, 21, 10, 9, 3, 2, 1, 0, 8, 7, 6, 5, 4, 20, 19, 14, 13, 12, 11, 18, 17, 16, 15, 30, 29, 28, 27]⟩,
    ⟨some r42, .bin .leq (.t r41) (.c (.p (.int .u8 57))), some (r32, true), [31, 26, 25, 24, 23, 22, 21, 10, 9, 3, 2, 1, 0, 8, 7, 6, 5, 4, 20, 19, 14, 13, 12, 11, 18, 17, 16, 15, 30, 29, 28, 27]⟩,
    ⟨some r43, .pick (.t r32) (.t r42) (.c (.p (.bool false))), none, [22, 21, 10, 9, 3, 2, 1, 0, 8, 7, 6, 5, 4, 20, 19, 14, 13, 12, 11, 18, 17, 16, 15, 32, 31, 26, 25, 24, 23, 30, 29, 28, 27]⟩])
  (.cond (.t r43) (.skip)
   (.exit 0)))
 (.block 1 (.seq (.region true [⟨some r44, .mov (.t r4), none, []⟩,
     ⟨some r45, .bin .mul (.t r44) (.c (.p (.int .i64 10))), none, [0]⟩,
     ⟨some r46, .mov (.t r0), none, []⟩,
     ⟨some r47, .nilchk (.t r46), none, [2]⟩,
     ⟨some r48, .faddr 0 (.t r47), none, [3, 2]⟩,
     ⟨some r49, .load 1 false (.t r48), none, [4, 3, 2]⟩,
     ⟨some r50, .mov (.t r0), none, []⟩,
     ⟨some r51, .nilchk (.t r50), none, [6]⟩,
     ⟨some r52, .faddr 2 (.t r51), none, [7, 6]⟩,
     ⟨some r53, .load 1 false (.t r52), none, [8, 7, 6]⟩,
     ⟨some r54, .sidx (.t r49) (.t r53), none, [5, 4, 3, 2, 9, 8, 7, 6]⟩,
     ⟨some r55, .bin .sub (.t r54) (.c (.p (.int .u8 48))), none, [10, 5, 4, 3, 2, 9, 8, 7, 6]⟩,
     ⟨some r56, .conv .i64 (.t r55), none, [11, 10, 5, 4, 3, 2, 9, 8, 7, 6]⟩,
     ⟨some r57, .bin .add (.t r45) (.t r56), none, [1, 0, 12, 11, 10, 5, 4, 3, 2, 9, 8, 7, 6]⟩,
     ⟨some r58, .mn (.t r57) [(.c (.p (.int .i64 21)))], none, [13, 1, 0, 12, 11, 10, 5, 4, 3, 2, 9, 8, 7, 6]⟩,
     ⟨some r4, .mov (.t r58), none, [14, 13, 1, 0, 12, 11, 10, 5, 4, 3, 2, 9, 8, 7, 6]⟩])
   (.region false [⟨some r59, .mov (.t r0), none, []⟩,
     ⟨some r60, .nilchk (.t r59), none, []⟩,
     ⟨some r61, .faddr 2 (.t r60), none, []⟩,
     ⟨some r62, .load 1 false (.t r61), none, []⟩,
     ⟨some r63, .bin .add (.t r62) (.c (.p (.int .i64 1))), none, []⟩,
     ⟨some r64, .nilchk (.t r59), none, []⟩,
     ⟨some r65, .faddr 2 (.t r64), none, []⟩,
     ⟨none, .store 1 (.t r65) (.t r63), none, []⟩])))
def b_rx_reader_number : VCode := .seq (.region false [⟨some r2, .mov (.c (.p (.int .i64 0))), none, []⟩,
    ⟨some r3, .mov (.c (.p (.bool false))), none, []⟩])
  (.seq (.region true [⟨some r6, .mov (.t r0), none, []⟩,
     ⟨some r7, .nilchk (.t r6), none, [0]⟩,
     ⟨some r8, .faddr 2 (.t r7), none, [1, 0]⟩,
     ⟨some r9, .load 1 false (.t r8), none, [2, 1, 0]⟩,
     ⟨some r4, .mov (.c (.p (.int .i64 0))), none, []⟩,
     ⟨some r5, .mov (.t r9), none, [3, 2, 1, 0, 4]⟩])
   (.seq (.block 0 (.loop m_rx_reader_number_0 c_rx_reader_number_0))
    (.seq (.region true [⟨some r66, .mov (.t r4), none, []⟩,
       ⟨some r67, .mov (.t r0), none, []⟩,
       ⟨some r68, .nilchk (.t r67), none, [1]⟩,
       ⟨some r69, .faddr 2 (.t r68), none, [2, 1]⟩,
       ⟨some r70, .load 1 false (.t r69), none, [3, 2, 1]⟩,
       ⟨some r71, .mov (.t r5), none, []⟩,
       ⟨some r72, .bin .gtr (.t r70) (.t r71), none, [4, 3, 2, 1, 5]⟩,
       ⟨some r2, .mov (.t r66), none, [0]⟩,
       ⟨some r3, .mov (.t r72), none, [6, 4, 3, 2, 1, 5, 7, 0]⟩])
     (.ret))))
def ir_rx_reader_number : VFn := ⟨.heap, 1, b_rx_reader_number, [.tmp r2, .tmp r3]⟩
@[simp] theorem bb_rx_reader_number : ir_rx_reader_number.body = b_rx_reader_number := rfl
@[simp] theorem br_rx_reader_number : ir_rx_reader_number.res = [.tmp r2, .tmp r3] := rfl
@[simp] theorem bn_rx_reader_number : ir_rx_reader_number.nargs = 1 := rfl

/-- internal/stringslite.HasPrefix -/
def b_internal_stringslite_HasPrefix : VCode := .seq (.region false [⟨some r4, .mov (.c (.p (.bool false))), none, []⟩])
  (.seq (.region false [⟨some r5, .mov (.t r0), none, []⟩,
     ⟨some r6, .lenstr (.t r5), none, []⟩,
     ⟨some r7, .mov (.t r1), none, []⟩,
     ⟨some r8, .lenstr (.t r7), none, []⟩,
     ⟨some r9, .bin .geq (.t r6) (.t r8), none, []⟩,
     ⟨some r10, .mov (.t r9), none, []⟩,
     ⟨some r11, .mov (.t r0), some (r10, true), []⟩,
     ⟨some r12, .mov (.t r1), some (r10, true), []⟩,
     ⟨some r13, .lenstr (.t r12), some (r10, true), []⟩,
     ⟨some r14, .substr (.t r11) none (some (.t r13)), some (r10, true), []⟩,
     ⟨some r15, .mov (.t r1), some (r10, true), []⟩,
     ⟨some r16, .bin .eql (.t r14) (.t r15), some (r10, true), []⟩,
     ⟨some r17, .pick (.t r10) (.t r16) (.c (.p (.bool false))), none, []⟩,
     ⟨some r4, .mov (.t r17), none, []⟩])
   (.ret))
def ir_internal_stringslite_HasPrefix : VFn := ⟨.borrow, 2, b_internal_stringslite_HasPrefix, [.tmp r4]⟩
@[simp] theorem bb_internal_stringslite_HasPrefix : ir_internal_stringslite_HasPrefix.body = b_internal_stringslite_HasPrefix := rfl
@[simp] theorem br_internal_stringslite_HasPrefix : ir_internal_stringslite_HasPrefix.res = [.tmp r4] := rfl
@[simp] theorem bn_internal_stringslite_HasPrefix : ir_internal_stringslite_HasPrefix.nargs = 2 := rfl

/-- slices.ContainsFunc[[]gloss/api.Rx,gloss/api.Rx] -/
def b_slices_ContainsFunc_api_Rx_api_Rx : VCode := .seq (.region false [⟨some r4, .mov (.c (.p (.bool false))), none, []⟩])
  (.seq (.region false [⟨some r5, .mov (.t r0), none, []⟩,
     ⟨some r6, .mov (.t r1), none, []⟩,
     ⟨some r7, .call f_slices_IndexFunc_api_Rx_api_Rx [(.t r5), (.t r6)], none, []⟩,
     ⟨some r8, .bin .geq (.t r7) (.c (.p (.int .i64 0))), none, []⟩,
     ⟨some r4, .mov (.t r8), none, []⟩])
   (.ret))
def ir_slices_ContainsFunc_api_Rx_api_Rx : VFn := ⟨.heap, 2, b_slices_ContainsFunc_api_Rx_api_Rx, [.tmp r4]⟩
@[simp] theorem bb_slices_ContainsFunc_api_Rx_api_Rx : ir_slices_ContainsFunc_api_Rx_api_Rx.body = b_slices_ContainsFunc_api_Rx_api_Rx := rfl
@[simp] theorem br_slices_ContainsFunc_api_Rx_api_Rx : ir_slices_ContainsFunc_api_Rx_api_Rx.res = [.tmp r4] := rfl
@[simp] theorem bn_slices_ContainsFunc_api_Rx_api_Rx : ir_slices_ContainsFunc_api_Rx_api_Rx.nargs = 2 := rfl

/-- gloss/rx.has$1 -/
def b_rx_has_1 : VCode := .seq (.region false [⟨some r2, .box t_api_Rx (.t r0), none, []⟩,
    ⟨some r3, .mov (.c (.p (.bool false))), none, []⟩])
  (.seq (.region false [⟨some r4, .load 1 false (.t r1), none, []⟩,
     ⟨some r5, .faddr 0 (.t r2), none, []⟩,
     ⟨some r6, .load 1 false (.t r5), none, []⟩,
     ⟨some r7, .call f_slices_Contains_int_int [(.t r4), (.t r6)], none, []⟩,
     ⟨some r3, .mov (.t r7), none, []⟩])
   (.ret))
def ir_rx_has_1 : VFn := ⟨.heap, 2, b_rx_has_1, [.tmp r3]⟩
@[simp] theorem bb_rx_has_1 : ir_rx_has_1.body = b_rx_has_1 := rfl
@[simp] theorem br_rx_has_1 : ir_rx_has_1.res = [.tmp r3] := rfl
@[simp] theorem bn_rx_has_1 : ir_rx_has_1.nargs = 2 := rfl

/-- slices.Contains[[]int,int] -/
def b_slices_Contains_int_int : VCode := .seq (.region false [⟨some r4, .mov (.c (.p (.bool false))), none, []⟩])
  (.seq (.region false [⟨some r5, .mov (.t r0), none, []⟩,
     ⟨some r6, .mov (.t r1), none, []⟩,
     ⟨some r7, .call f_slices_Index_int_int [(.t r5), (.t r6)], none, []⟩,
     ⟨some r8, .bin .geq (.t r7) (.c (.p (.int .i64 0))), none, []⟩,
     ⟨some r4, .mov (.t r8), none, []⟩])
   (.ret))
def ir_slices_Contains_int_int : VFn := ⟨.heap, 2, b_slices_Contains_int_int, [.tmp r4]⟩
@[simp] theorem bb_slices_Contains_int_int : ir_slices_Contains_int_int.body = b_slices_Contains_int_int := rfl
@[simp] theorem br_slices_Contains_int_int : ir_slices_Contains_int_int.res = [.tmp r4] := rfl
@[simp] theorem bn_slices_Contains_int_int : ir_slices_Contains_int_int.nargs = 2 := rfl

/-- gloss/bset.Class -/
def b_bset_Class : VCode := .seq (.region false [⟨some r2, .alloc t_api_Set [.p (.int .u64 0), .p (.int .u64 0), .p (.int .u64 0), .p (.int .u64 0)], none, []⟩,
    ⟨some r3, .mov (.c (.p (.bool false))), none, []⟩])
  (.seq (.region false [⟨some r11, .call f_bset_Range [(.c (.p (.int .u8 65))), (.c (.p (.int .u8 90)))], none, []⟩,
     ⟨some r12, .call f_bset_Range [(.c (.p (.int .u8 97))), (.c (.p (.int .u8 122)))], none, []⟩,
     ⟨some r13, .call f_bset_Range [(.c (.p (.int .u8 48))), (.c (.p (.int .u8 57)))], none, []⟩,
     ⟨some r4, .alloc t_api_Set [.p (.int .u64 0), .p (.int .u64 0), .p (.int .u64 0), .p (.int .u64 0)], none, []⟩,
     ⟨some r5, .alloc t_api_Set [.p (.int .u64 0), .p (.int .u64 0), .p (.int .u64 0), .p (.int .u64 0)], none, []⟩,
     ⟨some r6, .alloc t_api_Set [.p (.int .u64 0), .p (.int .u64 0), .p (.int .u64 0), .p (.int .u64 0)], none, []⟩,
     ⟨none, .store 4 (.t r4) (.t r11), none, []⟩,
     ⟨none, .store 4 (.t r5) (.t r12), none, []⟩,
     ⟨none, .store 4 (.t r6) (.t r13), none, []⟩])
   (.seq (.region false [⟨some r14, .load 4 true (.t r4), none, []⟩,
      ⟨some r15, .load 4 true (.t r5), none, []⟩,
      ⟨some r16, .bsl t_api_Set 4 [.p (.int .u64 0), .p (.int .u64 0), .p (.int .u64 0), .p (.int .u64 0), .p (.int .u64 0), .p (.int .u64 0), .p (.int .u64 0), .p (.int .u64 0)] 2 [(0, 4, (.t r14)), (4, 4, (.t r15))], none, []⟩,
      ⟨some r17, .call f_bset_Join [(.t r16)], none, []⟩,
      ⟨some r18, .bsl t_uint8 1 [.p (.int .u8 0), .p (.int .u8 0)] 2 [(0, 1, (.c (.p (.int .u8 32)))), (1, 1, (.c (.p (.int .u8 9))))], none, []⟩,
      ⟨some r19, .call f_bset_Of [(.t r18)], none, []⟩,
      ⟨some r20, .call f_bset_Range [(.c (.p (.int .u8 33))), (.c (.p (.int .u8 126)))], none, []⟩,
      ⟨some r7, .alloc t_api_Set [.p (.int .u64 0), .p (.int .u64 0), .p (.int .u64 0), .p (.int .u64 0)], none, []⟩,
      ⟨some r8, .alloc t_api_Set [.p (.int .u64 0), .p (.int .u64 0), .p (.int .u64 0), .p (.int .u64 0)], none, []⟩,
      ⟨some r9, .alloc t_api_Set [.p (.int .u64 0), .p (.int .u64 0), .p (.int .u64 0), .p (.int .u64 0)], none, []⟩,
      ⟨none, .store 4 (.t r7) (.t r17), none, []⟩,
      ⟨none, .store 4 (.t r8) (.t r19), none, []⟩,
      ⟨none, .store 4 (.t r9) (.t r20), none, []⟩])
    (.seq (.region false [⟨some r21, .load 4 true (.t r7), none, []⟩,
       ⟨some r22, .load 4 true (.t r6), none, []⟩,
       ⟨some r23, .bsl t_api_Set 4 [.p (.int .u64 0), .p (.int .u64 0), .p (.int .u64 0), .p (.int .u64 0), .p (.int .u64 0), .p (.int .u64 0), .p (.int .u64 0), .p (.int .u64 0)] 2 [(0, 4, (.t r21)), (4, 4, (.t r22))], none, []⟩,
       ⟨some r24, .call f_bset_Join [(.t r23)], none, []⟩,
       ⟨some r10, .alloc t_api_Set [.p (.int .u64 0), .p (.int .u64 0), .p (.int .u64 0), .p (.int .u64 0)], none, []⟩,
       ⟨none, .store 4 (.t r10) (.t r24), none, []⟩])
     (.seq (.seq (.region false [⟨some r25, .mov (.t r0), none, []⟩])
       (.block 0 (.seq (.region false [⟨some r27, .bin .eql (.t r25) (.c (.p (.str [97, 108, 112, 104, 97]))), none, []⟩,
           ⟨some r26, .mov (.t r27), none, []⟩])
         (.cond (.t r26) (.seq (.region false [⟨some r28, .load 4 true (.t r7), none, []⟩,
             ⟨none, .store 4 (.t r2) (.t r28), none, []⟩,
             ⟨some r3, .mov (.c (.p (.bool true))), none, []⟩])
           (.ret))
          (.seq (.region false [⟨some r30, .bin .eql (.t r25) (.c (.p (.str [100, 105, 103, 105, 116]))), none, []⟩,
             ⟨some r29, .mov (.t r30), none, []⟩])
           (.cond (.t r29) (.seq (.region false [⟨some r31, .load 4 true (.t r6), none, []⟩,
               ⟨none, .store 4 (.t r2) (.t r31), none, []⟩,
               ⟨some r3, .mov (.c (.p (.bool true))), none, []⟩])
             (.ret))
            (.seq (.region false [⟨some r33, .bin .eql (.t r25) (.c (.p (.str [97, 108, 110, 117, 109]))), none, []⟩,
               ⟨some r32, .mov (.t r33), none, []⟩])
             (.cond (.t r32) (.seq (.region false [⟨some r34, .load 4 true (.t r10), none, []⟩,
                 ⟨none, .store 4 (.t r2) (.t r34), none, []⟩,
                 ⟨some r3, .mov (.c (.p (.bool true))), none, []⟩])
               (.ret))
              (.seq (.region false [⟨some r36, .bin .eql (.t r25) (.c (.p (.str [117, 112, 112, 101, 114]))), none, []⟩,
                 ⟨some r35, .mov (.t r36), none, []⟩])
               (.cond (.t r35) (.seq (.region false [⟨some r37, .load 4 true (.t r4), none, []⟩,
                   ⟨none, .store 4 (.t r2) (.t r37), none, []⟩,
                   ⟨some r3, .mov (.c (.p (.bool true))), none, []⟩])
                 (.ret))
                (.seq (.region false [⟨some r39, .bin .eql (.t r25) (.c (.p (.str [108, 111, 119, 101, 114]))), none, []⟩,
                   ⟨some r38, .mov (.t r39), none, []⟩])
                 (.cond (.t r38) (.seq (.region false [⟨some r40, .load 4 true (.t r5), none, []⟩,
                     ⟨none, .store 4 (.t r2) (.t r40), none, []⟩,
                     ⟨some r3, .mov (.c (.p (.bool true))), none, []⟩])
                   (.ret))
                  (.seq (.region false [⟨some r42, .bin .eql (.t r25) (.c (.p (.str [115, 112, 97, 99, 101]))), none, []⟩,
                     ⟨some r41, .mov (.t r42), none, []⟩])
                   (.cond (.t r41) (.seq (.region false [⟨some r43, .bsl t_uint8 1 [.p (.int .u8 0)] 1 [(0, 1, (.c (.p (.int .u8 32))))], none, []⟩,
                       ⟨some r44, .call f_bset_Of [(.t r43)], none, []⟩,
                       ⟨some r45, .call f_bset_Range [(.c (.p (.int .u8 9))), (.c (.p (.int .u8 13)))], none, []⟩,
                       ⟨some r46, .bsl t_api_Set 4 [.p (.int .u64 0), .p (.int .u64 0), .p (.int .u64 0), .p (.int .u64 0), .p (.int .u64 0), .p (.int .u64 0), .p (.int .u64 0), .p (.int .u64 0)] 2 [(0, 4, (.t r44)), (4, 4, (.t r45))], none, []⟩,
                       ⟨some r47, .call f_bset_Join [(.t r46)], none, []⟩,
                       ⟨none, .store 4 (.t r2) (.t r47), none, []⟩,
                       ⟨some r3, .mov (.c (.p (.bool true))), none, []⟩])
                     (.ret))
                    (.seq (.region false [⟨some r49, .bin .eql (.t r25) (.c (.p (.str [98, 108, 97, 110, 107]))), none, []⟩,
                       ⟨some r48, .mov (.t r49), none, []⟩])
                     (.cond (.t r48) (.seq (.region false [⟨some r50, .load 4 true (.t r8), none, []⟩,
                         ⟨none, .store 4 (.t r2) (.t r50), none, []⟩,
                         ⟨some r3, .mov (.c (.p (.bool true))), none, []⟩])
                       (.ret))
                      (.seq (.region false [⟨some r52, .bin .eql (.t r25) (.c (.p (.str [112, 117, 110, 99, 116]))), none, []⟩,
                         ⟨some r51, .mov (.t r52), none, []⟩])
                       (.cond (.t r51) (.seq (.region false [⟨some r53, .load 4 true (.t r9), none, []⟩,
                           ⟨some r54, .load 4 true (.t r10), none, []⟩,
                           ⟨some r55, .call f_bset_less [(.t r53), (.t r54)], none, []⟩,
                           ⟨none, .store 4 (.t r2) (.t r55), none, []⟩,
                           ⟨some r3, .mov (.c (.p (.bool true))), none, []⟩])
                         (.ret))
                        (.seq (.region false [⟨some r57, .bin .eql (.t r25) (.c (.p (.str [112, 114, 105, 110, 116]))), none, []⟩,
                           ⟨some r56, .mov (.t r57), none, []⟩])
                         (.cond (.t r56) (.seq (.region false [⟨some r58, .call f_bset_Range [(.c (.p (.int .u8 32))), (.c (.p (.int .u8 126)))], none, []⟩,
                             ⟨none, .store 4 (.t r2) (.t r58), none, []⟩,
                             ⟨some r3, .mov (.c (.p (.bool true))), none, []⟩])
                           (.ret))
                          (.seq (.region false [⟨some r60, .bin .eql (.t r25) (.c (.p (.str [103, 114, 97, 112, 104]))), none, []⟩,
                             ⟨some r59, .mov (.t r60), none, []⟩])
                           (.cond (.t r59) (.seq (.region false [⟨some r61, .load 4 true (.t r9), none, []⟩,
                               ⟨none, .store 4 (.t r2) (.t r61), none, []⟩,
                               ⟨some r3, .mov (.c (.p (.bool true))), none, []⟩])
                             (.ret))
                            (.seq (.region false [⟨some r63, .bin .eql (.t r25) (.c (.p (.str [99, 110, 116, 114, 108]))), none, []⟩,
                               ⟨some r62, .mov (.t r63), none, []⟩])
                             (.cond (.t r62) (.seq (.region false [⟨some r64, .call f_bset_Range [(.c (.p (.int .u8 0))), (.c (.p (.int .u8 31)))], none, []⟩,
                                 ⟨some r65, .bsl t_uint8 1 [.p (.int .u8 0)] 1 [(0, 1, (.c (.p (.int .u8 127))))], none, []⟩,
                                 ⟨some r66, .call f_bset_Of [(.t r65)], none, []⟩,
                                 ⟨some r67, .bsl t_api_Set 4 [.p (.int .u64 0), .p (.int .u64 0), .p (.int .u64 0), .p (.int .u64 0), .p (.int .u64 0), .p (.int .u64 0), .p (.int .u64 0), .p (.int .u64 0)] 2 [(0, 4, (.t r64)), (4, 4, (.t r66))], none, []⟩,
                                 ⟨some r68, .call f_bset_Join [(.t r67)], none, []⟩,
                                 ⟨none, .store 4 (.t r2) (.t r68), none, []⟩,
                                 ⟨some r3, .mov (.c (.p (.bool true))), none, []⟩])
                               (.ret))
                              (.seq (.region false [⟨some r70, .bin .eql (.t r25) (.c (.p (.str [120, 100, 105, 103, 105, 116]))), none, []⟩,
                                 ⟨some r69, .mov (.t r70), none, []⟩])
                               (.cond (.t r69) (.seq (.region true [⟨some r71, .load 4 true (.t r6), none, []⟩,
                                   ⟨some r72, .call f_bset_Range [(.c (.p (.int .u8 97))), (.c (.p (.int .u8 102)))], none, []⟩,
                                   ⟨some r73, .call f_bset_Range [(.c (.p (.int .u8 65))), (.c (.p (.int .u8 70)))], none, [1]⟩,
                                   ⟨some r74, .bsl t_api_Set 4 [.p (.int .u64 0), .p (.int .u64 0), .p (.int .u64 0), .p (.int .u64 0), .p (.int .u64 0), .p (.int .u64 0), .p (.int .u64 0), .p (.int .u64 0), .p (.int .u64 0), .p (.int .u64 0), .p (.int .u64 0), .p (.int .u64 0)] 3 [(0, 4, (.t r71)), (4, 4, (.t r72)), (8, 4, (.t r73))], none, [0, 1, 2]⟩,
                                   ⟨some r75, .call f_bset_Join [(.t r74)], none, [3, 0, 1, 2]⟩,
                                   ⟨none, .store 4 (.t r2) (.t r75), none, [4, 3, 0, 1, 2]⟩,
                                   ⟨some r3, .mov (.c (.p (.bool true))), none, [5, 4, 3, 0, 1, 2]⟩])
                                 (.ret))
                                (.skip)))))))))))))))))))))))))))
      (.seq (.region false [⟨some r76, .build [.p (.int .u64 0), .p (.int .u64 0), .p (.int .u64 0), .p (.int .u64 0)] [], none, []⟩,
         ⟨none, .store 4 (.t r2) (.t r76), none, []⟩,
         ⟨some r3, .mov (.c (.p (.bool false))), none, []⟩])
       (.ret))))))
def ir_bset_Class : VFn := ⟨.freeze, 1, b_bset_Class, [.cell r2 4 true, .tmp r3]⟩
@[simp] theorem bb_bset_Class : ir_bset_Class.body = b_bset_Class := rfl
@[simp] theorem br_bset_Class : ir_bset_Class.res = [.cell r2 4 true, .tmp r3] := rfl
@[simp] theorem bn_bset_Class : ir_bset_Class.nargs = 1 := rfl

/-- gloss/bset.Range -/
def m_bset_Range_0 : Mask := (.nd false (.nd true .lf (.nd true .lf .lf)) (.nd false (.nd true .lf .lf) (.nd true .lf .lf)))
@[simp] theorem mm_bset_Range_0 : m_bset_Range_0.go = (.nd false (.nd true .lf (.nd true .lf .lf)) (.nd false (.nd true .lf .lf) (.nd true .lf .lf))) := rfl
def c_bset_Range_0 : VCode := .seq (.seq (.region false [⟨some r9, .mov (.t r6), none, []⟩,
    ⟨some r10, .mov (.t r1), none, []⟩,
    ⟨some r11, .conv .i64 (.t r10), none, []⟩,
    ⟨some r12, .bin .leq (.t r9) (.t r11), none, []⟩])
  (.cond (.t r12) (.skip)
   (.exit 0)))
 (.seq (.block 1 (.region true [⟨some r15, .load 4 true (.t r5), none, []⟩,
     ⟨some r16, .mov (.t r6), none, []⟩,
     ⟨some r17, .conv .u8 (.t r16), none, [1]⟩,
     ⟨some r18, .bsl t_uint8 1 [.p (.int .u8 0)] 1 [(0, 1, (.t r17))], none, [2, 1]⟩,
     ⟨some r19, .call f_bset_Of [(.t r18)], none, [3, 2, 1]⟩,
     ⟨some r20, .bsl t_api_Set 4 [.p (.int .u64 0), .p (.int .u64 0), .p (.int .u64 0), .p (.int .u64 0), .p (.int .u64 0), .p (.int .u64 0), .p (.int .u64 0), .p (.int .u64 0)] 2 [(0, 4, (.t r15)), (4, 4, (.t r19))], none, [0, 4, 3, 2, 1]⟩,
     ⟨some r21, .call f_bset_Join [(.t r20)], none, [5, 0, 4, 3, 2, 1]⟩,
     ⟨none, .store 4 (.t r5) (.t r21), none, [6, 5, 0, 4, 3, 2, 1]⟩]))
  (.region false [⟨some r13, .mov (.t r6), none, []⟩,
    ⟨some r14, .bin .add (.t r13) (.c (.p (.int .i64 1))), none, []⟩,
    ⟨some r6, .mov (.t r14), none, []⟩]))
def b_bset_Range : VCode := .seq (.region false [⟨some r4, .alloc t_api_Set [.p (.int .u64 0), .p (.int .u64 0), .p (.int .u64 0), .p (.int .u64 0)], none, []⟩])
  (.seq (.region false [⟨some r5, .alloc t_api_Set [.p (.int .u64 0), .p (.int .u64 0), .p (.int .u64 0), .p (.int .u64 0)], none, []⟩])
   (.seq (.seq (.region false [⟨some r7, .mov (.t r0), none, []⟩,
       ⟨some r8, .conv .i64 (.t r7), none, []⟩,
       ⟨some r6, .mov (.t r8), none, []⟩])
     (.block 0 (.loop m_bset_Range_0 c_bset_Range_0)))
    (.seq (.region false [⟨some r22, .load 4 true (.t r5), none, []⟩,
       ⟨none, .store 4 (.t r4) (.t r22), none, []⟩])
     (.ret))))
def ir_bset_Range : VFn := ⟨.freeze, 2, b_bset_Range, [.cell r4 4 true]⟩
@[simp] theorem bb_bset_Range : ir_bset_Range.body = b_bset_Range := rfl
@[simp] theorem br_bset_Range : ir_bset_Range.res = [.cell r4 4 true] := rfl
@[simp] theorem bn_bset_Range : ir_bset_Range.nargs = 2 := rfl

/-- slices.IndexFunc[[]gloss/api.Rx,gloss/api.Rx] -/
def m_slices_IndexFunc_api_Rx_api_Rx_0 : Mask := (.nd true (.nd true (.nd false (.nd true .lf .lf) .lf) .lf) (.nd false (.nd false (.nd true .lf .lf) .lf) .lf))
@[simp] theorem mm_slices_IndexFunc_api_Rx_api_Rx_0 : m_slices_IndexFunc_api_Rx_api_Rx_0.go = (.nd true (.nd true (.nd false (.nd true .lf .lf) .lf) .lf) (.nd false (.nd false (.nd true .lf .lf) .lf) .lf)) := rfl
def c_slices_IndexFunc_api_Rx_api_Rx_0 : VCode := .seq (.region false [⟨some r9, .bin .lss (.t r8) (.t r7), none, []⟩])
 (.seq (.cond (.t r9) (.skip)
   (.exit 0))
  (.seq (.block 1 (.seq (.region false [⟨some r10, .mov (.t r8), none, []⟩,
       ⟨some r5, .mov (.t r10), none, []⟩])
     (.seq (.region false [⟨some r11, .mov (.t r1), none, []⟩,
        ⟨some r12, .mov (.t r0), none, []⟩,
        ⟨some r13, .mov (.t r5), none, []⟩,
        ⟨some r14, .iaddr 9 (.t r12) (.t r13), none, []⟩,
        ⟨some r15, .load 9 true (.t r14), none, []⟩,
        ⟨some r16, .callv (.t r11) [(.t r15)], none, []⟩])
      (.cond (.t r16) (.seq (.region false [⟨some r17, .mov (.t r5), none, []⟩,
          ⟨some r4, .mov (.t r17), none, []⟩])
        (.ret))
       (.skip)))))
   (.region false [⟨some r18, .bin .add (.t r8) (.c (.p (.int .i64 1))), none, []⟩,
     ⟨some r8, .mov (.t r18), none, []⟩])))
def b_slices_IndexFunc_api_Rx_api_Rx : VCode := .seq (.region false [⟨some r4, .mov (.c (.p (.int .i64 0))), none, []⟩])
  (.seq (.seq (.region false [⟨some r6, .mov (.t r0), none, []⟩,
      ⟨some r7, .lensl (.t r6), none, []⟩,
      ⟨some r8, .mov (.c (.p (.int .i64 0))), none, []⟩])
    (.block 0 (.loop m_slices_IndexFunc_api_Rx_api_Rx_0 c_slices_IndexFunc_api_Rx_api_Rx_0)))
   (.seq (.region false [⟨some r4, .mov (.c (.p (.int .i64 (-1)))), none, []⟩])
    (.ret)))
def ir_slices_IndexFunc_api_Rx_api_Rx : VFn := ⟨.heap, 2, b_slices_IndexFunc_api_Rx_api_Rx, [.tmp r4]⟩
@[simp] theorem bb_slices_IndexFunc_api_Rx_api_Rx : ir_slices_IndexFunc_api_Rx_api_Rx.body = b_slices_IndexFunc_api_Rx_api_Rx := rfl
@[simp] theorem br_slices_IndexFunc_api_Rx_api_Rx : ir_slices_IndexFunc_api_Rx_api_Rx.res = [.tmp r4] := rfl
@[simp] theorem bn_slices_IndexFunc_api_Rx_api_Rx : ir_slices_IndexFunc_api_Rx_api_Rx.nargs = 2 := rfl

/-- slices.Index[[]int,int] -/
def m_slices_Index_int_int_0 : Mask := (.nd true (.nd true (.nd false (.nd true .lf .lf) .lf) .lf) (.nd false (.nd false (.nd true .lf .lf) .lf) .lf))
@[simp] theorem mm_slices_Index_int_int_0 : m_slices_Index_int_int_0.go = (.nd true (.nd true (.nd false (.nd true .lf .lf) .lf) .lf) (.nd false (.nd false (.nd true .lf .lf) .lf) .lf)) := rfl
def c_slices_Index_int_int_0 : VCode := .seq (.region false [⟨some r9, .bin .lss (.t r8) (.t r7), none, []⟩])
 (.seq (.cond (.t r9) (.skip)
   (.exit 0))
  (.seq (.block 1 (.seq (.region false [⟨some r10, .mov (.t r8), none, []⟩,
       ⟨some r5, .mov (.t r10), none, []⟩])
     (.seq (.region false [⟨some r11, .mov (.t r1), none, []⟩,
        ⟨some r12, .mov (.t r0), none, []⟩,
        ⟨some r13, .mov (.t r5), none, []⟩,
        ⟨some r14, .iaddr 1 (.t r12) (.t r13), none, []⟩,
        ⟨some r15, .load 1 false (.t r14), none, []⟩,
        ⟨some r16, .bin .eql (.t r11) (.t r15), none, []⟩])
      (.cond (.t r16) (.seq (.region false [⟨some r17, .mov (.t r5), none, []⟩,
          ⟨some r4, .mov (.t r17), none, []⟩])
        (.ret))
       (.skip)))))
   (.region false [⟨some r18, .bin .add (.t r8) (.c (.p (.int .i64 1))), none, []⟩,
     ⟨some r8, .mov (.t r18), none, []⟩])))
def b_slices_Index_int_int : VCode := .seq (.region false [⟨some r4, .mov (.c (.p (.int .i64 0))), none, []⟩])
  (.seq (.seq (.region false [⟨some r6, .mov (.t r0), none, []⟩,
      ⟨some r7, .lensl (.t r6), none, []⟩,
      ⟨some r8, .mov (.c (.p (.int .i64 0))), none, []⟩])
    (.block 0 (.loop m_slices_Index_int_int_0 c_slices_Index_int_int_0)))
   (.seq (.region false [⟨some r4, .mov (.c (.p (.int .i64 (-1)))), none, []⟩])
    (.ret)))
def ir_slices_Index_int_int : VFn := ⟨.heap, 2, b_slices_Index_int_int, [.tmp r4]⟩
@[simp] theorem bb_slices_Index_int_int : ir_slices_Index_int_int.body = b_slices_Index_int_int := rfl
@[simp] theorem br_slices_Index_int_int : ir_slices_Index_int_int.res = [.tmp r4] := rfl
@[simp] theorem bn_slices_Index_int_int : ir_slices_Index_int_int.nargs = 2 := rfl

/-- gloss/bset.less -/
def b_bset_less : VCode := .seq (.region false [⟨some r2, .box t_api_Set (.t r0), none, []⟩,
    ⟨some r3, .box t_api_Set (.t r1), none, []⟩,
    ⟨some r4, .alloc t_api_Set [.p (.int .u64 0), .p (.int .u64 0), .p (.int .u64 0), .p (.int .u64 0)], none, []⟩])
  (.seq (.region true [⟨some r5, .load 4 true (.t r2), none, []⟩,
     ⟨some r6, .call f_bset_Not [(.t r5)], none, [0]⟩,
     ⟨some r7, .load 4 true (.t r3), none, []⟩,
     ⟨some r8, .bsl t_api_Set 4 [.p (.int .u64 0), .p (.int .u64 0), .p (.int .u64 0), .p (.int .u64 0), .p (.int .u64 0), .p (.int .u64 0), .p (.int .u64 0), .p (.int .u64 0)] 2 [(0, 4, (.t r6)), (4, 4, (.t r7))], none, [1, 0, 2]⟩,
     ⟨some r9, .call f_bset_Join [(.t r8)], none, [3, 1, 0, 2]⟩,
     ⟨some r10, .call f_bset_Not [(.t r9)], none, [4, 3, 1, 0, 2]⟩,
     ⟨none, .store 4 (.t r4) (.t r10), none, [5, 4, 3, 1, 0, 2]⟩])
   (.ret))
def ir_bset_less : VFn := ⟨.freeze, 2, b_bset_less, [.cell r4 4 true]⟩
@[simp] theorem bb_bset_less : ir_bset_less.body = b_bset_less := rfl
@[simp] theorem br_bset_less : ir_bset_less.res = [.cell r4 4 true] := rfl
@[simp] theorem bn_bset_less : ir_bset_less.nargs = 2 := rfl


def irs : List (Option VFn) := [none, none, none, none, none, none, none, some ir_glosslaw7_TplFill, none, none, none, none, none, none, some ir_glosskeep_Text, some ir_bset_Of, some ir_find_All, none, none, none, some ir_rx_Parse, none, some ir_tpl_Subst, some ir_glosslaw7_TplRuns, some ir_glossbook_Within, some ir_glosskeep_Tpl_Tpl, some ir_find_Group, some ir_tpl_Fill, some ir_tpl_Right, none, none, some ir_bset_Not, none, some ir_way_Ways, none, some ir_find_First, some ir_way_None, some ir_rx_reader_alt, some ir_rx_reader_fail, some ir_rx_Nodes, some ir_rx_Right, none, some ir_strings_Builder_WriteString, some ir_strings_Builder_Len, some ir_strings_Builder_String, some ir_tpl_Parse, none, none, none, some ir_way_text_ways, some ir_rx_reader_cat, some ir_rx_reader_took, some ir_rx_walker_anchors, some ir_rx_walker_walk, none, none, some ir_strings_Builder_copyCheck, some ir_tpl_one, none, none, none, none, some ir_bset_Has, some ir_way_text_back, some ir_way_newRow, some ir_way_row_add, some ir_way_text_from, some ir_way_repeater_on, some ir_rx_reader_ends, some ir_rx_reader_atom, some ir_rx_reader_star, some ir_slices_Clone_api_Rx_api_Rx, some ir_rx_reader_again, some ir_rx_reader_is, some ir_rx_bare, some ir_rx_kids, none, none, some ir_strings_IndexByte, none, none, none, none, none, none, none, none, none, none, none, none, some ir_way_repeater_key, some ir_rx_reader_op, some ir_rx_reader_group, some ir_rx_reader_bracket, some ir_rx_reader_begins, some ir_rx_reader_stops, some ir_rx_reader_one, some ir_rx_reader_behind, some ir_rx_reader_interval, some ir_strings_HasPrefix, some ir_rx_has, some ir_rx_rep, none, some ir_internal_stringslite_IndexByte, none, none, none, none, none, none, none, none, none, none, some ir_bset_Join, some ir_rx_reader_class, some ir_rx_reader_some, some ir_rx_escaped, some ir_rx_reader_number, some ir_internal_stringslite_HasPrefix, some ir_slices_ContainsFunc_api_Rx_api_Rx, some ir_rx_has_1, some ir_slices_Contains_int_int, none, none, none, none, some ir_bset_Class, some ir_bset_Range, some ir_slices_IndexFunc_api_Rx_api_Rx, some ir_slices_Index_int_int, none, some ir_bset_less, none, none, none, none, none, none, none, none, none, none, none, none, none, none, none, none, none, none, none, none, none, none]

def nth : List (Option VFn) → Nat → Option VFn
  | [], _ => none
  | x :: _, 0 => x
  | _ :: l, n + 1 => nth l n
def F : Fns := nth irs
@[simp] theorem call_glosslaw7_TplFill : CallB F f_glosslaw7_TplFill := fun s fk args => doCall_borrow (fn := ir_glosslaw7_TplFill) s fk args rfl rfl
@[simp] theorem call_glosskeep_Text : CallB F f_glosskeep_Text := fun s fk args => doCall_borrow (fn := ir_glosskeep_Text) s fk args rfl rfl
@[simp] theorem call_bset_Of : CallF F f_bset_Of := fun s fk args => doCall_freeze (fn := ir_bset_Of) s fk args rfl rfl
@[simp] theorem call_find_All : CallF F f_find_All := fun s fk args => doCall_freeze (fn := ir_find_All) s fk args rfl rfl
@[simp] theorem call_rx_Parse : CallF F f_rx_Parse := fun s fk args => doCall_freeze (fn := ir_rx_Parse) s fk args rfl rfl
@[simp] theorem call_tpl_Subst : CallB F f_tpl_Subst := fun s fk args => doCall_borrow (fn := ir_tpl_Subst) s fk args rfl rfl
@[simp] theorem call_glosslaw7_TplRuns : CallB F f_glosslaw7_TplRuns := fun s fk args => doCall_borrow (fn := ir_glosslaw7_TplRuns) s fk args rfl rfl
@[simp] theorem call_glossbook_Within : CallB F f_glossbook_Within := fun s fk args => doCall_borrow (fn := ir_glossbook_Within) s fk args rfl rfl
@[simp] theorem call_glosskeep_Tpl_Tpl : CallF F f_glosskeep_Tpl_Tpl := fun s fk args => doCall_freeze (fn := ir_glosskeep_Tpl_Tpl) s fk args rfl rfl
@[simp] theorem call_find_Group : CallB F f_find_Group := fun s fk args => doCall_borrow (fn := ir_find_Group) s fk args rfl rfl
@[simp] theorem call_tpl_Fill : CallB F f_tpl_Fill := fun s fk args => doCall_borrow (fn := ir_tpl_Fill) s fk args rfl rfl
@[simp] theorem call_tpl_Right : CallB F f_tpl_Right := fun s fk args => doCall_borrow (fn := ir_tpl_Right) s fk args rfl rfl
@[simp] theorem call_bset_Not : CallF F f_bset_Not := fun s fk args => doCall_freeze (fn := ir_bset_Not) s fk args rfl rfl
@[simp] theorem call_way_Ways : CallF F f_way_Ways := fun s fk args => doCall_freeze (fn := ir_way_Ways) s fk args rfl rfl
@[simp] theorem call_find_First : CallF F f_find_First := fun s fk args => doCall_freeze (fn := ir_find_First) s fk args rfl rfl
@[simp] theorem call_way_None : CallF F f_way_None := fun s fk args => doCall_freeze (fn := ir_way_None) s fk args rfl rfl
@[simp] theorem call_rx_reader_alt : CallH F f_rx_reader_alt := fun s fk args => doCall_heap (fn := ir_rx_reader_alt) s fk args rfl rfl
@[simp] theorem call_rx_reader_fail : CallH F f_rx_reader_fail := fun s fk args => doCall_heap (fn := ir_rx_reader_fail) s fk args rfl rfl
@[simp] theorem call_rx_Nodes : CallB F f_rx_Nodes := fun s fk args => doCall_borrow (fn := ir_rx_Nodes) s fk args rfl rfl
@[simp] theorem call_rx_Right : CallB F f_rx_Right := fun s fk args => doCall_borrow (fn := ir_rx_Right) s fk args rfl rfl
@[simp] theorem call_strings_Builder_WriteString : CallH F f_strings_Builder_WriteString := fun s fk args => doCall_heap (fn := ir_strings_Builder_WriteString) s fk args rfl rfl
@[simp] theorem call_strings_Builder_Len : CallH F f_strings_Builder_Len := fun s fk args => doCall_heap (fn := ir_strings_Builder_Len) s fk args rfl rfl
@[simp] theorem call_strings_Builder_String : CallH F f_strings_Builder_String := fun s fk args => doCall_heap (fn := ir_strings_Builder_String) s fk args rfl rfl
@[simp] theorem call_tpl_Parse : CallF F f_tpl_Parse := fun s fk args => doCall_freeze (fn := ir_tpl_Parse) s fk args rfl rfl
@[simp] theorem call_way_text_ways : CallF F f_way_text_ways := fun s fk args => doCall_freeze (fn := ir_way_text_ways) s fk args rfl rfl
@[simp] theorem call_rx_reader_cat : CallH F f_rx_reader_cat := fun s fk args => doCall_heap (fn := ir_rx_reader_cat) s fk args rfl rfl
@[simp] theorem call_rx_reader_took : CallH F f_rx_reader_took := fun s fk args => doCall_heap (fn := ir_rx_reader_took) s fk args rfl rfl
@[simp] theorem call_rx_walker_anchors : CallB F f_rx_walker_anchors := fun s fk args => doCall_borrow (fn := ir_rx_walker_anchors) s fk args rfl rfl
@[simp] theorem call_rx_walker_walk : CallH F f_rx_walker_walk := fun s fk args => doCall_heap (fn := ir_rx_walker_walk) s fk args rfl rfl
@[simp] theorem call_strings_Builder_copyCheck : CallH F f_strings_Builder_copyCheck := fun s fk args => doCall_heap (fn := ir_strings_Builder_copyCheck) s fk args rfl rfl
@[simp] theorem call_tpl_one : CallF F f_tpl_one := fun s fk args => doCall_freeze (fn := ir_tpl_one) s fk args rfl rfl
@[simp] theorem call_bset_Has : CallB F f_bset_Has := fun s fk args => doCall_borrow (fn := ir_bset_Has) s fk args rfl rfl
@[simp] theorem call_way_text_back : CallF F f_way_text_back := fun s fk args => doCall_freeze (fn := ir_way_text_back) s fk args rfl rfl
@[simp] theorem call_way_newRow : CallH F f_way_newRow := fun s fk args => doCall_heap (fn := ir_way_newRow) s fk args rfl rfl
@[simp] theorem call_way_row_add : CallH F f_way_row_add := fun s fk args => doCall_heap (fn := ir_way_row_add) s fk args rfl rfl
@[simp] theorem call_way_text_from : CallF F f_way_text_from := fun s fk args => doCall_freeze (fn := ir_way_text_from) s fk args rfl rfl
@[simp] theorem call_way_repeater_on : CallH F f_way_repeater_on := fun s fk args => doCall_heap (fn := ir_way_repeater_on) s fk args rfl rfl
@[simp] theorem call_rx_reader_ends : CallB F f_rx_reader_ends := fun s fk args => doCall_borrow (fn := ir_rx_reader_ends) s fk args rfl rfl
@[simp] theorem call_rx_reader_atom : CallH F f_rx_reader_atom := fun s fk args => doCall_heap (fn := ir_rx_reader_atom) s fk args rfl rfl
@[simp] theorem call_rx_reader_star : CallB F f_rx_reader_star := fun s fk args => doCall_borrow (fn := ir_rx_reader_star) s fk args rfl rfl
@[simp] theorem call_slices_Clone_api_Rx_api_Rx : CallH F f_slices_Clone_api_Rx_api_Rx := fun s fk args => doCall_heap (fn := ir_slices_Clone_api_Rx_api_Rx) s fk args rfl rfl
@[simp] theorem call_rx_reader_again : CallH F f_rx_reader_again := fun s fk args => doCall_heap (fn := ir_rx_reader_again) s fk args rfl rfl
@[simp] theorem call_rx_reader_is : CallB F f_rx_reader_is := fun s fk args => doCall_borrow (fn := ir_rx_reader_is) s fk args rfl rfl
@[simp] theorem call_rx_bare : CallB F f_rx_bare := fun s fk args => doCall_borrow (fn := ir_rx_bare) s fk args rfl rfl
@[simp] theorem call_rx_kids : CallB F f_rx_kids := fun s fk args => doCall_borrow (fn := ir_rx_kids) s fk args rfl rfl
@[simp] theorem call_strings_IndexByte : CallB F f_strings_IndexByte := fun s fk args => doCall_borrow (fn := ir_strings_IndexByte) s fk args rfl rfl
@[simp] theorem call_way_repeater_key : CallB F f_way_repeater_key := fun s fk args => doCall_borrow (fn := ir_way_repeater_key) s fk args rfl rfl
@[simp] theorem call_rx_reader_op : CallB F f_rx_reader_op := fun s fk args => doCall_borrow (fn := ir_rx_reader_op) s fk args rfl rfl
@[simp] theorem call_rx_reader_group : CallH F f_rx_reader_group := fun s fk args => doCall_heap (fn := ir_rx_reader_group) s fk args rfl rfl
@[simp] theorem call_rx_reader_bracket : CallH F f_rx_reader_bracket := fun s fk args => doCall_heap (fn := ir_rx_reader_bracket) s fk args rfl rfl
@[simp] theorem call_rx_reader_begins : CallB F f_rx_reader_begins := fun s fk args => doCall_borrow (fn := ir_rx_reader_begins) s fk args rfl rfl
@[simp] theorem call_rx_reader_stops : CallB F f_rx_reader_stops := fun s fk args => doCall_borrow (fn := ir_rx_reader_stops) s fk args rfl rfl
@[simp] theorem call_rx_reader_one : CallH F f_rx_reader_one := fun s fk args => doCall_heap (fn := ir_rx_reader_one) s fk args rfl rfl
@[simp] theorem call_rx_reader_behind : CallH F f_rx_reader_behind := fun s fk args => doCall_heap (fn := ir_rx_reader_behind) s fk args rfl rfl
@[simp] theorem call_rx_reader_interval : CallH F f_rx_reader_interval := fun s fk args => doCall_heap (fn := ir_rx_reader_interval) s fk args rfl rfl
@[simp] theorem call_strings_HasPrefix : CallB F f_strings_HasPrefix := fun s fk args => doCall_borrow (fn := ir_strings_HasPrefix) s fk args rfl rfl
@[simp] theorem call_rx_has : CallB F f_rx_has := fun s fk args => doCall_borrow (fn := ir_rx_has) s fk args rfl rfl
@[simp] theorem call_rx_rep : CallB F f_rx_rep := fun s fk args => doCall_borrow (fn := ir_rx_rep) s fk args rfl rfl
@[simp] theorem call_internal_stringslite_IndexByte : CallB F f_internal_stringslite_IndexByte := fun s fk args => doCall_borrow (fn := ir_internal_stringslite_IndexByte) s fk args rfl rfl
@[simp] theorem call_bset_Join : CallF F f_bset_Join := fun s fk args => doCall_freeze (fn := ir_bset_Join) s fk args rfl rfl
@[simp] theorem call_rx_reader_class : CallH F f_rx_reader_class := fun s fk args => doCall_heap (fn := ir_rx_reader_class) s fk args rfl rfl
@[simp] theorem call_rx_reader_some : CallH F f_rx_reader_some := fun s fk args => doCall_heap (fn := ir_rx_reader_some) s fk args rfl rfl
@[simp] theorem call_rx_escaped : CallB F f_rx_escaped := fun s fk args => doCall_borrow (fn := ir_rx_escaped) s fk args rfl rfl
@[simp] theorem call_rx_reader_number : CallH F f_rx_reader_number := fun s fk args => doCall_heap (fn := ir_rx_reader_number) s fk args rfl rfl
@[simp] theorem call_internal_stringslite_HasPrefix : CallB F f_internal_stringslite_HasPrefix := fun s fk args => doCall_borrow (fn := ir_internal_stringslite_HasPrefix) s fk args rfl rfl
@[simp] theorem call_slices_ContainsFunc_api_Rx_api_Rx : CallH F f_slices_ContainsFunc_api_Rx_api_Rx := fun s fk args => doCall_heap (fn := ir_slices_ContainsFunc_api_Rx_api_Rx) s fk args rfl rfl
@[simp] theorem call_rx_has_1 : CallH F f_rx_has_1 := fun s fk args => doCall_heap (fn := ir_rx_has_1) s fk args rfl rfl
@[simp] theorem call_slices_Contains_int_int : CallH F f_slices_Contains_int_int := fun s fk args => doCall_heap (fn := ir_slices_Contains_int_int) s fk args rfl rfl
@[simp] theorem call_bset_Class : CallF F f_bset_Class := fun s fk args => doCall_freeze (fn := ir_bset_Class) s fk args rfl rfl
@[simp] theorem call_bset_Range : CallF F f_bset_Range := fun s fk args => doCall_freeze (fn := ir_bset_Range) s fk args rfl rfl
@[simp] theorem call_slices_IndexFunc_api_Rx_api_Rx : CallH F f_slices_IndexFunc_api_Rx_api_Rx := fun s fk args => doCall_heap (fn := ir_slices_IndexFunc_api_Rx_api_Rx) s fk args rfl rfl
@[simp] theorem call_slices_Index_int_int : CallH F f_slices_Index_int_int := fun s fk args => doCall_heap (fn := ir_slices_Index_int_int) s fk args rfl rfl
@[simp] theorem call_bset_less : CallF F f_bset_less := fun s fk args => doCall_freeze (fn := ir_bset_less) s fk args rfl rfl
end Gv

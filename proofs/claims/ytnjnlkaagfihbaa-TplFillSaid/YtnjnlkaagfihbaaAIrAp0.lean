/- A part of the proof of the statement that the last text of this claim closes; no condition. -/
import Derived.Test.YtnjnlkaagfihbaaARegs
import Derived.Test.YtnjnlkaagfihbaaASx
import Derived.KernelRfl
set_option linter.all false
namespace Gv
open Go
set_option maxRecDepth 100000
set_option maxHeartbeats 4000000

def f_glosslaw7_TplFill : FuncId := 7
def f_glosskeep_Text : FuncId := 14
def f_bset_Of : FuncId := 15
def f_find_All : FuncId := 16
def f_rx_Parse : FuncId := 20
def f_tpl_Subst : FuncId := 22
def f_glosslaw7_TplRuns : FuncId := 23
def f_glossbook_Within : FuncId := 24
def f_glosskeep_Tpl_Tpl : FuncId := 25
def f_find_Group : FuncId := 26
def f_tpl_Fill : FuncId := 27
def f_tpl_Right : FuncId := 28
def f_bset_Not : FuncId := 31
def f_way_Ways : FuncId := 33
def f_find_First : FuncId := 35
def f_way_None : FuncId := 36
def f_rx_reader_alt : FuncId := 37
def f_rx_reader_fail : FuncId := 38
def f_rx_Nodes : FuncId := 39
def f_rx_Right : FuncId := 40
def f_strings_Builder_WriteString : FuncId := 42
def f_strings_Builder_Len : FuncId := 43
def f_strings_Builder_String : FuncId := 44
def f_tpl_Parse : FuncId := 45
def f_way_text_ways : FuncId := 49
def f_rx_reader_cat : FuncId := 50
def f_rx_reader_took : FuncId := 51
def f_rx_walker_anchors : FuncId := 52
def f_rx_walker_walk : FuncId := 53
def f_strings_Builder_copyCheck : FuncId := 56
def f_tpl_one : FuncId := 57
def f_bset_Has : FuncId := 62
def f_way_text_back : FuncId := 63
def f_way_newRow : FuncId := 64
def f_way_row_add : FuncId := 65
def f_way_text_from : FuncId := 66
def f_way_repeater_on : FuncId := 67
def f_rx_reader_ends : FuncId := 68
def f_rx_reader_atom : FuncId := 69
def f_rx_reader_star : FuncId := 70
def f_slices_Clone_api_Rx_api_Rx : FuncId := 71
def f_rx_reader_again : FuncId := 72
def f_rx_reader_is : FuncId := 73
def f_rx_bare : FuncId := 74
def f_rx_kids : FuncId := 75
def f_strings_IndexByte : FuncId := 78
def f_way_repeater_key : FuncId := 91
def f_rx_reader_op : FuncId := 92
def f_rx_reader_group : FuncId := 93
def f_rx_reader_bracket : FuncId := 94
def f_rx_reader_begins : FuncId := 95
def f_rx_reader_stops : FuncId := 96
def f_rx_reader_one : FuncId := 97
def f_rx_reader_behind : FuncId := 98
def f_rx_reader_interval : FuncId := 99
def f_strings_HasPrefix : FuncId := 100
def f_rx_has : FuncId := 101
def f_rx_rep : FuncId := 102
def f_internal_stringslite_IndexByte : FuncId := 104
def f_bset_Join : FuncId := 115
def f_rx_reader_class : FuncId := 116
def f_rx_reader_some : FuncId := 117
def f_rx_escaped : FuncId := 118
def f_rx_reader_number : FuncId := 119
def f_internal_stringslite_HasPrefix : FuncId := 120
def f_slices_ContainsFunc_api_Rx_api_Rx : FuncId := 121
def f_rx_has_1 : FuncId := 122
def f_slices_Contains_int_int : FuncId := 123
def f_strings_Cut : FuncId := 127
def f_bset_Class : FuncId := 128
def f_bset_Range : FuncId := 129
def f_slices_IndexFunc_api_Rx_api_Rx : FuncId := 130
def f_slices_Index_int_int : FuncId := 131
def f_bset_less : FuncId := 133
def t_int : TypeId := 3
def t_uint8 : TypeId := 5
def t_string : TypeId := 9
def t_S_int : TypeId := 22
def t_api_Set : TypeId := 27
def t_api_Rx : TypeId := 30
def t_api_Span : TypeId := 34
def t_api_Match : TypeId := 36
def t_api_Piece : TypeId := 50
def t_glosskeep_Tpl : TypeId := 56
def t_way_State : TypeId := 71
def t_rx_reader : TypeId := 83
def t_strings_Builder : TypeId := 92
def t_way_text : TypeId := 106
def t_rx_walker : TypeId := 111
def t_way_row : TypeId := 133
def t_way_repeater : TypeId := 138
def t_way_turn : TypeId := 164

/-- gloss/glosslaw7.TplFill -/
def m_glosslaw7_TplFill_0 : Mask := (.nd false (.nd false (.nd true .lf (.nd true .lf .lf)) (.nd false (.nd true .lf .lf) .lf)) (.nd true .lf (.nd false (.nd true .lf (.nd true .lf .lf)) .lf)))
@[simp] theorem mm_glosslaw7_TplFill_0 : m_glosslaw7_TplFill_0.go = (.nd false (.nd false (.nd true .lf (.nd true .lf .lf)) (.nd false (.nd true .lf .lf) .lf)) (.nd true .lf (.nd false (.nd true .lf (.nd true .lf .lf)) .lf))) := rfl
def c_glosslaw7_TplFill_0 : VCode := .seq (.region false [⟨some r27, .bin .lss (.t r26) (.c (.p (.int .i64 4))), none, []⟩])
 (.seq (.cond (.t r27) (.skip)
   (.exit 0))
  (.seq (.block 1 (.seq (.region false [⟨some r28, .mov (.t r26), none, []⟩,
       ⟨some r12, .mov (.t r28), none, []⟩])
     (.seq (.region false [⟨some r29, .mov (.t r12), none, []⟩,
        ⟨some r30, .build [.p (.int .i64 0), .p (.int .i64 0)] [(0, 1, (.c (.p (.int .i64 (-1))))), (1, 1, (.c (.p (.int .i64 (-1)))))], none, []⟩,
        ⟨some r31, .aaddr 4 2 (.t r11) (.t r29), none, []⟩,
        ⟨none, .store 2 (.t r31) (.t r30), none, []⟩])
      (.seq (.region false [⟨some r32, .mov (.t r12), none, []⟩,
         ⟨some r33, .mov (.t r2), none, []⟩,
         ⟨some r34, .lensl (.t r33), none, []⟩,
         ⟨some r35, .bin .lss (.t r32) (.t r34), none, []⟩,
         ⟨some r36, .mov (.t r35), none, []⟩,
         ⟨some r37, .mov (.t r2), some (r36, true), []⟩,
         ⟨some r38, .mov (.t r12), some (r36, true), []⟩,
         ⟨some r39, .iaddr 1 (.t r37) (.t r38), some (r36, true), []⟩,
         ⟨some r40, .load 1 false (.t r39), some (r36, true), []⟩,
         ⟨some r41, .bin .and (.t r40) (.c (.p (.int .i64 1))), some (r36, true), []⟩,
         ⟨some r42, .bin .eql (.t r41) (.c (.p (.int .i64 1))), some (r36, true), []⟩,
         ⟨some r43, .pick (.t r36) (.t r42) (.c (.p (.bool false))), none, []⟩])
       (.cond (.t r43) (.seq (.region false [⟨some r44, .mov (.t r2), none, []⟩,
           ⟨some r45, .mov (.t r12), none, []⟩,
           ⟨some r46, .iaddr 1 (.t r44) (.t r45), none, []⟩,
           ⟨some r47, .load 1 false (.t r46), none, []⟩,
           ⟨some r48, .mov (.t r9), none, []⟩,
           ⟨some r49, .lenstr (.t r48), none, []⟩,
           ⟨some r50, .call f_glossbook_Within [(.t r47), (.c (.p (.int .i64 0))), (.t r49)], none, []⟩,
           ⟨some r13, .mov (.t r50), none, []⟩])
         (.region false [⟨some r51, .mov (.t r12), none, []⟩,
           ⟨some r52, .mov (.t r13), none, []⟩,
           ⟨some r53, .mov (.t r2), none, []⟩,
           ⟨some r54, .mov (.t r12), none, []⟩,
           ⟨some r55, .iaddr 1 (.t r53) (.t r54), none, []⟩,
           ⟨some r56, .load 1 false (.t r55), none, []⟩,
           ⟨some r57, .bin .quo (.t r56) (.c (.p (.int .i64 8))), none, []⟩,
           ⟨some r58, .mov (.t r13), none, []⟩,
           ⟨some r59, .mov (.t r9), none, []⟩,
           ⟨some r60, .lenstr (.t r59), none, []⟩,
           ⟨some r61, .call f_glossbook_Within [(.t r57), (.t r58), (.t r60)], none, []⟩,
           ⟨some r62, .build [.p (.int .i64 0), .p (.int .i64 0)] [(0, 1, (.t r52)), (1, 1, (.t r61))], none, []⟩,
           ⟨some r63, .aaddr 4 2 (.t r11) (.t r51), none, []⟩,
           ⟨none, .store 2 (.t r63) (.t r62), none, []⟩]))
        (.skip))))))
   (.region false [⟨some r64, .bin .add (.t r26) (.c (.p (.int .i64 1))), none, []⟩,
     ⟨some r26, .mov (.t r64), none, []⟩])))

def m_glosslaw7_TplFill_1 : Mask := (.nd false (.nd false (.nd false (.nd false (.nd true .lf .lf) (.nd false (.nd false (.nd true .lf .lf) .lf) .lf)) (.nd true .lf .lf)) (.nd false (.nd true .lf .lf) (.nd false (.nd false (.nd false (.nd true .lf .lf) .lf) .lf) .lf))) (.nd false .lf (.nd false (.nd true .lf .lf) (.nd true (.nd false (.nd false (.nd true .lf .lf) .lf) .lf) .lf))))
@[simp] theorem mm_glosslaw7_TplFill_1 : m_glosslaw7_TplFill_1.go = (.nd false (.nd false (.nd false (.nd false (.nd true .lf .lf) (.nd false (.nd false (.nd true .lf .lf) .lf) .lf)) (.nd true .lf .lf)) (.nd false (.nd true .lf .lf) (.nd false (.nd false (.nd false (.nd true .lf .lf) .lf) .lf) .lf))) (.nd false .lf (.nd false (.nd true .lf .lf) (.nd true (.nd false (.nd false (.nd true .lf .lf) .lf) .lf) .lf)))) := rfl
def c_glosslaw7_TplFill_1 : VCode := .seq (.region false [⟨some r72, .bin .lss (.t r71) (.t r70), none, []⟩])
 (.seq (.cond (.t r72) (.skip)
   (.exit 2))
  (.seq (.block 3 (.seq (.region false [⟨some r73, .iaddr 2 (.t r69) (.t r71), none, []⟩,
       ⟨some r74, .load 2 true (.t r73), none, []⟩,
       ⟨some r17, .alloc t_api_Piece [.p (.int .i64 0), .p (.str [])], none, []⟩,
       ⟨none, .store 2 (.t r17) (.t r74), none, []⟩])
     (.seq (.region false [⟨some r75, .faddr 0 (.t r17), none, []⟩,
        ⟨some r76, .load 1 false (.t r75), none, []⟩,
        ⟨some r77, .bin .lss (.t r76) (.c (.p (.int .i64 0))), none, []⟩])
      (.cond (.t r77) (.region false [⟨some r78, .mov (.t r15), none, []⟩,
         ⟨some r79, .faddr 1 (.t r17), none, []⟩,
         ⟨some r80, .load 1 false (.t r79), none, []⟩,
         ⟨some r81, .bin .add (.t r78) (.t r80), none, []⟩,
         ⟨some r15, .mov (.t r81), none, []⟩])
       (.region false [⟨some r82, .mov (.t r15), none, []⟩,
         ⟨some r83, .load 8 true (.t r11), none, []⟩,
         ⟨some r84, .mov (.t r9), none, []⟩,
         ⟨some r85, .faddr 0 (.t r17), none, []⟩,
         ⟨some r86, .load 1 false (.t r85), none, []⟩,
         ⟨some r87, .call f_find_Group [(.t r83), (.t r84), (.t r86)], none, []⟩,
         ⟨some r88, .bin .add (.t r82) (.t r87), none, []⟩,
         ⟨some r15, .mov (.t r88), none, []⟩])))))
   (.region false [⟨some r89, .bin .add (.t r71) (.c (.p (.int .i64 1))), none, []⟩,
     ⟨some r71, .mov (.t r89), none, []⟩])))

def m_glosslaw7_TplFill_2 : Mask := (.nd false (.nd false (.nd false (.nd false (.nd true .lf .lf) .lf) (.nd true .lf (.nd false .lf (.nd false (.nd true .lf .lf) .lf)))) (.nd false (.nd true .lf .lf) .lf)) (.nd false (.nd false .lf (.nd false .lf (.nd false .lf (.nd false (.nd true .lf .lf) .lf)))) (.nd false (.nd true (.nd true .lf .lf) (.nd false .lf (.nd false (.nd true .lf .lf) .lf))) (.nd true .lf .lf))))
@[simp] theorem mm_glosslaw7_TplFill_2 : m_glosslaw7_TplFill_2.go = (.nd false (.nd false (.nd false (.nd false (.nd true .lf .lf) .lf) (.nd true .lf (.nd false .lf (.nd false (.nd true .lf .lf) .lf)))) (.nd false (.nd true .lf .lf) .lf)) (.nd false (.nd false .lf (.nd false .lf (.nd false .lf (.nd false (.nd true .lf .lf) .lf)))) (.nd false (.nd true (.nd true .lf .lf) (.nd false .lf (.nd false (.nd true .lf .lf) .lf))) (.nd true .lf .lf)))) := rfl
def c_glosslaw7_TplFill_2 : VCode := .seq (.region false [⟨some r93, .bin .lss (.t r92) (.t r91), none, []⟩])
 (.seq (.cond (.t r93) (.skip)
   (.exit 4))
  (.seq (.block 5 (.seq (.region false [⟨some r94, .iaddr 2 (.t r90) (.t r92), none, []⟩,
       ⟨some r95, .load 2 true (.t r94), none, []⟩,
       ⟨some r20, .alloc t_api_Piece [.p (.int .i64 0), .p (.str [])], none, []⟩,
       ⟨none, .store 2 (.t r20) (.t r95), none, []⟩])
     (.region false [⟨some r96, .mov (.t r18), none, []⟩,
       ⟨some r97, .faddr 0 (.t r20), none, []⟩,
       ⟨some r98, .load 1 false (.t r97), none, []⟩,
       ⟨some r99, .mx (.t r96) [(.t r98)], none, []⟩,
       ⟨some r18, .mov (.t r99), none, []⟩])))
   (.region false [⟨some r100, .bin .add (.t r92) (.c (.p (.int .i64 1))), none, []⟩,
     ⟨some r92, .mov (.t r100), none, []⟩])))
def b_glosslaw7_TplFill : VCode := .seq (.region false [⟨some r4, .box t_glosskeep_Tpl (.t r0), none, []⟩,
    ⟨some r8, .mov (.c (.p (.bool false))), none, []⟩])
  (.seq (.region false [⟨some r22, .mov (.t r1), none, []⟩,
     ⟨some r23, .call f_glosskeep_Text [(.t r22), (.c (.p (.int .i64 10)))], none, []⟩,
     ⟨some r9, .mov (.t r23), none, []⟩])
   (.seq (.region false [⟨some r24, .load 1 true (.t r4), none, []⟩,
      ⟨some r25, .call f_glosskeep_Tpl_Tpl [(.t r24), (.c (.p (.int .i64 3)))], none, []⟩,
      ⟨some r10, .mov (.t r25), none, []⟩])
    (.seq (.region false [⟨some r11, .alloc t_api_Match [.p (.int .i64 0), .p (.int .i64 0), .p (.int .i64 0), .p (.int .i64 0), .p (.int .i64 0), .p (.int .i64 0), .p (.int .i64 0), .p (.int .i64 0)], none, []⟩])
     (.seq (.seq (.region false [⟨some r26, .mov (.c (.p (.int .i64 0))), none, []⟩])
       (.block 0 (.loop m_glosslaw7_TplFill_0 c_glosslaw7_TplFill_0)))
      (.seq (.region false [⟨some r65, .mov (.t r3), none, []⟩,
         ⟨some r66, .mov (.t r10), none, []⟩,
         ⟨some r67, .lensl (.t r66), none, []⟩,
         ⟨some r68, .call f_glossbook_Within [(.t r65), (.c (.p (.int .i64 0))), (.t r67)], none, []⟩,
         ⟨some r14, .mov (.t r68), none, []⟩])
       (.seq (.region false [⟨some r15, .mov (.c (.p (.str []))), none, []⟩])
        (.seq (.seq (.region false [⟨some r69, .mov (.t r10), none, []⟩,
            ⟨some r70, .lensl (.t r69), none, []⟩,
            ⟨some r71, .mov (.c (.p (.int .i64 0))), none, []⟩])
          (.block 2 (.loop m_glosslaw7_TplFill_1 c_glosslaw7_TplFill_1)))
         (.seq (.region false [⟨some r18, .mov (.c (.p (.int .i64 0))), none, []⟩])
          (.seq (.seq (.region false [⟨some r90, .mov (.t r10), none, []⟩,
              ⟨some r91, .lensl (.t r90), none, []⟩,
              ⟨some r92, .mov (.c (.p (.int .i64 0))), none, []⟩])
            (.block 4 (.loop m_glosslaw7_TplFill_2 c_glosslaw7_TplFill_2)))
           (.seq (.region false [⟨some r101, .bsl t_api_Piece 2 [] 0 [], none, []⟩,
              ⟨some r102, .mov (.t r10), none, []⟩,
              ⟨some r103, .app t_api_Piece 2 (.t r101) (.t r102), none, []⟩,
              ⟨some r104, .build [.p (.int .i64 0), .p (.str [])] [(0, 1, (.c (.p (.int .i64 (-1)))))], none, []⟩,
              ⟨some r105, .bsl t_api_Piece 2 [.p (.int .i64 0), .p (.str [])] 1 [(0, 2, (.t r104))], none, []⟩,
              ⟨some r106, .app t_api_Piece 2 (.t r103) (.t r105), none, []⟩,
              ⟨some r21, .mov (.t r106), none, []⟩])
            (.seq (.region true [⟨some r107, .mov (.t r10), none, []⟩,
               ⟨some r108, .load 8 true (.t r11), none, []⟩,
               ⟨some r109, .mov (.t r9), none, []⟩,
               ⟨some r110, .call f_tpl_Fill [(.t r107), (.t r108), (.t r109)], none, [0, 1, 2]⟩,
               ⟨some r111, .mov (.t r15), none, []⟩,
               ⟨some r112, .bin .eql (.t r110) (.t r111), none, [3, 0, 1, 2, 4]⟩,
               ⟨some r113, .mov (.t r112), none, [5, 3, 0, 1, 2, 4]⟩,
               ⟨some r114, .mov (.t r10), some (r113, true), [6, 5, 3, 0, 1, 2, 4]⟩,
               ⟨some r115, .mov (.t r14), some (r113, true), [6, 5, 3, 0, 1, 2, 4]⟩,
               ⟨some r116, .subsl 2 (.t r114) none (some (.t r115)), some (r113, true), [7, 6, 5, 3, 0, 1, 2, 4, 8]⟩,
               ⟨some r117, .load 8 true (.t r11), some (r113, true), [6, 5, 3, 0, 1, 2, 4]⟩,
               ⟨some r118, .mov (.t r9), some (r113, true), [6, 5, 3, 0, 1, 2, 4]⟩,
               ⟨some r119, .call f_tpl_Fill [(.t r116), (.t r117), (.t r118)], some (r113, true), [9, 7, 6, 5, 3, 0, 1, 2, 4, 8, 10, 11]⟩,
               ⟨some r120, .mov (.t r10), some (r113, true), [6, 5, 3, 0, 1, 2, 4]⟩,
               ⟨some r121, .mov (.t r14), some (r113, true), [6, 5, 3, 0, 1, 2, 4]⟩,
               ⟨some r122, .subsl 2 (.t r120) (some (.t r121)) none, some (r113, true), [13, 6, 5, 3, 0, 1, 2, 4, 14]⟩,
               ⟨some r123, .load 8 true (.t r11), some (r113, true), [6, 5, 3, 0, 1, 2, 4]⟩,
               ⟨some r124, .mov (.t r9), some (r113, true), [6, 5, 3, 0, 1, 2, 4]⟩,
               ⟨some r125, .call f_tpl_Fill [(.t r122), (.t r123), (.t r124)], some (r113, true), [15, 13, 6, 5, 3, 0, 1, 2, 4, 14, 16, 17, 12, 9, 7, 8, 10, 11]⟩,
               ⟨some r126, .bin .add (.t r119) (.t r125), some (r113, true), [12, 9, 7, 6, 5, 3, 0, 1, 2, 4, 8, 10, 11, 18, 15, 13, 14, 16, 17]⟩,
               ⟨some r127, .mov (.t r15), some (r113, true), [6, 5, 3, 0, 1, 2, 4]⟩,
               ⟨some r128, .bin .eql (.t r126) (.t r127), some (r113, true), [19, 12, 9, 7, 6, 5, 3, 0, 1, 2, 4, 8, 10, 11, 18, 15, 13, 14, 16, 17, 20]⟩,
               ⟨some r129, .pick (.t r113) (.t r128) (.c (.p (.bool false))), none, [6, 5, 3, 0, 1, 2, 4, 21, 19, 12, 9, 7, 8, 10, 11, 18, 15, 13, 14, 16, 17, 20]⟩,
               ⟨some r130, .mov (.t r129), none, [22, 6, 5, 3, 0, 1, 2, 4, 21, 19, 12, 9, 7, 8, 10, 11, 18, 15, 13, 14, 16, 17, 20]⟩,
               ⟨some r131, .mov (.t r10), some (r130, true), [23, 22, 6, 5, 3, 0, 1, 2, 4, 21, 19, 12, 9, 7, 8, 10, 11, 18, 15, 13, 14, 16, 17, 20]⟩,
               ⟨some r132, .mov (.t r18), some (r130, true), [23, 22, 6, 5, 3, 0, 1, 2, 4, 21, 19, 12, 9, 7, 8, 10, 11, 18, 15, 13, 14, 16, 17, 20]⟩,
               ⟨some r133, .call f_tpl_Right [(.t r131), (.t r132)], some (r130, true), [24, 23, 22, 6, 5, 3, 0, 1, 2, 4, 21, 19, 12, 9, 7, 8, 10, 11, 18, 15, 13, 14, 16, 17, 20, 25]⟩,
               ⟨some r134, .pick (.t r130) (.t r133) (.c (.p (.bool false))), none, [23, 22, 6, 5, 3, 0, 1, 2, 4, 21, 19, 12, 9, 7, 8, 10, 11, 18, 15, 13, 14, 16, 17, 20, 26, 24, 25]⟩,
               ⟨some r135, .mov (.t r134), none, [27, 23, 22, 6, 5, 3, 0, 1, 2, 4, 21, 19, 12, 9, 7, 8, 10, 11, 18, 15, 13, 14, 16, 17, 20, 26, 24, 25]⟩,
               ⟨some r136, .mov (.t r18), some (r135, true), [28, 27, 23, 22, 6, 5, 3, 0, 1, 2, 4, 21, 19, 12, 9, 7, 8, 10, 11, 18, 15, 13, 14, 16, 17, 20, 26, 24, 25]⟩,
               ⟨some r137, .bin .eql (.t r136) (.c (.p (.int .i64 0))), some (r135, true), [29, 28, 27, 23, 22, 6, 5, 3, 0, 1, 2, 4, 21, 19, 12, 9, 7, 8, 10, 11, 18, 15, 13, 14, 16, 17, 20, 26, 24, 25]⟩,
               ⟨some r138, .mov (.t r137), some (r135, true), [30, 29, 28, 27, 23, 22, 6, 5, 3, 0, 1, 2, 4, 21, 19, 12, 9, 7, 8, 10, 11, 18, 15, 13, 14, 16, 17, 20, 26, 24, 25]⟩,
               ⟨some r139, .mov (.t r10), some (r138, false), [31, 30, 29, 28, 27, 23, 22, 6, 5, 3, 0, 1, 2, 4, 21, 19, 12, 9, 7, 8, 10, 11, 18, 15, 13, 14, 16, 17, 20, 26, 24, 25]⟩,
               ⟨some r140, .mov (.t r18), some (r138, false), [31, 30, 29, 28, 27, 23, 22, 6, 5, 3, 0, 1, 2, 4, 21, 19, 12, 9, 7, 8, 10, 11, 18, 15, 13, 14, 16, 17, 20, 26, 24, 25]⟩,
               ⟨some r141, .bin .sub (.t r140) (.c (.p (.int .i64 1))), some (r138, false), [33, 31, 30, 29, 28, 27, 23, 22, 6, 5, 3, 0, 1, 2, 4, 21, 19, 12, 9, 7, 8, 10, 11, 18, 15, 13, 14, 16, 17, 20, 26, 24, 25]⟩,
               ⟨some r142, .call f_tpl_Right [(.t r139), (.t r141)], some (r138, false), [32, 31, 30, 29, 28, 27, 23, 22, 6, 5, 3, 0, 1, 2, 4, 21, 19, 12, 9, 7, 8, 10, 11, 18, 15, 13, 14, 16, 17, 20, 26, 24, 25, 34, 33]⟩,
               ⟨some r143, .un .not (.t r142), some (r138, false), [35, 32, 31, 30, 29, 28, 27, 23, 22, 6, 5, 3, 0, 1, 2, 4, 21, 19, 12, 9, 7, 8, 10, 11, 18, 15, 13, 14, 16, 17, 20, 26, 24, 25, 34, 33]⟩,
               ⟨some r144, .pick (.t r138) (.c (.p (.bool true))) (.t r143), some (r135, true), [31, 30, 29, 28, 27, 23, 22, 6, 5, 3, 0, 1, 2, 4, 21, 19, 12, 9, 7, 8, 10, 11, 18, 15, 13, 14, 16, 17, 20, 26, 24, 25, 36, 35, 32, 34, 33]⟩,
               ⟨some r145, .pick (.t r135) (.t r144) (.c (.p (.bool false))), none, [28, 27, 23, 22, 6, 5, 3, 0, 1, 2, 4, 21, 19, 12, 9, 7, 8, 10, 11, 18, 15, 13, 14, 16, 17, 20, 26, 24, 25, 37, 31, 30, 29, 36, 35, 32, 34, 33]⟩,
               ⟨some r146, .mov (.t r145), none, [38, 28, 27, 23, 22, 6, 5, 3, 0, 1, 2, 4, 21, 19, 12, 9, 7, 8, 10, 11, 18, 15, 13, 14, 16, 17, 20, 26, 24, 25, 37, 31, 30, 29, 36, 35, 32, 34, 33]⟩,
               ⟨some r147, .mov (.t r21), some (r146, true), [39, 38, 28, 27, 23, 22, 6, 5, 3, 0, 1, 2, 4, 21, 19, 12, 9, 7, 8, 10, 11, 18, 15, 13, 14, 16, 17, 20, 26, 24, 25, 37, 31, 30, 29, 36, 35, 32, 34, 33]⟩,
               ⟨some r148, .call f_tpl_Right [(.t r147), (.c (.p (.int .i64 3)))], some (r146, true), [40, 39, 38, 28, 27, 23, 22, 6, 5, 3, 0, 1, 2, 4, 21, 19, 12, 9, 7, 8, 10, 11, 18, 15, 13, 14, 16, 17, 20, 26, 24, 25, 37, 31, 30, 29, 36, 35, 32, 34, 33]⟩,
               ⟨some r149, .un .not (.t r148), some (r146, true), [41, 40, 39, 38, 28, 27, 23, 22, 6, 5, 3, 0, 1, 2, 4, 21, 19, 12, 9, 7, 8, 10, 11, 18, 15, 13, 14, 16, 17, 20, 26, 24, 25, 37, 31, 30, 29, 36, 35, 32, 34, 33]⟩,
               ⟨some r150, .pick (.t r146) (.t r149) (.c (.p (.bool false))), none, [39, 38, 28, 27, 23, 22, 6, 5, 3, 0, 1, 2, 4, 21, 19, 12, 9, 7, 8, 10, 11, 18, 15, 13, 14, 16, 17, 20, 26, 24, 25, 37, 31, 30, 29, 36, 35, 32, 34, 33, 42, 41, 40]⟩,
               ⟨some r151, .mov (.t r150), none, [43, 39, 38, 28, 27, 23, 22, 6, 5, 3, 0, 1, 2, 4, 21, 19, 12, 9, 7, 8, 10, 11, 18, 15, 13, 14, 16, 17, 20, 26, 24, 25, 37, 31, 30, 29, 36, 35, 32, 34, 33, 42, 41, 40]⟩,
               ⟨some r152, .load 8 true (.t r11), some (r151, true), [44, 43, 39, 38, 28, 27, 23, 22, 6, 5, 3, 0, 1, 2, 4, 21, 19, 12, 9, 7, 8, 10, 11, 18, 15, 13, 14, 16, 17, 20, 26, 24, 25, 37, 31, 30, 29, 36, 35, 32, 34, 33, 42, 41, 40]⟩,
               ⟨some r153, .mov (.t r9), some (r151, true), [44, 43, 39, 38, 28, 27, 23, 22, 6, 5, 3, 0, 1, 2, 4, 21, 19, 12, 9, 7, 8, 10, 11, 18, 15, 13, 14, 16, 17, 20, 26, 24, 25, 37, 31, 30, 29, 36, 35, 32, 34, 33, 42, 41, 40]⟩,
               ⟨some r154, .call f_tpl_Fill [(.c (.r (.nils))), (.t r152), (.t r153)], some (r151, true), [45, 44, 43, 39, 38, 28, 27, 23, 22, 6, 5, 3, 0, 1, 2, 4, 21, 19, 12, 9, 7, 8, 10, 11, 18, 15, 13, 14, 16, 17, 20, 26, 24, 25, 37, 31, 30, 29, 36, 35, 32, 34, 33, 42, 41, 40, 46]⟩,
               ⟨some r155, .bin .eql (.t r154) (.c (.p (.str []))), some (r151, true), [47, 45, 44, 43, 39, 38, 28, 27, 23, 22, 6, 5, 3, 0, 1, 2, 4, 21, 19, 12, 9, 7, 8, 10, 11, 18, 15, 13, 14, 16, 17, 20, 26, 24, 25, 37, 31, 30, 29, 36, 35, 32, 34, 33, 42, 41, 40, 46]⟩,
               ⟨some r156, .pick (.t r151) (.t r155) (.c (.p (.bool false))), none, [44, 43, 39, 38, 28, 27, 23, 22, 6, 5, 3, 0, 1, 2, 4, 21, 19, 12, 9, 7, 8, 10, 11, 18, 15, 13, 14, 16, 17, 20, 26, 24, 25, 37, 31, 30, 29, 36, 35, 32, 34, 33, 42, 41, 40, 48, 47, 45, 46]⟩,
               ⟨some r157, .mov (.t r156), none, [49, 44, 43, 39, 38, 28, 27, 23, 22, 6, 5, 3, 0, 1, 2, 4, 21, 19, 12, 9, 7, 8, 10, 11, 18, 15, 13, 14, 16, 17, 20, 26, 24, 25, 37, 31, 30, 29, 36, 35, 32, 34, 33, 42, 41, 40, 48, 47, 45, 46]⟩,
               ⟨some r158, .call f_glosslaw7_TplRuns [], some (r157, true), [50, 49, 44, 43, 39, 38, 28, 27, 23, 22, 6, 5, 3, 0, 1, 2, 4, 21, 19, 12, 9, 7, 8, 10, 11, 18, 15, 13, 14, 16, 17, 20, 26, 24, 25, 37, 31, 30, 29, 36, 35, 32, 34, 33, 42, 41, 40, 48, 47, 45, 46]⟩,
               ⟨some r159, .pick (.t r157) (.t r158) (.c (.p (.bool false))), none, [50, 49, 44, 43, 39, 38, 28, 27, 23, 22, 6, 5, 3, 0, 1, 2, 4, 21, 19, 12, 9, 7, 8, 10, 11, 18, 15, 13, 14, 16, 17, 20, 26, 24, 25, 37, 31, 30, 29, 36, 35, 32, 34, 33, 42, 41, 40, 48, 47, 45, 46, 51]⟩,
               ⟨some r8, .mov (.t r159), none, [52, 50, 49, 44, 43, 39, 38, 28, 27, 23, 22, 6, 5, 3, 0, 1, 2, 4, 21, 19, 12, 9, 7, 8, 10, 11, 18, 15, 13, 14, 16, 17, 20, 26, 24, 25, 37, 31, 30, 29, 36, 35, 32, 34, 33, 42, 41, 40, 48, 47, 45, 46, 51]⟩])
             (.ret))))))))))))
def ir_glosslaw7_TplFill : VFn := ⟨.borrow, 4, b_glosslaw7_TplFill, [.tmp r8]⟩
@[simp] theorem bb_glosslaw7_TplFill : ir_glosslaw7_TplFill.body = b_glosslaw7_TplFill := rfl
@[simp] theorem br_glosslaw7_TplFill : ir_glosslaw7_TplFill.res = [.tmp r8] := rfl
@[simp] theorem bn_glosslaw7_TplFill : ir_glosslaw7_TplFill.nargs = 4 := rfl

/-- gloss/glosskeep.Text -/
def m_glosskeep_Text_0 : Mask := (.nd true (.nd true .lf (.nd true .lf .lf)) (.nd false .lf (.nd true .lf .lf)))
@[simp] theorem mm_glosskeep_Text_0 : m_glosskeep_Text_0.go = (.nd true (.nd true .lf (.nd true .lf .lf)) (.nd false .lf (.nd true .lf .lf))) := rfl
def c_glosskeep_Text_0 : VCode := .seq (.seq (.region false [⟨some r7, .mov (.t r6), none, []⟩,
    ⟨some r8, .mov (.t r0), none, []⟩,
    ⟨some r9, .lensl (.t r8), none, []⟩,
    ⟨some r10, .bin .lss (.t r7) (.t r9), none, []⟩,
    ⟨some r11, .mov (.t r10), none, []⟩,
    ⟨some r12, .mov (.t r6), some (r11, true), []⟩,
    ⟨some r13, .mov (.t r1), some (r11, true), []⟩,
    ⟨some r14, .bin .lss (.t r12) (.t r13), some (r11, true), []⟩,
    ⟨some r15, .pick (.t r11) (.t r14) (.c (.p (.bool false))), none, []⟩])
  (.cond (.t r15) (.skip)
   (.exit 0)))
 (.seq (.block 1 (.region false [⟨some r18, .mov (.t r5), none, []⟩,
     ⟨some r19, .bsl t_uint8 1 [.p (.int .u8 0), .p (.int .u8 0), .p (.int .u8 0), .p (.int .u8 0), .p (.int .u8 0), .p (.int .u8 0), .p (.int .u8 0), .p (.int .u8 0)] 8 [(0, 1, (.c (.p (.int .u8 97)))), (1, 1, (.c (.p (.int .u8 98)))), (2, 1, (.c (.p (.int .u8 97)))), (3, 1, (.c (.p (.int .u8 99)))), (4, 1, (.c (.p (.int .u8 98)))), (5, 1, (.c (.p (.int .u8 46)))), (6, 1, (.c (.p (.int .u8 97)))), (7, 1, (.c (.p (.int .u8 32))))], none, []⟩,
     ⟨some r20, .mov (.t r0), none, []⟩,
     ⟨some r21, .mov (.t r6), none, []⟩,
     ⟨some r22, .iaddr 1 (.t r20) (.t r21), none, []⟩,
     ⟨some r23, .load 1 false (.t r22), none, []⟩,
     ⟨some r24, .call f_glossbook_Within [(.t r23), (.c (.p (.int .i64 0))), (.c (.p (.int .i64 7)))], none, []⟩,
     ⟨some r25, .iaddr 1 (.t r19) (.t r24), none, []⟩,
     ⟨some r26, .load 1 false (.t r25), none, []⟩,
     ⟨some r27, .bsl t_uint8 1 [.p (.int .u8 0)] 1 [(0, 1, (.t r26))], none, []⟩,
     ⟨some r28, .b2s (.t r27), none, []⟩,
     ⟨some r29, .bin .add (.t r18) (.t r28), none, []⟩,
     ⟨some r5, .mov (.t r29), none, []⟩]))
  (.region false [⟨some r16, .mov (.t r6), none, []⟩,
    ⟨some r17, .bin .add (.t r16) (.c (.p (.int .i64 1))), none, []⟩,
    ⟨some r6, .mov (.t r17), none, []⟩]))
def b_glosskeep_Text : VCode := .seq (.region false [⟨some r4, .mov (.c (.p (.str []))), none, []⟩])
  (.seq (.region false [⟨some r5, .mov (.c (.p (.str []))), none, []⟩])
   (.seq (.seq (.region false [⟨some r6, .mov (.c (.p (.int .i64 0))), none, []⟩])
     (.block 0 (.loop m_glosskeep_Text_0 c_glosskeep_Text_0)))
    (.seq (.region false [⟨some r30, .mov (.t r5), none, []⟩,
       ⟨some r4, .mov (.t r30), none, []⟩])
     (.ret))))
def ir_glosskeep_Text : VFn := ⟨.borrow, 2, b_glosskeep_Text, [.tmp r4]⟩
@[simp] theorem bb_glosskeep_Text : ir_glosskeep_Text.body = b_glosskeep_Text := rfl
@[simp] theorem br_glosskeep_Text : ir_glosskeep_Text.res = [.tmp r4] := rfl
@[simp] theorem bn_glosskeep_Text : ir_glosskeep_Text.nargs = 2 := rfl

/-- gloss/bset.Of -/
def m_bset_Of_0 : Mask := (.nd false (.nd false (.nd true (.nd true .lf .lf) .lf) .lf) (.nd true (.nd false (.nd true .lf .lf) .lf) (.nd true .lf .lf)))
@[simp] theorem mm_bset_Of_0 : m_bset_Of_0.go = (.nd false (.nd false (.nd true (.nd true .lf .lf) .lf) .lf) (.nd true (.nd false (.nd true .lf .lf) .lf) (.nd true .lf .lf))) := rfl
def c_bset_Of_0 : VCode := .seq (.region false [⟨some r9, .bin .lss (.t r8) (.t r7), none, []⟩])
 (.seq (.cond (.t r9) (.skip)
   (.exit 0))
  (.seq (.block 1 (.seq (.region false [⟨some r10, .iaddr 1 (.t r6) (.t r8), none, []⟩,
       ⟨some r11, .load 1 false (.t r10), none, []⟩,
       ⟨some r5, .mov (.t r11), none, []⟩])
     (.region false [⟨some r12, .mov (.t r5), none, []⟩,
       ⟨some r13, .bin .quo (.t r12) (.c (.p (.int .u8 64))), none, []⟩,
       ⟨some r14, .aaddr 4 1 (.t r3) (.t r13), none, []⟩,
       ⟨some r15, .load 1 false (.t r14), none, []⟩,
       ⟨some r16, .mov (.t r5), none, []⟩,
       ⟨some r17, .bin .rem (.t r16) (.c (.p (.int .u8 64))), none, []⟩,
       ⟨some r18, .bin .shl (.c (.p (.int .u64 1))) (.t r17), none, []⟩,
       ⟨some r19, .bin .or (.t r15) (.t r18), none, []⟩,
       ⟨some r20, .aaddr 4 1 (.t r3) (.t r13), none, []⟩,
       ⟨none, .store 1 (.t r20) (.t r19), none, []⟩])))
   (.region false [⟨some r21, .bin .add (.t r8) (.c (.p (.int .i64 1))), none, []⟩,
     ⟨some r8, .mov (.t r21), none, []⟩])))
def b_bset_Of : VCode := .seq (.region false [⟨some r2, .alloc t_api_Set [.p (.int .u64 0), .p (.int .u64 0), .p (.int .u64 0), .p (.int .u64 0)], none, []⟩])
  (.seq (.region false [⟨some r3, .alloc t_api_Set [.p (.int .u64 0), .p (.int .u64 0), .p (.int .u64 0), .p (.int .u64 0)], none, []⟩])
   (.seq (.seq (.region false [⟨some r6, .mov (.t r0), none, []⟩,
       ⟨some r7, .lensl (.t r6), none, []⟩,
       ⟨some r8, .mov (.c (.p (.int .i64 0))), none, []⟩])
     (.block 0 (.loop m_bset_Of_0 c_bset_Of_0)))
    (.seq (.region false [⟨some r22, .load 4 true (.t r3), none, []⟩,
       ⟨none, .store 4 (.t r2) (.t r22), none, []⟩])
     (.ret))))
def ir_bset_Of : VFn := ⟨.freeze, 1, b_bset_Of, [.cell r2 4 true]⟩
@[simp] theorem bb_bset_Of : ir_bset_Of.body = b_bset_Of := rfl
@[simp] theorem br_bset_Of : ir_bset_Of.res = [.cell r2 4 true] := rfl
@[simp] theorem bn_bset_Of : ir_bset_Of.nargs = 1 := rfl

/-- gloss/find.All -/
def m_find_All_0 : Mask := (.nd false (.nd true (.nd false (.nd true .lf .lf) .lf) (.nd true .lf .lf)) (.nd true .lf (.nd true .lf .lf)))
@[simp] theorem mm_find_All_0 : m_find_All_0.go = (.nd false (.nd true (.nd false (.nd true .lf .lf) .lf) (.nd true .lf .lf)) (.nd true .lf (.nd true .lf .lf))) := rfl
def c_find_All_0 : VCode := .seq (.seq (.region false [⟨some r11, .mov (.t r7), none, []⟩,
    ⟨some r12, .mov (.t r1), none, []⟩,
    ⟨some r13, .lenstr (.t r12), none, []⟩,
    ⟨some r14, .bin .leq (.t r11) (.t r13), none, []⟩])
  (.cond (.t r14) (.skip)
   (.exit 0)))
 (.block 1 (.seq (.region false [⟨some r16, .load 9 true (.t r2), none, []⟩,
     ⟨some r17, .mov (.t r1), none, []⟩,
     ⟨some r18, .mov (.t r7), none, []⟩,
     ⟨some r19, .call f_find_First [(.t r16), (.t r17), (.t r18)], none, []⟩,
     ⟨some r15, .mov (.t r19), none, []⟩,
     ⟨some r20, .extr (.t r15) 0, none, []⟩,
     ⟨some r21, .extr (.t r15) 1, none, []⟩,
     ⟨some r8, .alloc t_api_Match [.p (.int .i64 0), .p (.int .i64 0), .p (.int .i64 0), .p (.int .i64 0), .p (.int .i64 0), .p (.int .i64 0), .p (.int .i64 0), .p (.int .i64 0)], none, []⟩,
     ⟨none, .store 8 (.t r8) (.t r20), none, []⟩,
     ⟨some r9, .mov (.t r21), none, []⟩])
   (.seq (.seq (.region false [⟨some r22, .mov (.t r9), none, []⟩,
       ⟨some r23, .un .not (.t r22), none, []⟩])
     (.cond (.t r23) (.seq (.region false [⟨some r24, .mov (.t r5), none, []⟩,
         ⟨some r4, .mov (.t r24), none, []⟩])
       (.ret))
      (.skip)))
    (.seq (.region false [⟨some r25, .aaddr 4 2 (.t r8) (.c (.p (.int .i64 0))), none, []⟩,
       ⟨some r26, .load 2 true (.t r25), none, []⟩,
       ⟨some r10, .alloc t_api_Span [.p (.int .i64 0), .p (.int .i64 0)], none, []⟩,
       ⟨none, .store 2 (.t r10) (.t r26), none, []⟩])
     (.seq (.region false [⟨some r27, .faddr 1 (.t r10), none, []⟩,
        ⟨some r28, .load 1 false (.t r27), none, []⟩,
        ⟨some r7, .mov (.t r28), none, []⟩])
      (.seq (.seq (.region false [⟨some r29, .faddr 0 (.t r10), none, []⟩,
          ⟨some r30, .load 1 false (.t r29), none, []⟩,
          ⟨some r31, .faddr 1 (.t r10), none, []⟩,
          ⟨some r32, .load 1 false (.t r31), none, []⟩,
          ⟨some r33, .bin .eql (.t r30) (.t r32), none, []⟩])
        (.cond (.t r33) (.seq (.region false [⟨some r34, .mov (.t r7), none, []⟩,
            ⟨some r35, .bin .add (.t r34) (.c (.p (.int .i64 1))), none, []⟩,
            ⟨some r7, .mov (.t r35), none, []⟩])
          (.seq (.region false [⟨some r36, .faddr 1 (.t r10), none, []⟩,
             ⟨some r37, .load 1 false (.t r36), none, []⟩,
             ⟨some r38, .mov (.t r6), none, []⟩,
             ⟨some r39, .bin .eql (.t r37) (.t r38), none, []⟩])
           (.cond (.t r39) (.exit 1)
            (.skip))))
         (.skip)))
       (.seq (.region false [⟨some r40, .mov (.t r5), none, []⟩,
          ⟨some r41, .load 8 true (.t r8), none, []⟩,
          ⟨some r42, .bsl t_api_Match 8 [.p (.int .i64 0), .p (.int .i64 0), .p (.int .i64 0), .p (.int .i64 0), .p (.int .i64 0), .p (.int .i64 0), .p (.int .i64 0), .p (.int .i64 0)] 1 [(0, 8, (.t r41))], none, []⟩,
          ⟨some r43, .app t_api_Match 8 (.t r40) (.t r42), none, []⟩,
          ⟨some r5, .mov (.t r43), none, []⟩])
        (.region false [⟨some r44, .faddr 1 (.t r10), none, []⟩,
          ⟨some r45, .load 1 false (.t r44), none, []⟩,
          ⟨some r6, .mov (.t r45), none, []⟩]))))))))
def b_find_All : VCode := .seq (.region false [⟨some r2, .box t_api_Rx (.t r0), none, []⟩,
    ⟨some r4, .mov (.c (.r (.nils))), none, []⟩])
  (.seq (.region false [⟨some r5, .mov (.c (.r (.nils))), none, []⟩])
   (.seq (.region false [⟨some r6, .mov (.c (.p (.int .i64 (-1)))), none, []⟩])
    (.seq (.seq (.region false [⟨some r7, .mov (.c (.p (.int .i64 0))), none, []⟩])
      (.block 0 (.loop m_find_All_0 c_find_All_0)))
     (.seq (.region false [⟨some r46, .mov (.t r5), none, []⟩,
        ⟨some r4, .mov (.t r46), none, []⟩])
      (.ret)))))
def ir_find_All : VFn := ⟨.freeze, 2, b_find_All, [.tmp r4]⟩
@[simp] theorem bb_find_All : ir_find_All.body = b_find_All := rfl
@[simp] theorem br_find_All : ir_find_All.res = [.tmp r4] := rfl
@[simp] theorem bn_find_All : ir_find_All.nargs = 2 := rfl

/-- gloss/rx.Parse -/
def b_rx_Parse : VCode := .seq (.region false [⟨some r4, .alloc t_api_Rx [.p (.int .i64 0), .p (.int .i64 0), .p (.int .i64 0), .p (.int .i64 0), .p (.int .u64 0), .p (.int .u64 0), .p (.int .u64 0), .p (.int .u64 0), .nils], none, []⟩,
    ⟨some r5, .mov (.c (.p (.int .i64 0))), none, []⟩,
    ⟨some r6, .mov (.c (.p (.int .i64 0))), none, []⟩])
  (.seq (.region false [⟨some r9, .mov (.t r0), none, []⟩,
     ⟨some r10, .mov (.t r1), none, []⟩,
     ⟨some r11, .build [.p (.str []), .p (.bool false), .p (.int .i64 0), .p (.int .i64 0), .p (.int .i64 0)] [(0, 1, (.t r9)), (1, 1, (.t r10))], none, []⟩,
     ⟨some r12, .box t_rx_reader (.t r11), none, []⟩,
     ⟨some r7, .mov (.t r12), none, []⟩])
   (.seq (.region false [⟨some r13, .mov (.t r7), none, []⟩,
      ⟨some r14, .call f_rx_reader_alt [(.t r13), (.c (.p (.int .i64 0)))], none, []⟩,
      ⟨some r8, .alloc t_api_Rx [.p (.int .i64 0), .p (.int .i64 0), .p (.int .i64 0), .p (.int .i64 0), .p (.int .u64 0), .p (.int .u64 0), .p (.int .u64 0), .p (.int .u64 0), .nils], none, []⟩,
      ⟨none, .store 9 (.t r8) (.t r14), none, []⟩])
    (.seq (.seq (.region false [⟨some r15, .mov (.t r7), none, []⟩,
        ⟨some r16, .nilchk (.t r15), none, []⟩,
        ⟨some r17, .faddr 2 (.t r16), none, []⟩,
        ⟨some r18, .load 1 false (.t r17), none, []⟩,
        ⟨some r19, .mov (.t r0), none, []⟩,
        ⟨some r20, .lenstr (.t r19), none, []⟩,
        ⟨some r21, .bin .lss (.t r18) (.t r20), none, []⟩])
      (.cond (.t r21) (.region false [⟨some r22, .mov (.t r7), none, []⟩,
         ⟨some r23, .call f_rx_reader_fail [(.t r22), (.c (.p (.int .i64 1)))], none, []⟩])
       (.skip)))
     (.seq (.block 0 (.seq (.region false [⟨some r25, .mov (.t r7), none, []⟩,
          ⟨some r26, .nilchk (.t r25), none, []⟩,
          ⟨some r27, .faddr 4 (.t r26), none, []⟩,
          ⟨some r28, .load 1 false (.t r27), none, []⟩,
          ⟨some r29, .bin .neq (.t r28) (.c (.p (.int .i64 0))), none, []⟩,
          ⟨some r24, .mov (.t r29), none, []⟩])
        (.cond (.t r24) (.seq (.region true [⟨some r30, .build [.p (.int .i64 0), .p (.int .i64 0), .p (.int .i64 0), .p (.int .i64 0), .p (.int .u64 0), .p (.int .u64 0), .p (.int .u64 0), .p (.int .u64 0), .nils] [], none, []⟩,
            ⟨some r31, .mov (.t r7), none, []⟩,
            ⟨some r32, .nilchk (.t r31), none, [1]⟩,
            ⟨some r33, .faddr 2 (.t r32), none, [2, 1]⟩,
            ⟨some r34, .load 1 false (.t r33), none, [3, 2, 1]⟩,
            ⟨some r35, .mov (.t r7), none, []⟩,
            ⟨some r36, .nilchk (.t r35), none, [5]⟩,
            ⟨some r37, .faddr 4 (.t r36), none, [6, 5]⟩,
            ⟨some r38, .load 1 false (.t r37), none, [7, 6, 5]⟩,
            ⟨none, .store 9 (.t r4) (.t r30), none, [0]⟩,
            ⟨some r5, .mov (.t r34), none, [4, 3, 2, 1, 9, 0]⟩,
            ⟨some r6, .mov (.t r38), none, [8, 7, 6, 5, 10, 4, 3, 2, 1, 9, 0]⟩])
          (.ret))
         (.seq (.region false [⟨some r40, .load 9 true (.t r8), none, []⟩,
            ⟨some r41, .call f_rx_Nodes [(.t r40)], none, []⟩,
            ⟨some r42, .bin .gtr (.t r41) (.c (.p (.int .i64 40))), none, []⟩,
            ⟨some r43, .mov (.t r42), none, []⟩,
            ⟨some r44, .mov (.t r7), some (r43, false), []⟩,
            ⟨some r45, .nilchk (.t r44), some (r43, false), []⟩,
            ⟨some r46, .faddr 3 (.t r45), some (r43, false), []⟩,
            ⟨some r47, .load 1 false (.t r46), some (r43, false), []⟩,
            ⟨some r48, .bin .gtr (.t r47) (.c (.p (.int .i64 3))), some (r43, false), []⟩,
            ⟨some r49, .pick (.t r43) (.c (.p (.bool true))) (.t r48), none, []⟩,
            ⟨some r39, .mov (.t r49), none, []⟩])
          (.cond (.t r39) (.seq (.region false [⟨some r50, .build [.p (.int .i64 0), .p (.int .i64 0), .p (.int .i64 0), .p (.int .i64 0), .p (.int .u64 0), .p (.int .u64 0), .p (.int .u64 0), .p (.int .u64 0), .nils] [], none, []⟩,
              ⟨none, .store 9 (.t r4) (.t r50), none, []⟩,
              ⟨some r5, .mov (.c (.p (.int .i64 0))), none, []⟩,
              ⟨some r6, .mov (.c (.p (.int .i64 4))), none, []⟩])
            (.ret))
           (.seq (.region false [⟨some r52, .load 9 true (.t r8), none, []⟩,
              ⟨some r53, .mov (.t r1), none, []⟩,
              ⟨some r54, .call f_rx_Right [(.t r52), (.t r53)], none, []⟩,
              ⟨some r55, .un .not (.t r54), none, []⟩,
              ⟨some r51, .mov (.t r55), none, []⟩])
            (.cond (.t r51) (.seq (.region false [⟨some r56, .build [.p (.int .i64 0), .p (.int .i64 0), .p (.int .i64 0), .p (.int .i64 0), .p (.int .u64 0), .p (.int .u64 0), .p (.int .u64 0), .p (.int .u64 0), .nils] [], none, []⟩,
                ⟨none, .store 9 (.t r4) (.t r56), none, []⟩,
                ⟨some r5, .mov (.c (.p (.int .i64 0))), none, []⟩,
                ⟨some r6, .mov (.c (.p (.int .i64 1))), none, []⟩])
              (.ret))
             (.skip))))))))
      (.seq (.region false [⟨some r57, .load 9 true (.t r8), none, []⟩,
         ⟨none, .store 9 (.t r4) (.t r57), none, []⟩,
         ⟨some r5, .mov (.c (.p (.int .i64 0))), none, []⟩,
         ⟨some r6, .mov (.c (.p (.int .i64 0))), none, []⟩])
       (.ret))))))
def ir_rx_Parse : VFn := ⟨.freeze, 2, b_rx_Parse, [.cell r4 9 true, .tmp r5, .tmp r6]⟩
@[simp] theorem bb_rx_Parse : ir_rx_Parse.body = b_rx_Parse := rfl
@[simp] theorem br_rx_Parse : ir_rx_Parse.res = [.cell r4 9 true, .tmp r5, .tmp r6] := rfl
@[simp] theorem bn_rx_Parse : ir_rx_Parse.nargs = 2 := rfl

/-- gloss/tpl.Subst -/
def m_tpl_Subst_0 : Mask := (.nd false (.nd true (.nd false (.nd false (.nd true .lf .lf) .lf) .lf) (.nd false .lf (.nd false (.nd false (.nd true .lf .lf) .lf) .lf))) (.nd true (.nd false .lf (.nd false (.nd false (.nd true .lf .lf) .lf) .lf)) (.nd false .lf (.nd true (.nd false (.nd true .lf .lf) .lf) .lf))))
@[simp] theorem mm_tpl_Subst_0 : m_tpl_Subst_0.go = (.nd false (.nd true (.nd false (.nd false (.nd true .lf .lf) .lf) .lf) (.nd false .lf (.nd false (.nd false (.nd true .lf .lf) .lf) .lf))) (.nd true (.nd false .lf (.nd false (.nd false (.nd true .lf .lf) .lf) .lf)) (.nd false .lf (.nd true (.nd false (.nd true .lf .lf) .lf) .lf)))) := rfl
def c_tpl_Subst_0 : VCode := .seq (.region false [⟨some r39, .bin .lss (.t r38) (.t r37), none, []⟩])
 (.seq (.cond (.t r39) (.skip)
   (.exit 0))
  (.seq (.block 1 (.seq (.region false [⟨some r40, .iaddr 8 (.t r36) (.t r38), none, []⟩,
       ⟨some r41, .load 8 true (.t r40), none, []⟩,
       ⟨some r17, .alloc t_api_Match [.p (.int .i64 0), .p (.int .i64 0), .p (.int .i64 0), .p (.int .i64 0), .p (.int .i64 0), .p (.int .i64 0), .p (.int .i64 0), .p (.int .i64 0)], none, []⟩,
       ⟨none, .store 8 (.t r17) (.t r41), none, []⟩])
     (.seq (.region false [⟨some r42, .mov (.t r2), none, []⟩,
        ⟨some r43, .mov (.t r15), none, []⟩,
        ⟨some r44, .aaddr 4 2 (.t r17) (.c (.p (.int .i64 0))), none, []⟩,
        ⟨some r45, .faddr 0 (.t r44), none, []⟩,
        ⟨some r46, .load 1 false (.t r45), none, []⟩,
        ⟨some r47, .substr (.t r42) (some (.t r43)) (some (.t r46)), none, []⟩,
        ⟨some r48, .call f_strings_Builder_WriteString [(.t r14), (.t r47)], none, []⟩])
      (.seq (.region false [⟨some r49, .mov (.t r1), none, []⟩,
         ⟨some r50, .load 8 true (.t r17), none, []⟩,
         ⟨some r51, .mov (.t r2), none, []⟩,
         ⟨some r52, .call f_tpl_Fill [(.t r49), (.t r50), (.t r51)], none, []⟩,
         ⟨some r53, .call f_strings_Builder_WriteString [(.t r14), (.t r52)], none, []⟩])
       (.region false [⟨some r54, .aaddr 4 2 (.t r17) (.c (.p (.int .i64 0))), none, []⟩,
         ⟨some r55, .faddr 1 (.t r54), none, []⟩,
         ⟨some r56, .load 1 false (.t r55), none, []⟩,
         ⟨some r15, .mov (.t r56), none, []⟩])))))
   (.region false [⟨some r57, .bin .add (.t r38) (.c (.p (.int .i64 1))), none, []⟩,
     ⟨some r38, .mov (.t r57), none, []⟩])))
def b_tpl_Subst : VCode := .seq (.region false [⟨some r5, .box t_api_Rx (.t r0), none, []⟩,
    ⟨some r10, .mov (.c (.p (.str []))), none, []⟩,
    ⟨some r11, .mov (.c (.p (.bool false))), none, []⟩])
  (.seq (.region false [⟨some r18, .load 9 true (.t r5), none, []⟩,
     ⟨some r19, .mov (.t r2), none, []⟩,
     ⟨some r20, .call f_find_All [(.t r18), (.t r19)], none, []⟩,
     ⟨some r12, .mov (.t r20), none, []⟩])
   (.seq (.region false [⟨some r21, .mov (.t r3), none, []⟩,
      ⟨some r22, .mx (.t r21) [(.c (.p (.int .i64 1)))], none, []⟩,
      ⟨some r23, .bin .sub (.t r22) (.c (.p (.int .i64 1))), none, []⟩,
      ⟨some r13, .mov (.t r23), none, []⟩])
    (.seq (.seq (.region false [⟨some r24, .mov (.t r13), none, []⟩,
        ⟨some r25, .mov (.t r12), none, []⟩,
        ⟨some r26, .lensl (.t r25), none, []⟩,
        ⟨some r27, .bin .geq (.t r24) (.t r26), none, []⟩])
      (.cond (.t r27) (.seq (.region false [⟨some r28, .mov (.t r2), none, []⟩,
          ⟨some r10, .mov (.t r28), none, []⟩,
          ⟨some r11, .mov (.c (.p (.bool false))), none, []⟩])
        (.ret))
       (.skip)))
     (.seq (.region false [⟨some r29, .mov (.t r12), none, []⟩,
        ⟨some r30, .mov (.t r13), none, []⟩,
        ⟨some r31, .subsl 8 (.t r29) (some (.t r30)) none, none, []⟩,
        ⟨some r12, .mov (.t r31), none, []⟩])
      (.seq (.seq (.region false [⟨some r32, .mov (.t r4), none, []⟩,
          ⟨some r33, .un .not (.t r32), none, []⟩])
        (.cond (.t r33) (.region false [⟨some r34, .mov (.t r12), none, []⟩,
           ⟨some r35, .subsl 8 (.t r34) none (some (.c (.p (.int .i64 1)))), none, []⟩,
           ⟨some r12, .mov (.t r35), none, []⟩])
         (.skip)))
       (.seq (.region false [⟨some r14, .alloc t_strings_Builder [.p (.nilp), .nils], none, []⟩])
        (.seq (.region false [⟨some r15, .mov (.c (.p (.int .i64 0))), none, []⟩])
         (.seq (.seq (.region false [⟨some r36, .mov (.t r12), none, []⟩,
             ⟨some r37, .lensl (.t r36), none, []⟩,
             ⟨some r38, .mov (.c (.p (.int .i64 0))), none, []⟩])
           (.block 0 (.loop m_tpl_Subst_0 c_tpl_Subst_0)))
          (.seq (.region false [⟨some r58, .mov (.t r2), none, []⟩,
             ⟨some r59, .mov (.t r15), none, []⟩,
             ⟨some r60, .substr (.t r58) (some (.t r59)) none, none, []⟩,
             ⟨some r61, .call f_strings_Builder_WriteString [(.t r14), (.t r60)], none, []⟩])
           (.seq (.seq (.region false [⟨some r62, .call f_strings_Builder_Len [(.t r14)], none, []⟩,
               ⟨some r63, .bin .gtr (.t r62) (.c (.p (.int .i64 400))), none, []⟩])
             (.cond (.t r63) (.seq (.region false [⟨some r64, .mov (.t r2), none, []⟩,
                 ⟨some r10, .mov (.t r64), none, []⟩,
                 ⟨some r11, .mov (.c (.p (.bool false))), none, []⟩])
               (.ret))
              (.skip)))
            (.seq (.region false [⟨some r65, .call f_strings_Builder_String [(.t r14)], none, []⟩,
               ⟨some r10, .mov (.t r65), none, []⟩,
               ⟨some r11, .mov (.c (.p (.bool true))), none, []⟩])
             (.ret))))))))))))
def ir_tpl_Subst : VFn := ⟨.borrow, 5, b_tpl_Subst, [.tmp r10, .tmp r11]⟩
@[simp] theorem bb_tpl_Subst : ir_tpl_Subst.body = b_tpl_Subst := rfl
@[simp] theorem br_tpl_Subst : ir_tpl_Subst.res = [.tmp r10, .tmp r11] := rfl
@[simp] theorem bn_tpl_Subst : ir_tpl_Subst.nargs = 5 := rfl

/-- gloss/glosslaw7.TplRuns -/
def b_glosslaw7_TplRuns : VCode := .seq (.region false [⟨some r0, .mov (.c (.p (.bool false))), none, []⟩])
  (.seq (.region false [⟨some r20, .call f_rx_Parse [(.c (.p (.str [40, 97, 41, 40, 98, 41]))), (.c (.p (.bool true)))], none, []⟩,
     ⟨some r19, .mov (.t r20), none, []⟩,
     ⟨some r21, .extr (.t r19) 0, none, []⟩,
     ⟨some r22, .extr (.t r19) 1, none, []⟩,
     ⟨some r23, .extr (.t r19) 2, none, []⟩,
     ⟨some r1, .alloc t_api_Rx [.p (.int .i64 0), .p (.int .i64 0), .p (.int .i64 0), .p (.int .i64 0), .p (.int .u64 0), .p (.int .u64 0), .p (.int .u64 0), .p (.int .u64 0), .nils], none, []⟩,
     ⟨none, .store 9 (.t r1) (.t r21), none, []⟩,
     ⟨some r2, .mov (.t r22), none, []⟩,
     ⟨some r3, .mov (.t r23), none, []⟩])
   (.seq (.region false [⟨some r25, .call f_rx_Parse [(.c (.p (.str [97]))), (.c (.p (.bool true)))], none, []⟩,
      ⟨some r24, .mov (.t r25), none, []⟩,
      ⟨some r26, .extr (.t r24) 0, none, []⟩,
      ⟨some r27, .extr (.t r24) 1, none, []⟩,
      ⟨some r28, .extr (.t r24) 2, none, []⟩,
      ⟨some r4, .alloc t_api_Rx [.p (.int .i64 0), .p (.int .i64 0), .p (.int .i64 0), .p (.int .i64 0), .p (.int .u64 0), .p (.int .u64 0), .p (.int .u64 0), .p (.int .u64 0), .nils], none, []⟩,
      ⟨none, .store 9 (.t r4) (.t r26), none, []⟩,
      ⟨some r5, .mov (.t r27), none, []⟩,
      ⟨some r6, .mov (.t r28), none, []⟩])
    (.seq (.region false [⟨some r30, .call f_tpl_Parse [(.c (.p (.str [92, 50, 45, 92, 49, 38]))), (.c (.p (.int .i64 2)))], none, []⟩,
       ⟨some r29, .mov (.t r30), none, []⟩,
       ⟨some r31, .extr (.t r29) 0, none, []⟩,
       ⟨some r32, .extr (.t r29) 1, none, []⟩,
       ⟨some r33, .extr (.t r29) 2, none, []⟩,
       ⟨some r7, .mov (.t r31), none, []⟩,
       ⟨some r8, .mov (.t r32), none, []⟩,
       ⟨some r9, .mov (.t r33), none, []⟩])
     (.seq (.region false [⟨some r35, .call f_tpl_Parse [(.c (.p (.str [120]))), (.c (.p (.int .i64 0)))], none, []⟩,
        ⟨some r34, .mov (.t r35), none, []⟩,
        ⟨some r36, .extr (.t r34) 0, none, []⟩,
        ⟨some r37, .extr (.t r34) 1, none, []⟩,
        ⟨some r38, .extr (.t r34) 2, none, []⟩,
        ⟨some r10, .mov (.t r36), none, []⟩,
        ⟨some r11, .mov (.t r37), none, []⟩,
        ⟨some r12, .mov (.t r38), none, []⟩])
      (.seq (.region false [⟨some r40, .load 9 true (.t r1), none, []⟩,
         ⟨some r41, .mov (.t r7), none, []⟩,
         ⟨some r42, .call f_tpl_Subst [(.t r40), (.t r41), (.c (.p (.str [97, 98]))), (.c (.p (.int .i64 0))), (.c (.p (.bool false)))], none, []⟩,
         ⟨some r39, .mov (.t r42), none, []⟩,
         ⟨some r43, .extr (.t r39) 0, none, []⟩,
         ⟨some r44, .extr (.t r39) 1, none, []⟩,
         ⟨some r13, .mov (.t r43), none, []⟩,
         ⟨some r14, .mov (.t r44), none, []⟩])
       (.seq (.region false [⟨some r46, .load 9 true (.t r4), none, []⟩,
          ⟨some r47, .mov (.t r10), none, []⟩,
          ⟨some r48, .call f_tpl_Subst [(.t r46), (.t r47), (.c (.p (.str [98, 97, 110, 97, 110, 97]))), (.c (.p (.int .i64 2))), (.c (.p (.bool false)))], none, []⟩,
          ⟨some r45, .mov (.t r48), none, []⟩,
          ⟨some r49, .extr (.t r45) 0, none, []⟩,
          ⟨some r50, .extr (.t r45) 1, none, []⟩,
          ⟨some r15, .mov (.t r49), none, []⟩,
          ⟨some r16, .mov (.t r50), none, []⟩])
        (.seq (.region false [⟨some r52, .load 9 true (.t r4), none, []⟩,
           ⟨some r53, .mov (.t r10), none, []⟩,
           ⟨some r54, .call f_tpl_Subst [(.t r52), (.t r53), (.c (.p (.str [98, 97, 110, 97, 110, 97]))), (.c (.p (.int .i64 2))), (.c (.p (.bool true)))], none, []⟩,
           ⟨some r51, .mov (.t r54), none, []⟩,
           ⟨some r55, .extr (.t r51) 0, none, []⟩,
           ⟨some r56, .extr (.t r51) 1, none, []⟩,
           ⟨some r17, .mov (.t r55), none, []⟩,
           ⟨some r18, .mov (.t r56), none, []⟩])
         (.seq (.region false [⟨some r57, .mov (.t r3), none, []⟩,
            ⟨some r58, .bin .eql (.t r57) (.c (.p (.int .i64 0))), none, []⟩,
            ⟨some r59, .mov (.t r58), none, []⟩,
            ⟨some r60, .mov (.t r6), some (r59, true), []⟩,
            ⟨some r61, .bin .eql (.t r60) (.c (.p (.int .i64 0))), some (r59, true), []⟩,
            ⟨some r62, .pick (.t r59) (.t r61) (.c (.p (.bool false))), none, []⟩,
            ⟨some r63, .mov (.t r62), none, []⟩,
            ⟨some r64, .mov (.t r9), some (r63, true), []⟩,
            ⟨some r65, .bin .eql (.t r64) (.c (.p (.int .i64 0))), some (r63, true), []⟩,
            ⟨some r66, .pick (.t r63) (.t r65) (.c (.p (.bool false))), none, []⟩,
            ⟨some r67, .mov (.t r66), none, []⟩,
            ⟨some r68, .mov (.t r12), some (r67, true), []⟩,
            ⟨some r69, .bin .eql (.t r68) (.c (.p (.int .i64 0))), some (r67, true), []⟩,
            ⟨some r70, .pick (.t r67) (.t r69) (.c (.p (.bool false))), none, []⟩,
            ⟨some r71, .mov (.t r70), none, []⟩,
            ⟨some r72, .mov (.t r14), some (r71, true), []⟩,
            ⟨some r73, .pick (.t r71) (.t r72) (.c (.p (.bool false))), none, []⟩,
            ⟨some r74, .mov (.t r73), none, []⟩,
            ⟨some r75, .mov (.t r13), some (r74, true), []⟩,
            ⟨some r76, .bin .eql (.t r75) (.c (.p (.str [98, 45, 97, 97, 98]))), some (r74, true), []⟩,
            ⟨some r77, .pick (.t r74) (.t r76) (.c (.p (.bool false))), none, []⟩,
            ⟨some r78, .mov (.t r77), none, []⟩,
            ⟨some r79, .mov (.t r16), some (r78, true), []⟩,
            ⟨some r80, .pick (.t r78) (.t r79) (.c (.p (.bool false))), none, []⟩,
            ⟨some r81, .mov (.t r80), none, []⟩,
            ⟨some r82, .mov (.t r15), some (r81, true), []⟩,
            ⟨some r83, .bin .eql (.t r82) (.c (.p (.str [98, 97, 110, 120, 110, 97]))), some (r81, true), []⟩,
            ⟨some r84, .pick (.t r81) (.t r83) (.c (.p (.bool false))), none, []⟩,
            ⟨some r85, .mov (.t r84), none, []⟩,
            ⟨some r86, .mov (.t r17), some (r85, true), []⟩,
            ⟨some r87, .bin .eql (.t r86) (.c (.p (.str [98, 97, 110, 120, 110, 120]))), some (r85, true), []⟩,
            ⟨some r88, .pick (.t r85) (.t r87) (.c (.p (.bool false))), none, []⟩,
            ⟨some r0, .mov (.t r88), none, []⟩])
          (.ret)))))))))
def ir_glosslaw7_TplRuns : VFn := ⟨.borrow, 0, b_glosslaw7_TplRuns, [.tmp r0]⟩
@[simp] theorem bb_glosslaw7_TplRuns : ir_glosslaw7_TplRuns.body = b_glosslaw7_TplRuns := rfl
@[simp] theorem br_glosslaw7_TplRuns : ir_glosslaw7_TplRuns.res = [.tmp r0] := rfl
@[simp] theorem bn_glosslaw7_TplRuns : ir_glosslaw7_TplRuns.nargs = 0 := rfl

/-- gloss/glossbook.Within -/
def b_glossbook_Within : VCode := .seq (.region false [⟨some r6, .mov (.c (.p (.int .i64 0))), none, []⟩])
  (.seq (.region false [⟨some r7, .mov (.t r0), none, []⟩,
     ⟨some r8, .mov (.t r2), none, []⟩,
     ⟨some r9, .mov (.t r1), none, []⟩,
     ⟨some r10, .bin .sub (.t r8) (.t r9), none, []⟩,
     ⟨some r11, .bin .add (.t r10) (.c (.p (.int .i64 1))), none, []⟩,
     ⟨some r12, .bin .rem (.t r7) (.t r11), none, []⟩,
     ⟨some r0, .mov (.t r12), none, []⟩])
   (.seq (.seq (.region false [⟨some r13, .mov (.t r0), none, []⟩,
       ⟨some r14, .bin .lss (.t r13) (.c (.p (.int .i64 0))), none, []⟩])
     (.cond (.t r14) (.region false [⟨some r15, .mov (.t r0), none, []⟩,
        ⟨some r16, .mov (.t r2), none, []⟩,
        ⟨some r17, .bin .add (.t r15) (.t r16), none, []⟩,
        ⟨some r18, .mov (.t r1), none, []⟩,
        ⟨some r19, .bin .sub (.t r17) (.t r18), none, []⟩,
        ⟨some r20, .bin .add (.t r19) (.c (.p (.int .i64 1))), none, []⟩,
        ⟨some r0, .mov (.t r20), none, []⟩])
      (.skip)))
    (.seq (.region false [⟨some r21, .mov (.t r1), none, []⟩,
       ⟨some r22, .mov (.t r0), none, []⟩,
       ⟨some r23, .bin .add (.t r21) (.t r22), none, []⟩,
       ⟨some r6, .mov (.t r23), none, []⟩])
     (.ret))))
def ir_glossbook_Within : VFn := ⟨.borrow, 3, b_glossbook_Within, [.tmp r6]⟩
@[simp] theorem bb_glossbook_Within : ir_glossbook_Within.body = b_glossbook_Within := rfl
@[simp] theorem br_glossbook_Within : ir_glossbook_Within.res = [.tmp r6] := rfl
@[simp] theorem bn_glossbook_Within : ir_glossbook_Within.nargs = 3 := rfl

/-- (gloss/glosskeep.Tpl).Tpl -/
def m_glosskeep_Tpl_Tpl_0 : Mask := (.nd false (.nd true .lf (.nd true .lf .lf)) (.nd true .lf (.nd true .lf .lf)))
@[simp] theorem mm_glosskeep_Tpl_Tpl_0 : m_glosskeep_Tpl_Tpl_0.go = (.nd false (.nd true .lf (.nd true .lf .lf)) (.nd true .lf (.nd true .lf .lf))) := rfl
def c_glosskeep_Tpl_Tpl_0 : VCode := .seq (.seq (.region false [⟨some r9, .mov (.t r6), none, []⟩,
    ⟨some r10, .faddr 0 (.t r2), none, []⟩,
    ⟨some r11, .load 1 false (.t r10), none, []⟩,
    ⟨some r12, .lensl (.t r11), none, []⟩,
    ⟨some r13, .bin .lss (.t r9) (.t r12), none, []⟩,
    ⟨some r14, .mov (.t r13), none, []⟩,
    ⟨some r15, .mov (.t r6), some (r14, true), []⟩,
    ⟨some r16, .bin .lss (.t r15) (.c (.p (.int .i64 5))), some (r14, true), []⟩,
    ⟨some r17, .pick (.t r14) (.t r16) (.c (.p (.bool false))), none, []⟩])
  (.cond (.t r17) (.skip)
   (.exit 0)))
 (.seq (.block 1 (.seq (.region false [⟨some r20, .faddr 0 (.t r2), none, []⟩,
      ⟨some r21, .load 1 false (.t r20), none, []⟩,
      ⟨some r22, .mov (.t r6), none, []⟩,
      ⟨some r23, .iaddr 1 (.t r21) (.t r22), none, []⟩,
      ⟨some r24, .load 1 false (.t r23), none, []⟩,
      ⟨some r7, .mov (.t r24), none, []⟩])
    (.seq (.region false [⟨some r25, .mov (.t r5), none, []⟩,
       ⟨some r26, .lensl (.t r25), none, []⟩,
       ⟨some r27, .bin .gtr (.t r26) (.c (.p (.int .i64 0))), none, []⟩,
       ⟨some r28, .mov (.t r27), none, []⟩,
       ⟨some r29, .mov (.t r5), some (r28, true), []⟩,
       ⟨some r30, .mov (.t r5), some (r28, true), []⟩,
       ⟨some r31, .lensl (.t r30), some (r28, true), []⟩,
       ⟨some r32, .bin .sub (.t r31) (.c (.p (.int .i64 1))), some (r28, true), []⟩,
       ⟨some r33, .iaddr 2 (.t r29) (.t r32), some (r28, true), []⟩,
       ⟨some r34, .faddr 0 (.t r33), some (r28, true), []⟩,
       ⟨some r35, .load 1 false (.t r34), some (r28, true), []⟩,
       ⟨some r36, .bin .lss (.t r35) (.c (.p (.int .i64 0))), some (r28, true), []⟩,
       ⟨some r37, .pick (.t r28) (.t r36) (.c (.p (.bool false))), none, []⟩,
       ⟨some r8, .mov (.t r37), none, []⟩])
     (.seq (.seq (.region false [⟨some r38, .mov (.t r7), none, []⟩,
         ⟨some r39, .bin .and (.t r38) (.c (.p (.int .i64 1))), none, []⟩,
         ⟨some r40, .bin .eql (.t r39) (.c (.p (.int .i64 1))), none, []⟩,
         ⟨some r41, .mov (.t r40), none, []⟩,
         ⟨some r42, .mov (.t r8), some (r41, true), []⟩,
         ⟨some r43, .un .not (.t r42), some (r41, true), []⟩,
         ⟨some r44, .pick (.t r41) (.t r43) (.c (.p (.bool false))), none, []⟩])
       (.cond (.t r44) (.seq (.region false [⟨some r45, .mov (.t r5), none, []⟩,
           ⟨some r46, .bsl t_string 1 [.p (.str []), .p (.str []), .p (.str []), .p (.str []), .p (.str []), .p (.str []), .p (.str []), .p (.str [])] 8 [(0, 1, (.c (.p (.str [120])))), (1, 1, (.c (.p (.str [45])))), (2, 1, (.c (.p (.str [38])))), (3, 1, (.c (.p (.str [47])))), (4, 1, (.c (.p (.str [92])))), (5, 1, (.c (.p (.str [97, 10, 98])))), (6, 1, (.c (.p (.str [49])))), (7, 1, (.c (.p (.str [121, 121]))))], none, []⟩,
           ⟨some r47, .mov (.t r7), none, []⟩,
           ⟨some r48, .bin .quo (.t r47) (.c (.p (.int .i64 2))), none, []⟩,
           ⟨some r49, .call f_glossbook_Within [(.t r48), (.c (.p (.int .i64 0))), (.c (.p (.int .i64 7)))], none, []⟩,
           ⟨some r50, .iaddr 1 (.t r46) (.t r49), none, []⟩,
           ⟨some r51, .load 1 false (.t r50), none, []⟩,
           ⟨some r52, .build [.p (.int .i64 0), .p (.str [])] [(0, 1, (.c (.p (.int .i64 (-1))))), (1, 1, (.t r51))], none, []⟩,
           ⟨some r53, .bsl t_api_Piece 2 [.p (.int .i64 0), .p (.str [])] 1 [(0, 2, (.t r52))], none, []⟩,
           ⟨some r54, .app t_api_Piece 2 (.t r45) (.t r53), none, []⟩,
           ⟨some r5, .mov (.t r54), none, []⟩])
         (.exit 1))
        (.skip)))
      (.region false [⟨some r55, .mov (.t r5), none, []⟩,
        ⟨some r56, .mov (.t r7), none, []⟩,
        ⟨some r57, .bin .quo (.t r56) (.c (.p (.int .i64 2))), none, []⟩,
        ⟨some r58, .mov (.t r1), none, []⟩,
        ⟨some r59, .call f_glossbook_Within [(.t r57), (.c (.p (.int .i64 0))), (.t r58)], none, []⟩,
        ⟨some r60, .build [.p (.int .i64 0), .p (.str [])] [(0, 1, (.t r59))], none, []⟩,
        ⟨some r61, .bsl t_api_Piece 2 [.p (.int .i64 0), .p (.str [])] 1 [(0, 2, (.t r60))], none, []⟩,
        ⟨some r62, .app t_api_Piece 2 (.t r55) (.t r61), none, []⟩,
        ⟨some r5, .mov (.t r62), none, []⟩])))))
  (.region false [⟨some r18, .mov (.t r6), none, []⟩,
    ⟨some r19, .bin .add (.t r18) (.c (.p (.int .i64 1))), none, []⟩,
    ⟨some r6, .mov (.t r19), none, []⟩]))
def b_glosskeep_Tpl_Tpl : VCode := .seq (.region false [⟨some r2, .box t_glosskeep_Tpl (.t r0), none, []⟩,
    ⟨some r4, .mov (.c (.r (.nils))), none, []⟩])
  (.seq (.region false [⟨some r5, .mov (.c (.r (.nils))), none, []⟩])
   (.seq (.seq (.region false [⟨some r6, .mov (.c (.p (.int .i64 0))), none, []⟩])
     (.block 0 (.loop m_glosskeep_Tpl_Tpl_0 c_glosskeep_Tpl_Tpl_0)))
    (.seq (.region false [⟨some r63, .mov (.t r5), none, []⟩,
       ⟨some r4, .mov (.t r63), none, []⟩])
     (.ret))))
def ir_glosskeep_Tpl_Tpl : VFn := ⟨.freeze, 2, b_glosskeep_Tpl_Tpl, [.tmp r4]⟩
@[simp] theorem bb_glosskeep_Tpl_Tpl : ir_glosskeep_Tpl_Tpl.body = b_glosskeep_Tpl_Tpl := rfl
@[simp] theorem br_glosskeep_Tpl_Tpl : ir_glosskeep_Tpl_Tpl.res = [.tmp r4] := rfl
@[simp] theorem bn_glosskeep_Tpl_Tpl : ir_glosskeep_Tpl_Tpl.nargs = 2 := rfl

/-- gloss/find.Group -/
def b_find_Group : VCode := .seq (.region false [⟨some r3, .box t_api_Match (.t r0), none, []⟩,
    ⟨some r6, .mov (.c (.p (.str []))), none, []⟩])
  (.seq (.seq (.region true [⟨some r7, .mov (.t r2), none, []⟩,
      ⟨some r8, .bin .lss (.t r7) (.c (.p (.int .i64 0))), none, [0]⟩,
      ⟨some r9, .mov (.t r8), none, [1, 0]⟩,
      ⟨some r10, .mov (.t r2), some (r9, false), [2, 1, 0]⟩,
      ⟨some r11, .bin .geq (.t r10) (.c (.p (.int .i64 4))), some (r9, false), [3, 2, 1, 0]⟩,
      ⟨some r12, .pick (.t r9) (.c (.p (.bool true))) (.t r11), none, [2, 1, 0, 4, 3]⟩,
      ⟨some r13, .mov (.t r12), none, [5, 2, 1, 0, 4, 3]⟩,
      ⟨some r14, .mov (.t r2), some (r13, false), [6, 5, 2, 1, 0, 4, 3]⟩,
      ⟨some r15, .aaddr 4 2 (.t r3) (.t r14), some (r13, false), [7, 6, 5, 2, 1, 0, 4, 3]⟩,
      ⟨some r16, .faddr 0 (.t r15), some (r13, false), [8, 7, 6, 5, 2, 1, 0, 4, 3]⟩,
      ⟨some r17, .load 1 false (.t r16), some (r13, false), [9, 8, 7, 6, 5, 2, 1, 0, 4, 3]⟩,
      ⟨some r18, .bin .lss (.t r17) (.c (.p (.int .i64 0))), some (r13, false), [10, 9, 8, 7, 6, 5, 2, 1, 0, 4, 3]⟩,
      ⟨some r19, .pick (.t r13) (.c (.p (.bool true))) (.t r18), none, [6, 5, 2, 1, 0, 4, 3, 11, 10, 9, 8, 7]⟩,
      ⟨some r20, .mov (.t r19), none, [12, 6, 5, 2, 1, 0, 4, 3, 11, 10, 9, 8, 7]⟩,
      ⟨some r21, .mov (.t r2), some (r20, false), [13, 12, 6, 5, 2, 1, 0, 4, 3, 11, 10, 9, 8, 7]⟩,
      ⟨some r22, .aaddr 4 2 (.t r3) (.t r21), some (r20, false), [14, 13, 12, 6, 5, 2, 1, 0, 4, 3, 11, 10, 9, 8, 7]⟩,
      ⟨some r23, .faddr 0 (.t r22), some (r20, false), [15, 14, 13, 12, 6, 5, 2, 1, 0, 4, 3, 11, 10, 9, 8, 7]⟩,
      ⟨some r24, .load 1 false (.t r23), some (r20, false), [16, 15, 14, 13, 12, 6, 5, 2, 1, 0, 4, 3, 11, 10, 9, 8, 7]⟩,
      ⟨some r25, .mov (.t r2), some (r20, false), [13, 12, 6, 5, 2, 1, 0, 4, 3, 11, 10, 9, 8, 7]⟩,
      ⟨some r26, .aaddr 4 2 (.t r3) (.t r25), some (r20, false), [18, 13, 12, 6, 5, 2, 1, 0, 4, 3, 11, 10, 9, 8, 7]⟩,
      ⟨some r27, .faddr 1 (.t r26), some (r20, false), [19, 18, 13, 12, 6, 5, 2, 1, 0, 4, 3, 11, 10, 9, 8, 7]⟩,
      ⟨some r28, .load 1 false (.t r27), some (r20, false), [20, 19, 18, 13, 12, 6, 5, 2, 1, 0, 4, 3, 11, 10, 9, 8, 7]⟩,
      ⟨some r29, .bin .gtr (.t r24) (.t r28), some (r20, false), [17, 16, 15, 14, 13, 12, 6, 5, 2, 1, 0, 4, 3, 11, 10, 9, 8, 7, 21, 20, 19, 18]⟩,
      ⟨some r30, .pick (.t r20) (.c (.p (.bool true))) (.t r29), none, [13, 12, 6, 5, 2, 1, 0, 4, 3, 11, 10, 9, 8, 7, 22, 17, 16, 15, 14, 21, 20, 19, 18]⟩,
      ⟨some r31, .mov (.t r30), none, [23, 13, 12, 6, 5, 2, 1, 0, 4, 3, 11, 10, 9, 8, 7, 22, 17, 16, 15, 14, 21, 20, 19, 18]⟩,
      ⟨some r32, .mov (.t r2), some (r31, false), [24, 23, 13, 12, 6, 5, 2, 1, 0, 4, 3, 11, 10, 9, 8, 7, 22, 17, 16, 15, 14, 21, 20, 19, 18]⟩,
      ⟨some r33, .aaddr 4 2 (.t r3) (.t r32), some (r31, false), [25, 24, 23, 13, 12, 6, 5, 2, 1, 0, 4, 3, 11, 10, 9, 8, 7, 22, 17, 16, 15, 14, 21, 20, 19, 18]⟩,
      ⟨some r34, .faddr 1 (.t r33), some (r31, false), [26, 25, 24, 23, 13, 12, 6, 5, 2, 1, 0, 4, 3, 11, 10, 9, 8, 7, 22, 17, 16, 15, 14, 21, 20, 19, 18]⟩,
      ⟨some r35, .load 1 false (.t r34), some (r31, false), [27, 26, 25, 24, 23, 13, 12, 6, 5, 2, 1, 0, 4, 3, 11, 10, 9, 8, 7, 22, 17, 16, 15, 14, 21, 20, 19, 18]⟩,
      ⟨some r36, .mov (.t r1), some (r31, false), [24, 23, 13, 12, 6, 5, 2, 1, 0, 4, 3, 11, 10, 9, 8, 7, 22, 17, 16, 15, 14, 21, 20, 19, 18]⟩,
      ⟨some r37, .lenstr (.t r36), some (r31, false), [29, 24, 23, 13, 12, 6, 5, 2, 1, 0, 4, 3, 11, 10, 9, 8, 7, 22, 17, 16, 15, 14, 21, 20, 19, 18]⟩,
      ⟨some r38, .bin .gtr (.t r35) (.t r37), some (r31, false), [28, 27, 26, 25, 24, 23, 13, 12, 6, 5, 2, 1, 0, 4, 3, 11, 10, 9, 8, 7, 22, 17, 16, 15, 14, 21, 20, 19, 18, 30, 29]⟩,
      ⟨some r39, .pick (.t r31) (.c (.p (.bool true))) (.t r38), none, [24, 23, 13, 12, 6, 5, 2, 1, 0, 4, 3, 11, 10, 9, 8, 7, 22, 17, 16, 15, 14, 21, 20, 19, 18, 31, 28, 27, 26, 25, 30, 29]⟩])
    (.cond (.t r39) (.seq (.region false [⟨some r6, .mov (.c (.p (.str []))), none, []⟩])
      (.ret))
     (.skip)))
   (.seq (.region true [⟨some r40, .mov (.t r1), none, []⟩,
      ⟨some r41, .mov (.t r2), none, []⟩,
      ⟨some r42, .aaddr 4 2 (.t r3) (.t r41), none, [1]⟩,
      ⟨some r43, .faddr 0 (.t r42), none, [2, 1]⟩,
      ⟨some r44, .load 1 false (.t r43), none, [3, 2, 1]⟩,
      ⟨some r45, .mov (.t r2), none, []⟩,
      ⟨some r46, .aaddr 4 2 (.t r3) (.t r45), none, [5]⟩,
      ⟨some r47, .faddr 1 (.t r46), none, [6, 5]⟩,
      ⟨some r48, .load 1 false (.t r47), none, [7, 6, 5]⟩,
      ⟨some r49, .substr (.t r40) (some (.t r44)) (some (.t r48)), none, [0, 4, 3, 2, 1, 8, 7, 6, 5]⟩,
      ⟨some r6, .mov (.t r49), none, [9, 0, 4, 3, 2, 1, 8, 7, 6, 5]⟩])
    (.ret)))
def ir_find_Group : VFn := ⟨.borrow, 3, b_find_Group, [.tmp r6]⟩
@[simp] theorem bb_find_Group : ir_find_Group.body = b_find_Group := rfl
@[simp] theorem br_find_Group : ir_find_Group.res = [.tmp r6] := rfl
@[simp] theorem bn_find_Group : ir_find_Group.nargs = 3 := rfl

/-- gloss/tpl.Fill -/
def m_tpl_Fill_0 : Mask := (.nd false (.nd false (.nd false (.nd true .lf .lf) (.nd true .lf .lf)) .lf) (.nd true (.nd true .lf (.nd true .lf .lf)) (.nd false (.nd true .lf .lf) .lf)))
@[simp] theorem mm_tpl_Fill_0 : m_tpl_Fill_0.go = (.nd false (.nd false (.nd false (.nd true .lf .lf) (.nd true .lf .lf)) .lf) (.nd true (.nd true .lf (.nd true .lf .lf)) (.nd false (.nd true .lf .lf) .lf))) := rfl
def c_tpl_Fill_0 : VCode := .seq (.region false [⟨some r13, .bin .lss (.t r12) (.t r11), none, []⟩])
 (.seq (.cond (.t r13) (.skip)
   (.exit 0))
  (.seq (.block 1 (.seq (.region false [⟨some r14, .iaddr 2 (.t r10) (.t r12), none, []⟩,
       ⟨some r15, .load 2 true (.t r14), none, []⟩,
       ⟨some r9, .alloc t_api_Piece [.p (.int .i64 0), .p (.str [])], none, []⟩,
       ⟨none, .store 2 (.t r9) (.t r15), none, []⟩])
     (.seq (.region false [⟨some r16, .faddr 0 (.t r9), none, []⟩,
        ⟨some r17, .load 1 false (.t r16), none, []⟩,
        ⟨some r18, .bin .eql (.t r17) (.c (.p (.int .i64 (-1)))), none, []⟩])
      (.cond (.t r18) (.region false [⟨some r19, .faddr 1 (.t r9), none, []⟩,
         ⟨some r20, .load 1 false (.t r19), none, []⟩,
         ⟨some r21, .call f_strings_Builder_WriteString [(.t r7), (.t r20)], none, []⟩])
       (.region false [⟨some r22, .load 8 true (.t r4), none, []⟩,
         ⟨some r23, .mov (.t r2), none, []⟩,
         ⟨some r24, .faddr 0 (.t r9), none, []⟩,
         ⟨some r25, .load 1 false (.t r24), none, []⟩,
         ⟨some r26, .call f_find_Group [(.t r22), (.t r23), (.t r25)], none, []⟩,
         ⟨some r27, .call f_strings_Builder_WriteString [(.t r7), (.t r26)], none, []⟩])))))
   (.region false [⟨some r28, .bin .add (.t r12) (.c (.p (.int .i64 1))), none, []⟩,
     ⟨some r12, .mov (.t r28), none, []⟩])))
def b_tpl_Fill : VCode := .seq (.region false [⟨some r4, .box t_api_Match (.t r1), none, []⟩,
    ⟨some r6, .mov (.c (.p (.str []))), none, []⟩])
  (.seq (.region false [⟨some r7, .alloc t_strings_Builder [.p (.nilp), .nils], none, []⟩])
   (.seq (.seq (.region false [⟨some r10, .mov (.t r0), none, []⟩,
       ⟨some r11, .lensl (.t r10), none, []⟩,
       ⟨some r12, .mov (.c (.p (.int .i64 0))), none, []⟩])
     (.block 0 (.loop m_tpl_Fill_0 c_tpl_Fill_0)))
    (.seq (.region false [⟨some r29, .call f_strings_Builder_String [(.t r7)], none, []⟩,
       ⟨some r6, .mov (.t r29), none, []⟩])
     (.ret))))
def ir_tpl_Fill : VFn := ⟨.borrow, 3, b_tpl_Fill, [.tmp r6]⟩
@[simp] theorem bb_tpl_Fill : ir_tpl_Fill.body = b_tpl_Fill := rfl
@[simp] theorem br_tpl_Fill : ir_tpl_Fill.res = [.tmp r6] := rfl
@[simp] theorem bn_tpl_Fill : ir_tpl_Fill.nargs = 3 := rfl

/-- gloss/tpl.Right -/
def m_tpl_Right_0 : Mask := (.nd true (.nd true (.nd false (.nd true .lf .lf) .lf) (.nd false (.nd true .lf .lf) .lf)) (.nd false (.nd false (.nd true .lf .lf) .lf) .lf))
@[simp] theorem mm_tpl_Right_0 : m_tpl_Right_0.go = (.nd true (.nd true (.nd false (.nd true .lf .lf) .lf) (.nd false (.nd true .lf .lf) .lf)) (.nd false (.nd false (.nd true .lf .lf) .lf) .lf)) := rfl
def c_tpl_Right_0 : VCode := .seq (.region false [⟨some r10, .bin .lss (.t r9) (.t r8), none, []⟩])
 (.seq (.cond (.t r10) (.skip)
   (.exit 0))
  (.seq (.block 1 (.seq (.region false [⟨some r11, .mov (.t r9), none, []⟩,
       ⟨some r12, .iaddr 2 (.t r7) (.t r9), none, []⟩,
       ⟨some r13, .load 2 true (.t r12), none, []⟩,
       ⟨some r6, .alloc t_api_Piece [.p (.int .i64 0), .p (.str [])], none, []⟩,
       ⟨some r5, .mov (.t r11), none, []⟩,
       ⟨none, .store 2 (.t r6) (.t r13), none, []⟩])
     (.block 2 (.seq (.region false [⟨some r15, .faddr 0 (.t r6), none, []⟩,
         ⟨some r16, .load 1 false (.t r15), none, []⟩,
         ⟨some r17, .bin .eql (.t r16) (.c (.p (.int .i64 (-1)))), none, []⟩,
         ⟨some r18, .mov (.t r17), none, []⟩,
         ⟨some r19, .faddr 1 (.t r6), some (r18, true), []⟩,
         ⟨some r20, .load 1 false (.t r19), some (r18, true), []⟩,
         ⟨some r21, .bin .eql (.t r20) (.c (.p (.str []))), some (r18, true), []⟩,
         ⟨some r22, .mov (.t r21), some (r18, true), []⟩,
         ⟨some r23, .faddr 1 (.t r6), some (r22, false), []⟩,
         ⟨some r24, .load 1 false (.t r23), some (r22, false), []⟩,
         ⟨some r25, .lenstr (.t r24), some (r22, false), []⟩,
         ⟨some r26, .bin .gtr (.t r25) (.c (.p (.int .i64 400))), some (r22, false), []⟩,
         ⟨some r27, .pick (.t r22) (.c (.p (.bool true))) (.t r26), some (r18, true), []⟩,
         ⟨some r28, .mov (.t r27), some (r18, true), []⟩,
         ⟨some r29, .mov (.t r5), some (r28, false), []⟩,
         ⟨some r30, .bin .gtr (.t r29) (.c (.p (.int .i64 0))), some (r28, false), []⟩,
         ⟨some r31, .mov (.t r30), some (r28, false), []⟩,
         ⟨some r32, .mov (.t r0), some (r31, true), []⟩,
         ⟨some r33, .mov (.t r5), some (r31, true), []⟩,
         ⟨some r34, .bin .sub (.t r33) (.c (.p (.int .i64 1))), some (r31, true), []⟩,
         ⟨some r35, .iaddr 2 (.t r32) (.t r34), some (r31, true), []⟩,
         ⟨some r36, .faddr 0 (.t r35), some (r31, true), []⟩,
         ⟨some r37, .load 1 false (.t r36), some (r31, true), []⟩,
         ⟨some r38, .bin .eql (.t r37) (.c (.p (.int .i64 (-1)))), some (r31, true), []⟩,
         ⟨some r39, .pick (.t r31) (.t r38) (.c (.p (.bool false))), some (r28, false), []⟩,
         ⟨some r40, .pick (.t r28) (.c (.p (.bool true))) (.t r39), some (r18, true), []⟩,
         ⟨some r41, .pick (.t r18) (.t r40) (.c (.p (.bool false))), none, []⟩,
         ⟨some r14, .mov (.t r41), none, []⟩])
       (.cond (.t r14) (.seq (.region false [⟨some r4, .mov (.c (.p (.bool false))), none, []⟩])
         (.ret))
        (.seq (.region false [⟨some r43, .faddr 0 (.t r6), none, []⟩,
           ⟨some r44, .load 1 false (.t r43), none, []⟩,
           ⟨some r45, .bin .neq (.t r44) (.c (.p (.int .i64 (-1)))), none, []⟩,
           ⟨some r46, .mov (.t r45), none, []⟩,
           ⟨some r47, .faddr 0 (.t r6), some (r46, true), []⟩,
           ⟨some r48, .load 1 false (.t r47), some (r46, true), []⟩,
           ⟨some r49, .bin .lss (.t r48) (.c (.p (.int .i64 0))), some (r46, true), []⟩,
           ⟨some r50, .mov (.t r49), some (r46, true), []⟩,
           ⟨some r51, .faddr 0 (.t r6), some (r50, false), []⟩,
           ⟨some r52, .load 1 false (.t r51), some (r50, false), []⟩,
           ⟨some r53, .mov (.t r1), some (r50, false), []⟩,
           ⟨some r54, .bin .gtr (.t r52) (.t r53), some (r50, false), []⟩,
           ⟨some r55, .pick (.t r50) (.c (.p (.bool true))) (.t r54), some (r46, true), []⟩,
           ⟨some r56, .mov (.t r55), some (r46, true), []⟩,
           ⟨some r57, .faddr 1 (.t r6), some (r56, false), []⟩,
           ⟨some r58, .load 1 false (.t r57), some (r56, false), []⟩,
           ⟨some r59, .bin .neq (.t r58) (.c (.p (.str []))), some (r56, false), []⟩,
           ⟨some r60, .pick (.t r56) (.c (.p (.bool true))) (.t r59), some (r46, true), []⟩,
           ⟨some r61, .pick (.t r46) (.t r60) (.c (.p (.bool false))), none, []⟩,
           ⟨some r42, .mov (.t r61), none, []⟩])
         (.cond (.t r42) (.seq (.region false [⟨some r4, .mov (.c (.p (.bool false))), none, []⟩])
           (.ret))
          (.skip))))))))
   (.region false [⟨some r62, .bin .add (.t r9) (.c (.p (.int .i64 1))), none, []⟩,
     ⟨some r9, .mov (.t r62), none, []⟩])))
def b_tpl_Right : VCode := .seq (.region false [⟨some r4, .mov (.c (.p (.bool false))), none, []⟩])
  (.seq (.seq (.region false [⟨some r7, .mov (.t r0), none, []⟩,
      ⟨some r8, .lensl (.t r7), none, []⟩,
      ⟨some r9, .mov (.c (.p (.int .i64 0))), none, []⟩])
    (.block 0 (.loop m_tpl_Right_0 c_tpl_Right_0)))
   (.seq (.region false [⟨some r4, .mov (.c (.p (.bool true))), none, []⟩])
    (.ret)))
def ir_tpl_Right : VFn := ⟨.borrow, 2, b_tpl_Right, [.tmp r4]⟩
@[simp] theorem bb_tpl_Right : ir_tpl_Right.body = b_tpl_Right := rfl
@[simp] theorem br_tpl_Right : ir_tpl_Right.res = [.tmp r4] := rfl
@[simp] theorem bn_tpl_Right : ir_tpl_Right.nargs = 2 := rfl

/-- gloss/bset.Not -/
def m_bset_Not_0 : Mask := (.nd false (.nd true .lf .lf) (.nd true (.nd true .lf .lf) .lf))
@[simp] theorem mm_bset_Not_0 : m_bset_Not_0.go = (.nd false (.nd true .lf .lf) (.nd true (.nd true .lf .lf) .lf)) := rfl
def c_bset_Not_0 : VCode := .seq (.region false [⟨some r5, .bin .lss (.t r4) (.c (.p (.int .i64 4))), none, []⟩])
 (.seq (.cond (.t r5) (.skip)
   (.exit 0))
  (.seq (.block 1 (.seq (.region false [⟨some r6, .mov (.t r4), none, []⟩,
       ⟨some r3, .mov (.t r6), none, []⟩])
     (.region false [⟨some r7, .mov (.t r3), none, []⟩,
       ⟨some r8, .mov (.t r3), none, []⟩,
       ⟨some r9, .aaddr 4 1 (.t r1) (.t r8), none, []⟩,
       ⟨some r10, .load 1 false (.t r9), none, []⟩,
       ⟨some r11, .un .xor (.t r10), none, []⟩,
       ⟨some r12, .aaddr 4 1 (.t r1) (.t r7), none, []⟩,
       ⟨none, .store 1 (.t r12) (.t r11), none, []⟩])))
   (.region false [⟨some r13, .bin .add (.t r4) (.c (.p (.int .i64 1))), none, []⟩,
     ⟨some r4, .mov (.t r13), none, []⟩])))
def b_bset_Not : VCode := .seq (.region false [⟨some r1, .box t_api_Set (.t r0), none, []⟩,
    ⟨some r2, .alloc t_api_Set [.p (.int .u64 0), .p (.int .u64 0), .p (.int .u64 0), .p (.int .u64 0)], none, []⟩])
  (.seq (.seq (.region false [⟨some r4, .mov (.c (.p (.int .i64 0))), none, []⟩])
    (.block 0 (.loop m_bset_Not_0 c_bset_Not_0)))
   (.seq (.region false [⟨some r14, .load 4 true (.t r1), none, []⟩,
      ⟨none, .store 4 (.t r2) (.t r14), none, []⟩])
    (.ret)))
def ir_bset_Not : VFn := ⟨.freeze, 1, b_bset_Not, [.cell r2 4 true]⟩
@[simp] theorem bb_bset_Not : ir_bset_Not.body = b_bset_Not := rfl
@[simp] theorem br_bset_Not : ir_bset_Not.res = [.cell r2 4 true] := rfl
@[simp] theorem bn_bset_Not : ir_bset_Not.nargs = 1 := rfl

/-- gloss/way.Ways -/
def b_way_Ways : VCode := .seq (.region false [⟨some r4, .box t_api_Rx (.t r0), none, []⟩,
    ⟨some r8, .mov (.c (.r (.nils))), none, []⟩])
  (.seq (.seq (.region false [⟨some r9, .load 9 true (.t r4), none, []⟩,
      ⟨some r10, .call f_rx_Right [(.t r9), (.c (.p (.bool true)))], none, []⟩,
      ⟨some r11, .un .not (.t r10), none, []⟩,
      ⟨some r12, .mov (.t r11), none, []⟩,
      ⟨some r13, .mov (.t r1), some (r12, false), []⟩,
      ⟨some r14, .lenstr (.t r13), some (r12, false), []⟩,
      ⟨some r15, .bin .gtr (.t r14) (.c (.p (.int .i64 60))), some (r12, false), []⟩,
      ⟨some r16, .pick (.t r12) (.c (.p (.bool true))) (.t r15), none, []⟩,
      ⟨some r17, .mov (.t r16), none, []⟩,
      ⟨some r18, .mov (.t r3), some (r17, false), []⟩,
      ⟨some r19, .bin .lss (.t r18) (.c (.p (.int .i64 0))), some (r17, false), []⟩,
      ⟨some r20, .pick (.t r17) (.c (.p (.bool true))) (.t r19), none, []⟩,
      ⟨some r21, .mov (.t r20), none, []⟩,
      ⟨some r22, .mov (.t r3), some (r21, false), []⟩,
      ⟨some r23, .mov (.t r1), some (r21, false), []⟩,
      ⟨some r24, .lenstr (.t r23), some (r21, false), []⟩,
      ⟨some r25, .bin .gtr (.t r22) (.t r24), some (r21, false), []⟩,
      ⟨some r26, .pick (.t r21) (.c (.p (.bool true))) (.t r25), none, []⟩])
    (.cond (.t r26) (.seq (.region false [⟨some r8, .mov (.c (.r (.nils))), none, []⟩])
      (.ret))
     (.skip)))
   (.seq (.region true [⟨some r27, .mov (.t r1), none, []⟩,
      ⟨some r28, .mov (.t r2), none, []⟩,
      ⟨some r29, .build [.p (.str []), .p (.bool false)] [(0, 1, (.t r27)), (1, 1, (.t r28))], none, [0, 1]⟩,
      ⟨some r30, .load 9 true (.t r4), none, []⟩,
      ⟨some r31, .mov (.t r3), none, []⟩,
      ⟨some r32, .call f_way_None [], none, []⟩,
      ⟨some r33, .build [.p (.int .i64 0), .p (.int .i64 0), .p (.int .i64 0), .p (.int .i64 0), .p (.int .i64 0), .p (.int .i64 0), .p (.int .i64 0), .p (.int .i64 0), .p (.int .i64 0)] [(0, 1, (.t r31)), (1, 8, (.t r32))], none, [4, 5]⟩,
      ⟨some r34, .call f_way_text_ways [(.t r29), (.t r30), (.t r33)], none, [2, 0, 1, 3, 6, 4, 5]⟩,
      ⟨some r8, .mov (.t r34), none, [7, 2, 0, 1, 3, 6, 4, 5]⟩])
    (.ret)))
def ir_way_Ways : VFn := ⟨.freeze, 4, b_way_Ways, [.tmp r8]⟩
@[simp] theorem bb_way_Ways : ir_way_Ways.body = b_way_Ways := rfl
@[simp] theorem br_way_Ways : ir_way_Ways.res = [.tmp r8] := rfl
@[simp] theorem bn_way_Ways : ir_way_Ways.nargs = 4 := rfl

/-- gloss/find.First -/
def m_find_First_0 : Mask := (.nd false (.nd true (.nd true .lf (.nd false .lf (.nd false (.nd true .lf .lf) .lf))) (.nd false (.nd true .lf .lf) (.nd false .lf (.nd false (.nd true .lf .lf) .lf)))) (.nd false (.nd false (.nd true .lf .lf) (.nd false .lf (.nd false (.nd true .lf .lf) .lf))) (.nd true (.nd true .lf .lf) .lf)))
@[simp] theorem mm_find_First_0 : m_find_First_0.go = (.nd false (.nd true (.nd true .lf (.nd false .lf (.nd false (.nd true .lf .lf) .lf))) (.nd false (.nd true .lf .lf) (.nd false .lf (.nd false (.nd true .lf .lf) .lf)))) (.nd false (.nd false (.nd true .lf .lf) (.nd false .lf (.nd false (.nd true .lf .lf) .lf))) (.nd true (.nd true .lf .lf) .lf))) := rfl
def c_find_First_0 : VCode := .seq (.region false [⟨some r46, .bin .lss (.t r45) (.t r44), none, []⟩])
 (.seq (.cond (.t r46) (.skip)
   (.exit 2))
  (.seq (.block 3 (.seq (.region false [⟨some r47, .iaddr 9 (.t r43) (.t r45), none, []⟩,
       ⟨some r48, .load 9 true (.t r47), none, []⟩,
       ⟨some r12, .alloc t_way_State [.p (.int .i64 0), .p (.int .i64 0), .p (.int .i64 0), .p (.int .i64 0), .p (.int .i64 0), .p (.int .i64 0), .p (.int .i64 0), .p (.int .i64 0), .p (.int .i64 0)], none, []⟩,
       ⟨none, .store 9 (.t r12) (.t r48), none, []⟩])
     (.seq (.region false [⟨some r49, .mov (.t r10), none, []⟩,
        ⟨some r50, .un .not (.t r49), none, []⟩,
        ⟨some r51, .mov (.t r50), none, []⟩,
        ⟨some r52, .faddr 0 (.t r12), some (r51, false), []⟩,
        ⟨some r53, .load 1 false (.t r52), some (r51, false), []⟩,
        ⟨some r54, .faddr 0 (.t r9), some (r51, false), []⟩,
        ⟨some r55, .load 1 false (.t r54), some (r51, false), []⟩,
        ⟨some r56, .bin .gtr (.t r53) (.t r55), some (r51, false), []⟩,
        ⟨some r57, .pick (.t r51) (.c (.p (.bool true))) (.t r56), none, []⟩])
      (.cond (.t r57) (.region false [⟨some r58, .load 9 true (.t r12), none, []⟩,
         ⟨none, .store 9 (.t r9) (.t r58), none, []⟩,
         ⟨some r10, .mov (.c (.p (.bool true))), none, []⟩])
       (.skip)))))
   (.region false [⟨some r59, .bin .add (.t r45) (.c (.p (.int .i64 1))), none, []⟩,
     ⟨some r45, .mov (.t r59), none, []⟩])))

def m_find_First_1 : Mask := (.nd false (.nd true (.nd true .lf .lf) .lf) (.nd false (.nd false (.nd true .lf .lf) .lf) (.nd true .lf .lf)))
@[simp] theorem mm_find_First_1 : m_find_First_1.go = (.nd false (.nd true (.nd true .lf .lf) .lf) (.nd false (.nd false (.nd true .lf .lf) .lf) (.nd true .lf .lf))) := rfl
def c_find_First_1 : VCode := .seq (.seq (.region false [⟨some r33, .mov (.t r8), none, []⟩,
    ⟨some r34, .mov (.t r1), none, []⟩,
    ⟨some r35, .lenstr (.t r34), none, []⟩,
    ⟨some r36, .bin .leq (.t r33) (.t r35), none, []⟩])
  (.cond (.t r36) (.skip)
   (.exit 0)))
 (.seq (.block 1 (.seq (.region false [⟨some r39, .build [.p (.int .i64 0), .p (.int .i64 0), .p (.int .i64 0), .p (.int .i64 0), .p (.int .i64 0), .p (.int .i64 0), .p (.int .i64 0), .p (.int .i64 0), .p (.int .i64 0)] [], none, []⟩,
      ⟨some r9, .alloc t_way_State [.p (.int .i64 0), .p (.int .i64 0), .p (.int .i64 0), .p (.int .i64 0), .p (.int .i64 0), .p (.int .i64 0), .p (.int .i64 0), .p (.int .i64 0), .p (.int .i64 0)], none, []⟩,
      ⟨none, .store 9 (.t r9) (.t r39), none, []⟩,
      ⟨some r10, .mov (.c (.p (.bool false))), none, []⟩])
    (.seq (.seq (.region false [⟨some r40, .load 9 true (.t r3), none, []⟩,
        ⟨some r41, .mov (.t r1), none, []⟩,
        ⟨some r42, .mov (.t r8), none, []⟩,
        ⟨some r43, .call f_way_Ways [(.t r40), (.t r41), (.c (.p (.bool true))), (.t r42)], none, []⟩,
        ⟨some r44, .lensl (.t r43), none, []⟩,
        ⟨some r45, .mov (.c (.p (.int .i64 0))), none, []⟩])
      (.block 2 (.loop m_find_First_0 c_find_First_0)))
     (.seq (.region false [⟨some r60, .mov (.t r10), none, []⟩])
      (.cond (.t r60) (.seq (.region false [⟨some r61, .mov (.t r8), none, []⟩,
          ⟨some r62, .faddr 0 (.t r9), none, []⟩,
          ⟨some r63, .load 1 false (.t r62), none, []⟩,
          ⟨some r64, .build [.p (.int .i64 0), .p (.int .i64 0)] [(0, 1, (.t r61)), (1, 1, (.t r63))], none, []⟩,
          ⟨some r65, .faddr 1 (.t r9), none, []⟩,
          ⟨some r66, .aaddr 4 2 (.t r65) (.c (.p (.int .i64 0))), none, []⟩,
          ⟨none, .store 2 (.t r66) (.t r64), none, []⟩])
        (.seq (.region false [⟨some r67, .faddr 1 (.t r9), none, []⟩,
           ⟨some r68, .load 8 true (.t r67), none, []⟩,
           ⟨none, .store 8 (.t r6) (.t r68), none, []⟩,
           ⟨some r7, .mov (.c (.p (.bool true))), none, []⟩])
         (.ret)))
       (.skip))))))
  (.region false [⟨some r37, .mov (.t r8), none, []⟩,
    ⟨some r38, .bin .add (.t r37) (.c (.p (.int .i64 1))), none, []⟩,
    ⟨some r8, .mov (.t r38), none, []⟩]))
def b_find_First : VCode := .seq (.region false [⟨some r3, .box t_api_Rx (.t r0), none, []⟩,
    ⟨some r6, .alloc t_api_Match [.p (.int .i64 0), .p (.int .i64 0), .p (.int .i64 0), .p (.int .i64 0), .p (.int .i64 0), .p (.int .i64 0), .p (.int .i64 0), .p (.int .i64 0)], none, []⟩,
    ⟨some r7, .mov (.c (.p (.bool false))), none, []⟩])
  (.seq (.seq (.region false [⟨some r13, .mov (.t r2), none, []⟩,
      ⟨some r14, .bin .lss (.t r13) (.c (.p (.int .i64 0))), none, []⟩,
      ⟨some r15, .mov (.t r14), none, []⟩,
      ⟨some r16, .mov (.t r2), some (r15, false), []⟩,
      ⟨some r17, .mov (.t r1), some (r15, false), []⟩,
      ⟨some r18, .lenstr (.t r17), some (r15, false), []⟩,
      ⟨some r19, .bin .gtr (.t r16) (.t r18), some (r15, false), []⟩,
      ⟨some r20, .pick (.t r15) (.c (.p (.bool true))) (.t r19), none, []⟩,
      ⟨some r21, .mov (.t r20), none, []⟩,
      ⟨some r22, .mov (.t r1), some (r21, false), []⟩,
      ⟨some r23, .lenstr (.t r22), some (r21, false), []⟩,
      ⟨some r24, .bin .gtr (.t r23) (.c (.p (.int .i64 60))), some (r21, false), []⟩,
      ⟨some r25, .pick (.t r21) (.c (.p (.bool true))) (.t r24), none, []⟩,
      ⟨some r26, .mov (.t r25), none, []⟩,
      ⟨some r27, .load 9 true (.t r3), some (r26, false), []⟩,
      ⟨some r28, .call f_rx_Right [(.t r27), (.c (.p (.bool true)))], some (r26, false), []⟩,
      ⟨some r29, .un .not (.t r28), some (r26, false), []⟩,
      ⟨some r30, .pick (.t r26) (.c (.p (.bool true))) (.t r29), none, []⟩])
    (.cond (.t r30) (.seq (.region false [⟨some r31, .call f_way_None [], none, []⟩,
        ⟨none, .store 8 (.t r6) (.t r31), none, []⟩,
        ⟨some r7, .mov (.c (.p (.bool false))), none, []⟩])
      (.ret))
     (.skip)))
   (.seq (.seq (.region false [⟨some r32, .mov (.t r2), none, []⟩,
       ⟨some r8, .mov (.t r32), none, []⟩])
     (.block 0 (.loop m_find_First_1 c_find_First_1)))
    (.seq (.region false [⟨some r69, .call f_way_None [], none, []⟩,
       ⟨none, .store 8 (.t r6) (.t r69), none, []⟩,
       ⟨some r7, .mov (.c (.p (.bool false))), none, []⟩])
     (.ret))))
def ir_find_First : VFn := ⟨.freeze, 3, b_find_First, [.cell r6 8 true, .tmp r7]⟩
@[simp] theorem bb_find_First : ir_find_First.body = b_find_First := rfl
@[simp] theorem br_find_First : ir_find_First.res = [.cell r6 8 true, .tmp r7] := rfl
@[simp] theorem bn_find_First : ir_find_First.nargs = 3 := rfl

/-- gloss/way.None -/
def m_way_None_0 : Mask := (.nd true (.nd true (.nd true .lf .lf) .lf) .lf)
@[simp] theorem mm_way_None_0 : m_way_None_0.go = (.nd true (.nd true (.nd true .lf .lf) .lf) .lf) := rfl
def c_way_None_0 : VCode := .seq (.region false [⟨some r4, .bin .lss (.t r3) (.c (.p (.int .i64 4))), none, []⟩])
 (.seq (.cond (.t r4) (.skip)
   (.exit 0))
  (.seq (.block 1 (.seq (.region false [⟨some r5, .mov (.t r3), none, []⟩,
       ⟨some r2, .mov (.t r5), none, []⟩])
     (.region false [⟨some r6, .mov (.t r2), none, []⟩,
       ⟨some r7, .build [.p (.int .i64 0), .p (.int .i64 0)] [(0, 1, (.c (.p (.int .i64 (-1))))), (1, 1, (.c (.p (.int .i64 (-1)))))], none, []⟩,
       ⟨some r8, .aaddr 4 2 (.t r1) (.t r6), none, []⟩,
       ⟨none, .store 2 (.t r8) (.t r7), none, []⟩])))
   (.region false [⟨some r9, .bin .add (.t r3) (.c (.p (.int .i64 1))), none, []⟩,
     ⟨some r3, .mov (.t r9), none, []⟩])))
def b_way_None : VCode := .seq (.region false [⟨some r0, .alloc t_api_Match [.p (.int .i64 0), .p (.int .i64 0), .p (.int .i64 0), .p (.int .i64 0), .p (.int .i64 0), .p (.int .i64 0), .p (.int .i64 0), .p (.int .i64 0)], none, []⟩])
  (.seq (.region false [⟨some r1, .alloc t_api_Match [.p (.int .i64 0), .p (.int .i64 0), .p (.int .i64 0), .p (.int .i64 0), .p (.int .i64 0), .p (.int .i64 0), .p (.int .i64 0), .p (.int .i64 0)], none, []⟩])
   (.seq (.seq (.region false [⟨some r3, .mov (.c (.p (.int .i64 0))), none, []⟩])
     (.block 0 (.loop m_way_None_0 c_way_None_0)))
    (.seq (.region false [⟨some r10, .load 8 true (.t r1), none, []⟩,
       ⟨none, .store 8 (.t r0) (.t r10), none, []⟩])
     (.ret))))
def ir_way_None : VFn := ⟨.freeze, 0, b_way_None, [.cell r0 8 true]⟩
@[simp] theorem bb_way_None : ir_way_None.body = b_way_None := rfl
@[simp] theorem br_way_None : ir_way_None.res = [.cell r0 8 true] := rfl
@[simp] theorem bn_way_None : ir_way_None.nargs = 0 := rfl

/-- (*gloss/rx.reader).alt -/
def m_rx_reader_alt_0 : Mask := (.nd true (.nd true .lf (.nd true .lf .lf)) (.nd false (.nd true .lf .lf) .lf))
@[simp] theorem mm_rx_reader_alt_0 : m_rx_reader_alt_0.go = (.nd true (.nd true .lf (.nd true .lf .lf)) (.nd false (.nd true .lf .lf) .lf)) := rfl
def c_rx_reader_alt_0 : VCode := .seq (.seq (.region false [⟨some r10, .mov (.t r0), none, []⟩,
    ⟨some r11, .nilchk (.t r10), none, []⟩,
    ⟨some r12, .faddr 1 (.t r11), none, []⟩,
    ⟨some r13, .load 1 false (.t r12), none, []⟩,
    ⟨some r14, .mov (.t r13), none, []⟩,
    ⟨some r15, .mov (.t r0), some (r14, true), []⟩,
    ⟨some r16, .call f_rx_reader_took [(.t r15), (.c (.p (.str [124])))], some (r14, true), []⟩,
    ⟨some r17, .pick (.t r14) (.t r16) (.c (.p (.bool false))), none, []⟩])
  (.cond (.t r17) (.skip)
   (.exit 0)))
 (.block 1 (.region false [⟨some r18, .mov (.t r5), none, []⟩,
    ⟨some r19, .mov (.t r0), none, []⟩,
    ⟨some r20, .mov (.t r1), none, []⟩,
    ⟨some r21, .call f_rx_reader_cat [(.t r19), (.t r20)], none, []⟩,
    ⟨some r22, .bsl t_api_Rx 9 [.p (.int .i64 0), .p (.int .i64 0), .p (.int .i64 0), .p (.int .i64 0), .p (.int .u64 0), .p (.int .u64 0), .p (.int .u64 0), .p (.int .u64 0), .nils] 1 [(0, 9, (.t r21))], none, []⟩,
    ⟨some r23, .app t_api_Rx 9 (.t r18) (.t r22), none, []⟩,
    ⟨some r5, .mov (.t r23), none, []⟩]))
def b_rx_reader_alt : VCode := .seq (.region false [⟨some r4, .alloc t_api_Rx [.p (.int .i64 0), .p (.int .i64 0), .p (.int .i64 0), .p (.int .i64 0), .p (.int .u64 0), .p (.int .u64 0), .p (.int .u64 0), .p (.int .u64 0), .nils], none, []⟩])
  (.seq (.region false [⟨some r6, .mov (.t r0), none, []⟩,
     ⟨some r7, .mov (.t r1), none, []⟩,
     ⟨some r8, .call f_rx_reader_cat [(.t r6), (.t r7)], none, []⟩,
     ⟨some r9, .bsl t_api_Rx 9 [.p (.int .i64 0), .p (.int .i64 0), .p (.int .i64 0), .p (.int .i64 0), .p (.int .u64 0), .p (.int .u64 0), .p (.int .u64 0), .p (.int .u64 0), .nils] 1 [(0, 9, (.t r8))], none, []⟩,
     ⟨some r5, .mov (.t r9), none, []⟩])
   (.seq (.block 0 (.loop m_rx_reader_alt_0 c_rx_reader_alt_0))
    (.seq (.seq (.region false [⟨some r24, .mov (.t r5), none, []⟩,
        ⟨some r25, .lensl (.t r24), none, []⟩,
        ⟨some r26, .bin .eql (.t r25) (.c (.p (.int .i64 1))), none, []⟩])
      (.cond (.t r26) (.seq (.region false [⟨some r27, .mov (.t r5), none, []⟩,
          ⟨some r28, .iaddr 9 (.t r27) (.c (.p (.int .i64 0))), none, []⟩,
          ⟨some r29, .load 9 true (.t r28), none, []⟩,
          ⟨none, .store 9 (.t r4) (.t r29), none, []⟩])
        (.ret))
       (.skip)))
     (.seq (.region false [⟨some r30, .mov (.t r5), none, []⟩,
        ⟨some r31, .build [.p (.int .i64 0), .p (.int .i64 0), .p (.int .i64 0), .p (.int .i64 0), .p (.int .u64 0), .p (.int .u64 0), .p (.int .u64 0), .p (.int .u64 0), .nils] [(0, 1, (.c (.p (.int .i64 3)))), (8, 1, (.t r30))], none, []⟩,
        ⟨none, .store 9 (.t r4) (.t r31), none, []⟩])
      (.ret)))))
def ir_rx_reader_alt : VFn := ⟨.heap, 2, b_rx_reader_alt, [.cell r4 9 true]⟩
@[simp] theorem bb_rx_reader_alt : ir_rx_reader_alt.body = b_rx_reader_alt := rfl
@[simp] theorem br_rx_reader_alt : ir_rx_reader_alt.res = [.cell r4 9 true] := rfl
@[simp] theorem bn_rx_reader_alt : ir_rx_reader_alt.nargs = 2 := rfl

/-- (*gloss/rx.reader).fail -/
def b_rx_reader_fail : VCode := .seq (.region false [⟨some r4, .alloc t_api_Rx [.p (.int .i64 0), .p (.int .i64 0), .p (.int .i64 0), .p (.int .i64 0), .p (.int .u64 0), .p (.int .u64 0), .p (.int .u64 0), .p (.int .u64 0), .nils], none, []⟩])
  (.seq (.seq (.region false [⟨some r5, .mov (.t r0), none, []⟩,
      ⟨some r6, .nilchk (.t r5), none, []⟩,
      ⟨some r7, .faddr 4 (.t r6), none, []⟩,
      ⟨some r8, .load 1 false (.t r7), none, []⟩,
      ⟨some r9, .bin .eql (.t r8) (.c (.p (.int .i64 0))), none, []⟩])
    (.cond (.t r9) (.region false [⟨some r10, .mov (.t r0), none, []⟩,
       ⟨some r11, .mov (.t r1), none, []⟩,
       ⟨some r12, .nilchk (.t r10), none, []⟩,
       ⟨some r13, .faddr 4 (.t r12), none, []⟩,
       ⟨none, .store 1 (.t r13) (.t r11), none, []⟩])
     (.skip)))
   (.seq (.region false [⟨some r14, .build [.p (.int .i64 0), .p (.int .i64 0), .p (.int .i64 0), .p (.int .i64 0), .p (.int .u64 0), .p (.int .u64 0), .p (.int .u64 0), .p (.int .u64 0), .nils] [], none, []⟩,
      ⟨none, .store 9 (.t r4) (.t r14), none, []⟩])
    (.ret)))
def ir_rx_reader_fail : VFn := ⟨.heap, 2, b_rx_reader_fail, [.cell r4 9 true]⟩
@[simp] theorem bb_rx_reader_fail : ir_rx_reader_fail.body = b_rx_reader_fail := rfl
@[simp] theorem br_rx_reader_fail : ir_rx_reader_fail.res = [.cell r4 9 true] := rfl
@[simp] theorem bn_rx_reader_fail : ir_rx_reader_fail.nargs = 2 := rfl

/-- gloss/rx.Nodes -/
def m_rx_Nodes_0 : Mask := (.nd false (.nd false (.nd true (.nd true .lf .lf) .lf) (.nd false (.nd true .lf .lf) .lf)) (.nd false (.nd false (.nd true .lf .lf) .lf) .lf))
@[simp] theorem mm_rx_Nodes_0 : m_rx_Nodes_0.go = (.nd false (.nd false (.nd true (.nd true .lf .lf) .lf) (.nd false (.nd true .lf .lf) .lf)) (.nd false (.nd false (.nd true .lf .lf) .lf) .lf)) := rfl
def c_rx_Nodes_0 : VCode := .seq (.region false [⟨some r10, .bin .lss (.t r9) (.t r8), none, []⟩])
 (.seq (.cond (.t r10) (.skip)
   (.exit 0))
  (.seq (.block 1 (.seq (.region false [⟨some r11, .iaddr 9 (.t r7) (.t r9), none, []⟩,
       ⟨some r12, .load 9 true (.t r11), none, []⟩,
       ⟨some r5, .alloc t_api_Rx [.p (.int .i64 0), .p (.int .i64 0), .p (.int .i64 0), .p (.int .i64 0), .p (.int .u64 0), .p (.int .u64 0), .p (.int .u64 0), .p (.int .u64 0), .nils], none, []⟩,
       ⟨none, .store 9 (.t r5) (.t r12), none, []⟩])
     (.region false [⟨some r13, .mov (.t r3), none, []⟩,
       ⟨some r14, .load 9 true (.t r5), none, []⟩,
       ⟨some r15, .call f_rx_Nodes [(.t r14)], none, []⟩,
       ⟨some r16, .bin .add (.t r13) (.t r15), none, []⟩,
       ⟨some r3, .mov (.t r16), none, []⟩])))
   (.region false [⟨some r17, .bin .add (.t r9) (.c (.p (.int .i64 1))), none, []⟩,
     ⟨some r9, .mov (.t r17), none, []⟩])))
def b_rx_Nodes : VCode := .seq (.region false [⟨some r1, .box t_api_Rx (.t r0), none, []⟩,
    ⟨some r2, .mov (.c (.p (.int .i64 0))), none, []⟩])
  (.seq (.region false [⟨some r3, .mov (.c (.p (.int .i64 1))), none, []⟩])
   (.seq (.seq (.region false [⟨some r6, .faddr 8 (.t r1), none, []⟩,
       ⟨some r7, .load 1 false (.t r6), none, []⟩,
       ⟨some r8, .lensl (.t r7), none, []⟩,
       ⟨some r9, .mov (.c (.p (.int .i64 0))), none, []⟩])
     (.block 0 (.loop m_rx_Nodes_0 c_rx_Nodes_0)))
    (.seq (.region false [⟨some r18, .mov (.t r3), none, []⟩,
       ⟨some r2, .mov (.t r18), none, []⟩])
     (.ret))))
def ir_rx_Nodes : VFn := ⟨.borrow, 1, b_rx_Nodes, [.tmp r2]⟩
@[simp] theorem bb_rx_Nodes : ir_rx_Nodes.body = b_rx_Nodes := rfl
@[simp] theorem br_rx_Nodes : ir_rx_Nodes.res = [.tmp r2] := rfl
@[simp] theorem bn_rx_Nodes : ir_rx_Nodes.nargs = 1 := rfl

/-- gloss/rx.Right -/
def b_rx_Right : VCode := .seq (.region false [⟨some r2, .box t_api_Rx (.t r0), none, []⟩,
    ⟨some r4, .mov (.c (.p (.bool false))), none, []⟩])
  (.seq (.region false [⟨some r6, .mov (.t r1), none, []⟩,
     ⟨some r7, .build [.p (.bool false), .p (.int .i64 0)] [(0, 1, (.t r6))], none, []⟩,
     ⟨some r8, .box t_rx_walker (.t r7), none, []⟩,
     ⟨some r5, .mov (.t r8), none, []⟩])
   (.seq (.region false [⟨some r9, .load 9 true (.t r2), none, []⟩,
      ⟨some r10, .call f_rx_Nodes [(.t r9)], none, []⟩,
      ⟨some r11, .bin .leq (.t r10) (.c (.p (.int .i64 40))), none, []⟩,
      ⟨some r12, .mov (.t r11), none, []⟩,
      ⟨some r13, .mov (.t r5), some (r12, true), []⟩,
      ⟨some r14, .load 9 true (.t r2), some (r12, true), []⟩,
      ⟨some r15, .call f_rx_walker_anchors [(.t r13), (.t r14)], some (r12, true), []⟩,
      ⟨some r16, .pick (.t r12) (.t r15) (.c (.p (.bool false))), none, []⟩,
      ⟨some r17, .mov (.t r16), none, []⟩,
      ⟨some r18, .mov (.t r5), some (r17, true), []⟩,
      ⟨some r19, .load 9 true (.t r2), some (r17, true), []⟩,
      ⟨some r20, .call f_rx_walker_walk [(.t r18), (.t r19), (.c (.p (.int .i64 0)))], some (r17, true), []⟩,
      ⟨some r21, .pick (.t r17) (.t r20) (.c (.p (.bool false))), none, []⟩,
      ⟨some r22, .mov (.t r21), none, []⟩,
      ⟨some r23, .mov (.t r5), some (r22, true), []⟩,
      ⟨some r24, .nilchk (.t r23), some (r22, true), []⟩,
      ⟨some r25, .faddr 1 (.t r24), some (r22, true), []⟩,
      ⟨some r26, .load 1 false (.t r25), some (r22, true), []⟩,
      ⟨some r27, .bin .leq (.t r26) (.c (.p (.int .i64 3))), some (r22, true), []⟩,
      ⟨some r28, .pick (.t r22) (.t r27) (.c (.p (.bool false))), none, []⟩,
      ⟨some r4, .mov (.t r28), none, []⟩])
    (.ret)))
def ir_rx_Right : VFn := ⟨.borrow, 2, b_rx_Right, [.tmp r4]⟩
@[simp] theorem bb_rx_Right : ir_rx_Right.body = b_rx_Right := rfl
@[simp] theorem br_rx_Right : ir_rx_Right.res = [.tmp r4] := rfl
@[simp] theorem bn_rx_Right : ir_rx_Right.nargs = 2 := rfl

/-- (*strings.Builder).WriteString -/
def b_strings_Builder_WriteString : VCode := .seq (.region false [⟨some r4, .mov (.c (.p (.int .i64 0))), none, []⟩,
    ⟨some r5, .mov (.c (.p (.nili))), none, []⟩])
  (.seq (.region false [⟨some r6, .mov (.t r0), none, []⟩,
     ⟨some r7, .call f_strings_Builder_copyCheck [(.t r6)], none, []⟩])
   (.seq (.region false [⟨some r8, .mov (.t r0), none, []⟩,
      ⟨some r9, .mov (.t r0), none, []⟩,
      ⟨some r10, .nilchk (.t r9), none, []⟩,
      ⟨some r11, .faddr 1 (.t r10), none, []⟩,
      ⟨some r12, .load 1 false (.t r11), none, []⟩,
      ⟨some r13, .mov (.t r1), none, []⟩,
      ⟨some r14, .app t_uint8 1 (.t r12) (.t r13), none, []⟩,
      ⟨some r15, .nilchk (.t r8), none, []⟩,
      ⟨some r16, .faddr 1 (.t r15), none, []⟩,
      ⟨none, .store 1 (.t r16) (.t r14), none, []⟩])
    (.seq (.region false [⟨some r17, .mov (.t r1), none, []⟩,
       ⟨some r18, .lenstr (.t r17), none, []⟩,
       ⟨some r4, .mov (.t r18), none, []⟩,
       ⟨some r5, .mov (.c (.p (.nili))), none, []⟩])
     (.ret))))
def ir_strings_Builder_WriteString : VFn := ⟨.heap, 2, b_strings_Builder_WriteString, [.tmp r4, .tmp r5]⟩
@[simp] theorem bb_strings_Builder_WriteString : ir_strings_Builder_WriteString.body = b_strings_Builder_WriteString := rfl
@[simp] theorem br_strings_Builder_WriteString : ir_strings_Builder_WriteString.res = [.tmp r4, .tmp r5] := rfl
@[simp] theorem bn_strings_Builder_WriteString : ir_strings_Builder_WriteString.nargs = 2 := rfl

/-- (*strings.Builder).Len -/
def b_strings_Builder_Len : VCode := .seq (.region false [⟨some r2, .mov (.c (.p (.int .i64 0))), none, []⟩])
  (.seq (.region false [⟨some r3, .mov (.t r0), none, []⟩,
     ⟨some r4, .nilchk (.t r3), none, []⟩,
     ⟨some r5, .faddr 1 (.t r4), none, []⟩,
     ⟨some r6, .load 1 false (.t r5), none, []⟩,
     ⟨some r7, .lensl (.t r6), none, []⟩,
     ⟨some r2, .mov (.t r7), none, []⟩])
   (.ret))
def ir_strings_Builder_Len : VFn := ⟨.heap, 1, b_strings_Builder_Len, [.tmp r2]⟩
@[simp] theorem bb_strings_Builder_Len : ir_strings_Builder_Len.body = b_strings_Builder_Len := rfl
@[simp] theorem br_strings_Builder_Len : ir_strings_Builder_Len.res = [.tmp r2] := rfl
@[simp] theorem bn_strings_Builder_Len : ir_strings_Builder_Len.nargs = 1 := rfl

/-- (*strings.Builder).String -/
def b_strings_Builder_String : VCode := .seq (.region false [⟨some r2, .mov (.c (.p (.str []))), none, []⟩])
  (.seq (.region true [⟨some r3, .mov (.t r0), none, []⟩,
     ⟨some r4, .nilchk (.t r3), none, [0]⟩,
     ⟨some r5, .faddr 1 (.t r4), none, [1, 0]⟩,
     ⟨some r6, .load 1 false (.t r5), none, [2, 1, 0]⟩,
     ⟨some r7, .sdata (.t r6), none, [3, 2, 1, 0]⟩,
     ⟨some r8, .mov (.t r0), none, []⟩,
     ⟨some r9, .nilchk (.t r8), none, [5]⟩,
     ⟨some r10, .faddr 1 (.t r9), none, [6, 5]⟩,
     ⟨some r11, .load 1 false (.t r10), none, [7, 6, 5]⟩,
     ⟨some r12, .lensl (.t r11), none, [8, 7, 6, 5]⟩,
     ⟨some r13, .ustr t_uint8 (.t r7) (.t r12), none, [4, 3, 2, 1, 0, 9, 8, 7, 6, 5]⟩,
     ⟨some r2, .mov (.t r13), none, [10, 4, 3, 2, 1, 0, 9, 8, 7, 6, 5]⟩])
   (.ret))
def ir_strings_Builder_String : VFn := ⟨.heap, 1, b_strings_Builder_String, [.tmp r2]⟩
@[simp] theorem bb_strings_Builder_String : ir_strings_Builder_String.body = b_strings_Builder_String := rfl
@[simp] theorem br_strings_Builder_String : ir_strings_Builder_String.res = [.tmp r2] := rfl
@[simp] theorem bn_strings_Builder_String : ir_strings_Builder_String.nargs = 1 := rfl

/-- gloss/tpl.Parse -/
def m_tpl_Parse_0 : Mask := (.nd true (.nd true (.nd false (.nd true .lf .lf) .lf) .lf) (.nd false (.nd false (.nd true .lf .lf) .lf) .lf))
@[simp] theorem mm_tpl_Parse_0 : m_tpl_Parse_0.go = (.nd true (.nd true (.nd false (.nd true .lf .lf) .lf) .lf) (.nd false (.nd false (.nd true .lf .lf) .lf) .lf)) := rfl
def c_tpl_Parse_0 : VCode := .seq (.seq (.region false [⟨some r12, .mov (.t r8), none, []⟩,
    ⟨some r13, .mov (.t r0), none, []⟩,
    ⟨some r14, .lenstr (.t r13), none, []⟩,
    ⟨some r15, .bin .lss (.t r12) (.t r14), none, []⟩])
  (.cond (.t r15) (.skip)
   (.exit 0)))
 (.block 1 (.seq (.region false [⟨some r17, .mov (.t r0), none, []⟩,
     ⟨some r18, .mov (.t r8), none, []⟩,
     ⟨some r19, .substr (.t r17) (some (.t r18)) none, none, []⟩,
     ⟨some r20, .mov (.t r1), none, []⟩,
     ⟨some r21, .call f_tpl_one [(.t r19), (.t r20)], none, []⟩,
     ⟨some r16, .mov (.t r21), none, []⟩,
     ⟨some r22, .extr (.t r16) 0, none, []⟩,
     ⟨some r23, .extr (.t r16) 1, none, []⟩,
     ⟨some r9, .alloc t_api_Piece [.p (.int .i64 0), .p (.str [])], none, []⟩,
     ⟨none, .store 2 (.t r9) (.t r22), none, []⟩,
     ⟨some r10, .mov (.t r23), none, []⟩])
   (.seq (.seq (.region false [⟨some r24, .mov (.t r10), none, []⟩,
       ⟨some r25, .bin .eql (.t r24) (.c (.p (.int .i64 0))), none, []⟩])
     (.cond (.t r25) (.seq (.region false [⟨some r26, .mov (.t r8), none, []⟩,
         ⟨some r4, .mov (.c (.r (.nils))), none, []⟩,
         ⟨some r5, .mov (.t r26), none, []⟩,
         ⟨some r6, .mov (.c (.p (.int .i64 1))), none, []⟩])
       (.ret))
      (.skip)))
    (.seq (.region false [⟨some r27, .mov (.t r8), none, []⟩,
       ⟨some r28, .mov (.t r10), none, []⟩,
       ⟨some r29, .bin .add (.t r27) (.t r28), none, []⟩,
       ⟨some r8, .mov (.t r29), none, []⟩])
     (.seq (.seq (.region false [⟨some r30, .mov (.t r7), none, []⟩,
         ⟨some r31, .lensl (.t r30), none, []⟩,
         ⟨some r11, .mov (.t r31), none, []⟩])
       (.seq (.region false [⟨some r32, .faddr 0 (.t r9), none, []⟩,
          ⟨some r33, .load 1 false (.t r32), none, []⟩,
          ⟨some r34, .bin .eql (.t r33) (.c (.p (.int .i64 (-1)))), none, []⟩,
          ⟨some r35, .mov (.t r34), none, []⟩,
          ⟨some r36, .mov (.t r11), some (r35, true), []⟩,
          ⟨some r37, .bin .gtr (.t r36) (.c (.p (.int .i64 0))), some (r35, true), []⟩,
          ⟨some r38, .pick (.t r35) (.t r37) (.c (.p (.bool false))), none, []⟩,
          ⟨some r39, .mov (.t r38), none, []⟩,
          ⟨some r40, .mov (.t r7), some (r39, true), []⟩,
          ⟨some r41, .mov (.t r11), some (r39, true), []⟩,
          ⟨some r42, .bin .sub (.t r41) (.c (.p (.int .i64 1))), some (r39, true), []⟩,
          ⟨some r43, .iaddr 2 (.t r40) (.t r42), some (r39, true), []⟩,
          ⟨some r44, .faddr 0 (.t r43), some (r39, true), []⟩,
          ⟨some r45, .load 1 false (.t r44), some (r39, true), []⟩,
          ⟨some r46, .bin .eql (.t r45) (.c (.p (.int .i64 (-1)))), some (r39, true), []⟩,
          ⟨some r47, .pick (.t r39) (.t r46) (.c (.p (.bool false))), none, []⟩])
        (.cond (.t r47) (.seq (.region true [⟨some r48, .mov (.t r7), none, []⟩,
            ⟨some r49, .mov (.t r11), none, []⟩,
            ⟨some r50, .bin .sub (.t r49) (.c (.p (.int .i64 1))), none, [1]⟩,
            ⟨some r51, .iaddr 2 (.t r48) (.t r50), none, [0, 2, 1]⟩,
            ⟨some r52, .faddr 1 (.t r51), none, [3, 0, 2, 1]⟩,
            ⟨some r53, .load 1 false (.t r52), none, [4, 3, 0, 2, 1]⟩,
            ⟨some r54, .faddr 1 (.t r9), none, []⟩,
            ⟨some r55, .load 1 false (.t r54), none, [6]⟩,
            ⟨some r56, .bin .add (.t r53) (.t r55), none, [5, 4, 3, 0, 2, 1, 7, 6]⟩,
            ⟨some r57, .iaddr 2 (.t r48) (.t r50), none, [0, 2, 1, 3, 4, 5, 6, 7, 8]⟩,
            ⟨some r58, .faddr 1 (.t r57), none, [9, 0, 2, 1, 3, 4, 5, 6, 7, 8]⟩,
            ⟨none, .store 1 (.t r58) (.t r56), none, [10, 9, 0, 2, 1, 3, 4, 5, 6, 7, 8]⟩])
          (.exit 1))
         (.skip))))
      (.region false [⟨some r59, .mov (.t r7), none, []⟩,
        ⟨some r60, .load 2 true (.t r9), none, []⟩,
        ⟨some r61, .bsl t_api_Piece 2 [.p (.int .i64 0), .p (.str [])] 1 [(0, 2, (.t r60))], none, []⟩,
        ⟨some r62, .app t_api_Piece 2 (.t r59) (.t r61), none, []⟩,
        ⟨some r7, .mov (.t r62), none, []⟩]))))))
def b_tpl_Parse : VCode := .seq (.region false [⟨some r4, .mov (.c (.r (.nils))), none, []⟩,
    ⟨some r5, .mov (.c (.p (.int .i64 0))), none, []⟩,
    ⟨some r6, .mov (.c (.p (.int .i64 0))), none, []⟩])
  (.seq (.region false [⟨some r7, .mov (.c (.r (.nils))), none, []⟩])
   (.seq (.seq (.region false [⟨some r8, .mov (.c (.p (.int .i64 0))), none, []⟩])
     (.block 0 (.loop m_tpl_Parse_0 c_tpl_Parse_0)))
    (.seq (.seq (.region false [⟨some r63, .mov (.t r7), none, []⟩,
        ⟨some r64, .mov (.t r1), none, []⟩,
        ⟨some r65, .call f_tpl_Right [(.t r63), (.t r64)], none, []⟩,
        ⟨some r66, .un .not (.t r65), none, []⟩])
      (.cond (.t r66) (.seq (.region false [⟨some r4, .mov (.c (.r (.nils))), none, []⟩,
          ⟨some r5, .mov (.c (.p (.int .i64 0))), none, []⟩,
          ⟨some r6, .mov (.c (.p (.int .i64 1))), none, []⟩])
        (.ret))
       (.skip)))
     (.seq (.region false [⟨some r67, .mov (.t r7), none, []⟩,
        ⟨some r4, .mov (.t r67), none, []⟩,
        ⟨some r5, .mov (.c (.p (.int .i64 0))), none, []⟩,
        ⟨some r6, .mov (.c (.p (.int .i64 0))), none, []⟩])
      (.ret)))))
def ir_tpl_Parse : VFn := ⟨.freeze, 2, b_tpl_Parse, [.tmp r4, .tmp r5, .tmp r6]⟩
@[simp] theorem bb_tpl_Parse : ir_tpl_Parse.body = b_tpl_Parse := rfl
@[simp] theorem br_tpl_Parse : ir_tpl_Parse.res = [.tmp r4, .tmp r5, .tmp r6] := rfl
@[simp] theorem bn_tpl_Parse : ir_tpl_Parse.nargs = 2 := rfl

/-- (gloss/way.text).ways -/
def m_way_text_ways_0 : Mask := (.nd false (.nd false .lf (.nd true (.nd false (.nd false .lf (.nd false (.nd true .lf .lf) .lf)) .lf) .lf)) (.nd false (.nd true (.nd true (.nd false .lf (.nd false (.nd true .lf .lf) .lf)) .lf) .lf) (.nd false (.nd false (.nd false .lf (.nd false (.nd true .lf .lf) .lf)) .lf) .lf)))
@[simp] theorem mm_way_text_ways_0 : m_way_text_ways_0.go = (.nd false (.nd false .lf (.nd true (.nd false (.nd false .lf (.nd false (.nd true .lf .lf) .lf)) .lf) .lf)) (.nd false (.nd true (.nd true (.nd false .lf (.nd false (.nd true .lf .lf) .lf)) .lf) .lf) (.nd false (.nd false (.nd false .lf (.nd false (.nd true .lf .lf) .lf)) .lf) .lf))) := rfl
def c_way_text_ways_0 : VCode := .seq (.region false [⟨some r83, .bin .lss (.t r82) (.t r81), none, []⟩])
 (.seq (.cond (.t r83) (.skip)
   (.exit 1))
  (.seq (.block 2 (.seq (.region false [⟨some r84, .iaddr 9 (.t r80) (.t r82), none, []⟩,
       ⟨some r85, .load 9 true (.t r84), none, []⟩,
       ⟨some r10, .alloc t_way_State [.p (.int .i64 0), .p (.int .i64 0), .p (.int .i64 0), .p (.int .i64 0), .p (.int .i64 0), .p (.int .i64 0), .p (.int .i64 0), .p (.int .i64 0), .p (.int .i64 0)], none, []⟩,
       ⟨none, .store 9 (.t r10) (.t r85), none, []⟩])
     (.seq (.region false [⟨some r86, .faddr 3 (.t r4), none, []⟩,
        ⟨some r87, .load 1 false (.t r86), none, []⟩,
        ⟨some r88, .faddr 0 (.t r5), none, []⟩,
        ⟨some r89, .load 1 false (.t r88), none, []⟩,
        ⟨some r90, .faddr 0 (.t r10), none, []⟩,
        ⟨some r91, .load 1 false (.t r90), none, []⟩,
        ⟨some r92, .build [.p (.int .i64 0), .p (.int .i64 0)] [(0, 1, (.t r89)), (1, 1, (.t r91))], none, []⟩,
        ⟨some r93, .faddr 1 (.t r10), none, []⟩,
        ⟨some r94, .aaddr 4 2 (.t r93) (.t r87), none, []⟩,
        ⟨none, .store 2 (.t r94) (.t r92), none, []⟩])
      (.region false [⟨some r95, .mov (.t r8), none, []⟩,
        ⟨some r96, .load 9 true (.t r10), none, []⟩,
        ⟨some r97, .bsl t_way_State 9 [.p (.int .i64 0), .p (.int .i64 0), .p (.int .i64 0), .p (.int .i64 0), .p (.int .i64 0), .p (.int .i64 0), .p (.int .i64 0), .p (.int .i64 0), .p (.int .i64 0)] 1 [(0, 9, (.t r96))], none, []⟩,
        ⟨some r98, .call f_way_row_add [(.t r95), (.t r97)], none, []⟩]))))
   (.region false [⟨some r99, .bin .add (.t r82) (.c (.p (.int .i64 1))), none, []⟩,
     ⟨some r82, .mov (.t r99), none, []⟩])))

def m_way_text_ways_1 : Mask := (.nd false (.nd false (.nd true .lf (.nd true .lf .lf)) (.nd true .lf (.nd false .lf (.nd false (.nd false .lf (.nd true .lf .lf)) .lf)))) (.nd false (.nd false .lf (.nd false .lf (.nd false (.nd false .lf (.nd true .lf .lf)) .lf))) (.nd false .lf (.nd false .lf (.nd false (.nd false .lf (.nd true .lf .lf)) .lf)))))
@[simp] theorem mm_way_text_ways_1 : m_way_text_ways_1.go = (.nd false (.nd false (.nd true .lf (.nd true .lf .lf)) (.nd true .lf (.nd false .lf (.nd false (.nd false .lf (.nd true .lf .lf)) .lf)))) (.nd false (.nd false .lf (.nd false .lf (.nd false (.nd false .lf (.nd true .lf .lf)) .lf))) (.nd false .lf (.nd false .lf (.nd false (.nd false .lf (.nd true .lf .lf)) .lf))))) := rfl
def c_way_text_ways_1 : VCode := .seq (.region false [⟨some r111, .bin .lss (.t r110) (.t r109), none, []⟩])
 (.seq (.cond (.t r111) (.skip)
   (.exit 3))
  (.seq (.block 4 (.seq (.region false [⟨some r112, .iaddr 9 (.t r108) (.t r110), none, []⟩,
       ⟨some r113, .load 9 true (.t r112), none, []⟩,
       ⟨some r13, .alloc t_api_Rx [.p (.int .i64 0), .p (.int .i64 0), .p (.int .i64 0), .p (.int .i64 0), .p (.int .u64 0), .p (.int .u64 0), .p (.int .u64 0), .p (.int .u64 0), .nils], none, []⟩,
       ⟨none, .store 9 (.t r13) (.t r113), none, []⟩])
     (.region false [⟨some r114, .mov (.t r11), none, []⟩,
       ⟨some r115, .load 2 true (.t r3), none, []⟩,
       ⟨some r116, .load 9 true (.t r13), none, []⟩,
       ⟨some r117, .load 9 true (.t r5), none, []⟩,
       ⟨some r118, .call f_way_text_ways [(.t r115), (.t r116), (.t r117)], none, []⟩,
       ⟨some r119, .call f_way_row_add [(.t r114), (.t r118)], none, []⟩])))
   (.region false [⟨some r120, .bin .add (.t r110) (.c (.p (.int .i64 1))), none, []⟩,
     ⟨some r110, .mov (.t r120), none, []⟩])))

def m_way_text_ways_2 : Mask := (.nd false (.nd false (.nd true (.nd true .lf .lf) .lf) (.nd false (.nd false (.nd false (.nd false (.nd false (.nd true .lf .lf) .lf) .lf) .lf) .lf) .lf)) (.nd false (.nd false (.nd false (.nd false (.nd false (.nd false (.nd true .lf .lf) .lf) .lf) .lf) .lf) .lf) (.nd false (.nd false (.nd false (.nd false (.nd false (.nd true .lf .lf) .lf) .lf) .lf) .lf) .lf)))
@[simp] theorem mm_way_text_ways_2 : m_way_text_ways_2.go = (.nd false (.nd false (.nd true (.nd true .lf .lf) .lf) (.nd false (.nd false (.nd false (.nd false (.nd false (.nd true .lf .lf) .lf) .lf) .lf) .lf) .lf)) (.nd false (.nd false (.nd false (.nd false (.nd false (.nd false (.nd true .lf .lf) .lf) .lf) .lf) .lf) .lf) (.nd false (.nd false (.nd false (.nd false (.nd false (.nd true .lf .lf) .lf) .lf) .lf) .lf) .lf))) := rfl
def c_way_text_ways_2 : VCode := .seq (.region false [⟨some r131, .bin .lss (.t r130) (.t r129), none, []⟩])
 (.seq (.cond (.t r131) (.skip)
   (.exit 5))
  (.seq (.block 6 (.seq (.region false [⟨some r132, .iaddr 9 (.t r128) (.t r130), none, []⟩,
       ⟨some r133, .load 9 true (.t r132), none, []⟩,
       ⟨some r15, .alloc t_api_Rx [.p (.int .i64 0), .p (.int .i64 0), .p (.int .i64 0), .p (.int .i64 0), .p (.int .u64 0), .p (.int .u64 0), .p (.int .u64 0), .p (.int .u64 0), .nils], none, []⟩,
       ⟨none, .store 9 (.t r15) (.t r133), none, []⟩])
     (.region false [⟨some r134, .load 2 true (.t r3), none, []⟩,
       ⟨some r135, .load 9 true (.t r15), none, []⟩,
       ⟨some r136, .mov (.t r7), none, []⟩,
       ⟨some r137, .call f_way_text_from [(.t r134), (.t r135), (.t r136)], none, []⟩,
       ⟨some r7, .mov (.t r137), none, []⟩])))
   (.region false [⟨some r138, .bin .add (.t r130) (.c (.p (.int .i64 1))), none, []⟩,
     ⟨some r130, .mov (.t r138), none, []⟩])))
def b_way_text_ways : VCode := .seq (.region false [⟨some r3, .box t_way_text (.t r0), none, []⟩,
    ⟨some r4, .box t_api_Rx (.t r1), none, []⟩,
    ⟨some r5, .box t_way_State (.t r2), none, []⟩,
    ⟨some r6, .mov (.c (.r (.nils))), none, []⟩])
  (.seq (.region false [⟨some r17, .load 9 true (.t r5), none, []⟩,
     ⟨some r18, .bsl t_way_State 9 [.p (.int .i64 0), .p (.int .i64 0), .p (.int .i64 0), .p (.int .i64 0), .p (.int .i64 0), .p (.int .i64 0), .p (.int .i64 0), .p (.int .i64 0), .p (.int .i64 0)] 1 [(0, 9, (.t r17))], none, []⟩,
     ⟨some r7, .mov (.t r18), none, []⟩])
   (.seq (.seq (.region false [⟨some r19, .faddr 0 (.t r4), none, []⟩,
       ⟨some r20, .load 1 false (.t r19), none, []⟩])
     (.block 0 (.seq (.region false [⟨some r22, .bin .eql (.t r20) (.c (.p (.int .i64 1))), none, []⟩,
         ⟨some r21, .mov (.t r22), none, []⟩])
       (.cond (.t r21) (.seq (.region true [⟨some r23, .faddr 0 (.t r5), none, []⟩,
           ⟨some r24, .load 1 false (.t r23), none, [0]⟩,
           ⟨some r25, .faddr 0 (.t r3), none, []⟩,
           ⟨some r26, .load 1 false (.t r25), none, [2]⟩,
           ⟨some r27, .lenstr (.t r26), none, [3, 2]⟩,
           ⟨some r28, .bin .lss (.t r24) (.t r27), none, [1, 0, 4, 3, 2]⟩,
           ⟨some r29, .mov (.t r28), none, [5, 1, 0, 4, 3, 2]⟩,
           ⟨some r30, .faddr 4 (.t r4), some (r29, true), [6, 5, 1, 0, 4, 3, 2]⟩,
           ⟨some r31, .load 4 true (.t r30), some (r29, true), [7, 6, 5, 1, 0, 4, 3, 2]⟩,
           ⟨some r32, .faddr 0 (.t r3), some (r29, true), [6, 5, 1, 0, 4, 3, 2]⟩,
           ⟨some r33, .load 1 false (.t r32), some (r29, true), [9, 6, 5, 1, 0, 4, 3, 2]⟩,
           ⟨some r34, .faddr 0 (.t r5), some (r29, true), [6, 5, 1, 0, 4, 3, 2]⟩,
           ⟨some r35, .load 1 false (.t r34), some (r29, true), [11, 6, 5, 1, 0, 4, 3, 2]⟩,
           ⟨some r36, .sidx (.t r33) (.t r35), some (r29, true), [10, 9, 6, 5, 1, 0, 4, 3, 2, 12, 11]⟩,
           ⟨some r37, .call f_bset_Has [(.t r31), (.t r36)], some (r29, true), [8, 7, 6, 5, 1, 0, 4, 3, 2, 13, 10, 9, 12, 11]⟩,
           ⟨some r38, .pick (.t r29) (.t r37) (.c (.p (.bool false))), none, [6, 5, 1, 0, 4, 3, 2, 14, 8, 7, 13, 10, 9, 12, 11]⟩])
         (.cond (.t r38) (.seq (.region false [⟨some r39, .faddr 0 (.t r5), none, []⟩,
             ⟨some r40, .load 1 false (.t r39), none, []⟩,
             ⟨some r41, .bin .add (.t r40) (.c (.p (.int .i64 1))), none, []⟩,
             ⟨some r42, .faddr 0 (.t r5), none, []⟩,
             ⟨none, .store 1 (.t r42) (.t r41), none, []⟩])
           (.seq (.region false [⟨some r43, .load 9 true (.t r5), none, []⟩,
              ⟨some r44, .bsl t_way_State 9 [.p (.int .i64 0), .p (.int .i64 0), .p (.int .i64 0), .p (.int .i64 0), .p (.int .i64 0), .p (.int .i64 0), .p (.int .i64 0), .p (.int .i64 0), .p (.int .i64 0)] 1 [(0, 9, (.t r43))], none, []⟩,
              ⟨some r6, .mov (.t r44), none, []⟩])
            (.ret)))
          (.skip)))
        (.seq (.region false [⟨some r46, .bin .eql (.t r20) (.c (.p (.int .i64 7))), none, []⟩,
           ⟨some r45, .mov (.t r46), none, []⟩])
         (.cond (.t r45) (.seq (.region false [⟨some r47, .faddr 0 (.t r5), none, []⟩,
             ⟨some r48, .load 1 false (.t r47), none, []⟩,
             ⟨some r49, .bin .eql (.t r48) (.c (.p (.int .i64 0))), none, []⟩,
             ⟨some r50, .mov (.t r49), none, []⟩,
             ⟨some r51, .faddr 1 (.t r3), some (r50, true), []⟩,
             ⟨some r52, .load 1 false (.t r51), some (r50, true), []⟩,
             ⟨some r53, .pick (.t r50) (.t r52) (.c (.p (.bool false))), none, []⟩])
           (.cond (.t r53) (.seq (.region false [⟨some r54, .mov (.t r7), none, []⟩,
               ⟨some r6, .mov (.t r54), none, []⟩])
             (.ret))
            (.skip)))
          (.seq (.region false [⟨some r56, .bin .eql (.t r20) (.c (.p (.int .i64 8))), none, []⟩,
             ⟨some r55, .mov (.t r56), none, []⟩])
           (.cond (.t r55) (.seq (.region false [⟨some r57, .faddr 0 (.t r5), none, []⟩,
               ⟨some r58, .load 1 false (.t r57), none, []⟩,
               ⟨some r59, .faddr 0 (.t r3), none, []⟩,
               ⟨some r60, .load 1 false (.t r59), none, []⟩,
               ⟨some r61, .lenstr (.t r60), none, []⟩,
               ⟨some r62, .bin .eql (.t r58) (.t r61), none, []⟩])
             (.cond (.t r62) (.seq (.region false [⟨some r63, .mov (.t r7), none, []⟩,
                 ⟨some r6, .mov (.t r63), none, []⟩])
               (.ret))
              (.skip)))
            (.seq (.region false [⟨some r65, .bin .eql (.t r20) (.c (.p (.int .i64 6))), none, []⟩,
               ⟨some r64, .mov (.t r65), none, []⟩])
             (.cond (.t r64) (.seq (.region false [⟨some r66, .load 2 true (.t r3), none, []⟩,
                 ⟨some r67, .faddr 3 (.t r4), none, []⟩,
                 ⟨some r68, .load 1 false (.t r67), none, []⟩,
                 ⟨some r69, .load 9 true (.t r5), none, []⟩,
                 ⟨some r70, .call f_way_text_back [(.t r66), (.t r68), (.t r69)], none, []⟩,
                 ⟨some r6, .mov (.t r70), none, []⟩])
               (.ret))
              (.seq (.region false [⟨some r72, .bin .eql (.t r20) (.c (.p (.int .i64 5))), none, []⟩,
                 ⟨some r71, .mov (.t r72), none, []⟩])
               (.cond (.t r71) (.seq (.region false [⟨some r73, .call f_way_newRow [], none, []⟩,
                   ⟨some r8, .mov (.t r73), none, []⟩])
                 (.seq (.seq (.region true [⟨some r74, .load 2 true (.t r3), none, []⟩,
                     ⟨some r75, .faddr 8 (.t r4), none, []⟩,
                     ⟨some r76, .load 1 false (.t r75), none, [1]⟩,
                     ⟨some r77, .iaddr 9 (.t r76) (.c (.p (.int .i64 0))), none, [2, 1]⟩,
                     ⟨some r78, .load 9 true (.t r77), none, [3, 2, 1]⟩,
                     ⟨some r79, .load 9 true (.t r5), none, []⟩,
                     ⟨some r80, .call f_way_text_ways [(.t r74), (.t r78), (.t r79)], none, [0, 4, 3, 2, 1, 5]⟩,
                     ⟨some r81, .lensl (.t r80), none, [6, 0, 4, 3, 2, 1, 5]⟩,
                     ⟨some r82, .mov (.c (.p (.int .i64 0))), none, []⟩])
                   (.block 1 (.loop m_way_text_ways_0 c_way_text_ways_0)))
                  (.seq (.region false [⟨some r100, .mov (.t r8), none, []⟩,
                     ⟨some r101, .nilchk (.t r100), none, []⟩,
                     ⟨some r102, .faddr 0 (.t r101), none, []⟩,
                     ⟨some r103, .load 1 false (.t r102), none, []⟩,
                     ⟨some r6, .mov (.t r103), none, []⟩])
                   (.ret))))
                (.seq (.region false [⟨some r105, .bin .eql (.t r20) (.c (.p (.int .i64 3))), none, []⟩,
                   ⟨some r104, .mov (.t r105), none, []⟩])
                 (.cond (.t r104) (.seq (.region false [⟨some r106, .call f_way_newRow [], none, []⟩,
                     ⟨some r11, .mov (.t r106), none, []⟩])
                   (.seq (.seq (.region false [⟨some r107, .faddr 8 (.t r4), none, []⟩,
                       ⟨some r108, .load 1 false (.t r107), none, []⟩,
                       ⟨some r109, .lensl (.t r108), none, []⟩,
                       ⟨some r110, .mov (.c (.p (.int .i64 0))), none, []⟩])
                     (.block 3 (.loop m_way_text_ways_1 c_way_text_ways_1)))
                    (.seq (.region false [⟨some r121, .mov (.t r11), none, []⟩,
                       ⟨some r122, .nilchk (.t r121), none, []⟩,
                       ⟨some r123, .faddr 0 (.t r122), none, []⟩,
                       ⟨some r124, .load 1 false (.t r123), none, []⟩,
                       ⟨some r6, .mov (.t r124), none, []⟩])
                     (.ret))))
                  (.seq (.region false [⟨some r126, .bin .eql (.t r20) (.c (.p (.int .i64 2))), none, []⟩,
                     ⟨some r125, .mov (.t r126), none, []⟩])
                   (.cond (.t r125) (.seq (.seq (.region false [⟨some r127, .faddr 8 (.t r4), none, []⟩,
                        ⟨some r128, .load 1 false (.t r127), none, []⟩,
                        ⟨some r129, .lensl (.t r128), none, []⟩,
                        ⟨some r130, .mov (.c (.p (.int .i64 0))), none, []⟩])
                      (.block 5 (.loop m_way_text_ways_2 c_way_text_ways_2)))
                     (.seq (.region false [⟨some r139, .mov (.t r7), none, []⟩,
                        ⟨some r6, .mov (.t r139), none, []⟩])
                      (.ret)))
                    (.seq (.region false [⟨some r141, .bin .eql (.t r20) (.c (.p (.int .i64 4))), none, []⟩,
                       ⟨some r140, .mov (.t r141), none, []⟩])
                     (.cond (.t r140) (.seq (.region true [⟨some r142, .load 2 true (.t r3), none, []⟩,
                         ⟨some r143, .load 9 true (.t r4), none, []⟩,
                         ⟨some r144, .call f_way_newRow [], none, []⟩,
                         ⟨some r145, .mkmap, none, []⟩,
                         ⟨some r146, .build [.p (.str []), .p (.bool false), .p (.int .i64 0), .p (.int .i64 0), .p (.int .i64 0), .p (.int .i64 0), .p (.int .u64 0), .p (.int .u64 0), .p (.int .u64 0), .p (.int .u64 0), .nils, .p (.nilp), .p (.nilm)] [(0, 2, (.t r142)), (2, 9, (.t r143)), (11, 1, (.t r144)), (12, 1, (.t r145))], none, [0, 1, 2, 3]⟩,
                         ⟨some r147, .box t_way_repeater (.t r146), none, [4, 0, 1, 2, 3]⟩,
                         ⟨some r16, .mov (.t r147), none, [5, 4, 0, 1, 2, 3]⟩])
                       (.seq (.region false [⟨some r148, .mov (.t r16), none, []⟩,
                          ⟨some r149, .load 9 true (.t r5), none, []⟩,
                          ⟨some r150, .call f_way_repeater_on [(.t r148), (.c (.p (.int .i64 0))), (.t r149)], none, []⟩])
                        (.seq (.region false [⟨some r151, .mov (.t r16), none, []⟩,
                           ⟨some r152, .nilchk (.t r151), none, []⟩,
                           ⟨some r153, .faddr 11 (.t r152), none, []⟩,
                           ⟨some r154, .load 1 false (.t r153), none, []⟩,
                           ⟨some r155, .nilchk (.t r154), none, []⟩,
                           ⟨some r156, .faddr 0 (.t r155), none, []⟩,
                           ⟨some r157, .load 1 false (.t r156), none, []⟩,
                           ⟨some r6, .mov (.t r157), none, []⟩])
                         (.ret))))
                      (.skip)))))))))))))))))))
    (.seq (.region false [⟨some r6, .mov (.c (.r (.nils))), none, []⟩])
     (.ret))))
def ir_way_text_ways : VFn := ⟨.freeze, 3, b_way_text_ways, [.tmp r6]⟩
@[simp] theorem bb_way_text_ways : ir_way_text_ways.body = b_way_text_ways := rfl
@[simp] theorem br_way_text_ways : ir_way_text_ways.res = [.tmp r6] := rfl
@[simp] theorem bn_way_text_ways : ir_way_text_ways.nargs = 3 := rfl

/-- (*gloss/rx.reader).cat -/
def m_rx_reader_cat_0 : Mask := (.nd true (.nd true .lf (.nd true .lf .lf)) (.nd false (.nd true .lf .lf) .lf))
@[simp] theorem mm_rx_reader_cat_0 : m_rx_reader_cat_0.go = (.nd true (.nd true .lf (.nd true .lf .lf)) (.nd false (.nd true .lf .lf) .lf)) := rfl
def c_rx_reader_cat_0 : VCode := .seq (.seq (.region false [⟨some r7, .mov (.t r0), none, []⟩,
    ⟨some r8, .call f_rx_reader_ends [(.t r7)], none, []⟩,
    ⟨some r9, .un .not (.t r8), none, []⟩])
  (.cond (.t r9) (.skip)
   (.exit 0)))
 (.block 1 (.seq (.region false [⟨some r10, .mov (.t r0), none, []⟩,
     ⟨some r11, .mov (.t r5), none, []⟩,
     ⟨some r12, .mov (.t r1), none, []⟩,
     ⟨some r13, .call f_rx_reader_atom [(.t r10), (.t r11), (.t r12)], none, []⟩,
     ⟨some r6, .alloc t_api_Rx [.p (.int .i64 0), .p (.int .i64 0), .p (.int .i64 0), .p (.int .i64 0), .p (.int .u64 0), .p (.int .u64 0), .p (.int .u64 0), .p (.int .u64 0), .nils], none, []⟩,
     ⟨none, .store 9 (.t r6) (.t r13), none, []⟩])
   (.seq (.seq (.region true [⟨some r14, .mov (.t r0), none, []⟩,
       ⟨some r15, .nilchk (.t r14), none, [0]⟩,
       ⟨some r16, .faddr 4 (.t r15), none, [1, 0]⟩,
       ⟨some r17, .load 1 false (.t r16), none, [2, 1, 0]⟩,
       ⟨some r18, .bin .eql (.t r17) (.c (.p (.int .i64 0))), none, [3, 2, 1, 0]⟩,
       ⟨some r19, .mov (.t r18), none, [4, 3, 2, 1, 0]⟩,
       ⟨some r20, .mov (.t r0), some (r19, true), [5, 4, 3, 2, 1, 0]⟩,
       ⟨some r21, .mov (.t r5), some (r19, true), [5, 4, 3, 2, 1, 0]⟩,
       ⟨some r22, .call f_slices_Clone_api_Rx_api_Rx [(.t r21)], some (r19, true), [7, 5, 4, 3, 2, 1, 0]⟩,
       ⟨some r23, .load 9 true (.t r6), some (r19, true), [5, 4, 3, 2, 1, 0]⟩,
       ⟨some r24, .bsl t_api_Rx 9 [.p (.int .i64 0), .p (.int .i64 0), .p (.int .i64 0), .p (.int .i64 0), .p (.int .u64 0), .p (.int .u64 0), .p (.int .u64 0), .p (.int .u64 0), .nils] 1 [(0, 9, (.t r23))], some (r19, true), [9, 5, 4, 3, 2, 1, 0]⟩,
       ⟨some r25, .app t_api_Rx 9 (.t r22) (.t r24), some (r19, true), [8, 7, 5, 4, 3, 2, 1, 0, 10, 9]⟩,
       ⟨some r26, .call f_rx_reader_star [(.t r20), (.t r25)], some (r19, true), [6, 5, 4, 3, 2, 1, 0, 11, 8, 7, 10, 9]⟩,
       ⟨some r27, .un .not (.t r26), some (r19, true), [12, 6, 5, 4, 3, 2, 1, 0, 11, 8, 7, 10, 9]⟩,
       ⟨some r28, .pick (.t r19) (.t r27) (.c (.p (.bool false))), none, [5, 4, 3, 2, 1, 0, 13, 12, 6, 11, 8, 7, 10, 9]⟩])
     (.cond (.t r28) (.region false [⟨some r29, .mov (.t r0), none, []⟩,
        ⟨some r30, .load 9 true (.t r6), none, []⟩,
        ⟨some r31, .call f_rx_reader_again [(.t r29), (.t r30)], none, []⟩,
        ⟨none, .store 9 (.t r6) (.t r31), none, []⟩])
      (.skip)))
    (.region false [⟨some r32, .mov (.t r5), none, []⟩,
      ⟨some r33, .load 9 true (.t r6), none, []⟩,
      ⟨some r34, .bsl t_api_Rx 9 [.p (.int .i64 0), .p (.int .i64 0), .p (.int .i64 0), .p (.int .i64 0), .p (.int .u64 0), .p (.int .u64 0), .p (.int .u64 0), .p (.int .u64 0), .nils] 1 [(0, 9, (.t r33))], none, []⟩,
      ⟨some r35, .app t_api_Rx 9 (.t r32) (.t r34), none, []⟩,
      ⟨some r5, .mov (.t r35), none, []⟩]))))
def b_rx_reader_cat : VCode := .seq (.region false [⟨some r4, .alloc t_api_Rx [.p (.int .i64 0), .p (.int .i64 0), .p (.int .i64 0), .p (.int .i64 0), .p (.int .u64 0), .p (.int .u64 0), .p (.int .u64 0), .p (.int .u64 0), .nils], none, []⟩])
  (.seq (.region false [⟨some r5, .mov (.c (.r (.nils))), none, []⟩])
   (.seq (.block 0 (.loop m_rx_reader_cat_0 c_rx_reader_cat_0))
    (.seq (.seq (.region false [⟨some r36, .mov (.t r5), none, []⟩,
        ⟨some r37, .lensl (.t r36), none, []⟩,
        ⟨some r38, .bin .eql (.t r37) (.c (.p (.int .i64 1))), none, []⟩])
      (.cond (.t r38) (.seq (.region false [⟨some r39, .mov (.t r5), none, []⟩,
          ⟨some r40, .iaddr 9 (.t r39) (.c (.p (.int .i64 0))), none, []⟩,
          ⟨some r41, .load 9 true (.t r40), none, []⟩,
          ⟨none, .store 9 (.t r4) (.t r41), none, []⟩])
        (.ret))
       (.skip)))
     (.seq (.region false [⟨some r42, .mov (.t r5), none, []⟩,
        ⟨some r43, .build [.p (.int .i64 0), .p (.int .i64 0), .p (.int .i64 0), .p (.int .i64 0), .p (.int .u64 0), .p (.int .u64 0), .p (.int .u64 0), .p (.int .u64 0), .nils] [(0, 1, (.c (.p (.int .i64 2)))), (8, 1, (.t r42))], none, []⟩,
        ⟨none, .store 9 (.t r4) (.t r43), none, []⟩])
      (.ret)))))
def ir_rx_reader_cat : VFn := ⟨.heap, 2, b_rx_reader_cat, [.cell r4 9 true]⟩
@[simp] theorem bb_rx_reader_cat : ir_rx_reader_cat.body = b_rx_reader_cat := rfl
@[simp] theorem br_rx_reader_cat : ir_rx_reader_cat.res = [.cell r4 9 true] := rfl
@[simp] theorem bn_rx_reader_cat : ir_rx_reader_cat.nargs = 2 := rfl

/-- (*gloss/rx.reader).took -/
def b_rx_reader_took : VCode := .seq (.region false [⟨some r4, .mov (.c (.p (.bool false))), none, []⟩])
  (.seq (.seq (.region false [⟨some r5, .mov (.t r0), none, []⟩,
      ⟨some r6, .mov (.t r1), none, []⟩,
      ⟨some r7, .call f_rx_reader_is [(.t r5), (.t r6)], none, []⟩,
      ⟨some r8, .un .not (.t r7), none, []⟩])
    (.cond (.t r8) (.seq (.region false [⟨some r4, .mov (.c (.p (.bool false))), none, []⟩])
      (.ret))
     (.skip)))
   (.seq (.region false [⟨some r9, .mov (.t r0), none, []⟩,
      ⟨some r10, .nilchk (.t r9), none, []⟩,
      ⟨some r11, .faddr 2 (.t r10), none, []⟩,
      ⟨some r12, .load 1 false (.t r11), none, []⟩,
      ⟨some r13, .mov (.t r1), none, []⟩,
      ⟨some r14, .lenstr (.t r13), none, []⟩,
      ⟨some r15, .bin .add (.t r12) (.t r14), none, []⟩,
      ⟨some r16, .nilchk (.t r9), none, []⟩,
      ⟨some r17, .faddr 2 (.t r16), none, []⟩,
      ⟨none, .store 1 (.t r17) (.t r15), none, []⟩])
    (.seq (.region false [⟨some r4, .mov (.c (.p (.bool true))), none, []⟩])
     (.ret))))
def ir_rx_reader_took : VFn := ⟨.heap, 2, b_rx_reader_took, [.tmp r4]⟩
@[simp] theorem bb_rx_reader_took : ir_rx_reader_took.body = b_rx_reader_took := rfl
@[simp] theorem br_rx_reader_took : ir_rx_reader_took.res = [.tmp r4] := rfl
@[simp] theorem bn_rx_reader_took : ir_rx_reader_took.nargs = 2 := rfl

/-- (*gloss/rx.walker).anchors -/
def m_rx_walker_anchors_0 : Mask := (.nd false (.nd false (.nd true .lf (.nd false (.nd true .lf .lf) .lf)) (.nd false (.nd false (.nd true .lf .lf) .lf) .lf)) (.nd false .lf (.nd false (.nd false (.nd true .lf .lf) .lf) .lf)))
@[simp] theorem mm_rx_walker_anchors_0 : m_rx_walker_anchors_0.go = (.nd false (.nd false (.nd true .lf (.nd false (.nd true .lf .lf) .lf)) (.nd false (.nd false (.nd true .lf .lf) .lf) .lf)) (.nd false .lf (.nd false (.nd false (.nd true .lf .lf) .lf) .lf))) := rfl
def c_rx_walker_anchors_0 : VCode := .seq (.region false [⟨some r20, .bin .lss (.t r19) (.t r18), none, []⟩])
 (.seq (.cond (.t r20) (.skip)
   (.exit 0))
  (.seq (.block 1 (.seq (.region false [⟨some r21, .mov (.t r19), none, []⟩,
       ⟨some r22, .iaddr 9 (.t r17) (.t r19), none, []⟩,
       ⟨some r23, .load 9 true (.t r22), none, []⟩,
       ⟨some r6, .alloc t_api_Rx [.p (.int .i64 0), .p (.int .i64 0), .p (.int .i64 0), .p (.int .i64 0), .p (.int .u64 0), .p (.int .u64 0), .p (.int .u64 0), .p (.int .u64 0), .nils], none, []⟩,
       ⟨some r5, .mov (.t r21), none, []⟩,
       ⟨none, .store 9 (.t r6) (.t r23), none, []⟩])
     (.seq (.region false [⟨some r24, .faddr 0 (.t r6), none, []⟩,
        ⟨some r25, .load 1 false (.t r24), none, []⟩,
        ⟨some r26, .bin .eql (.t r25) (.c (.p (.int .i64 7))), none, []⟩,
        ⟨some r27, .mov (.t r26), none, []⟩,
        ⟨some r28, .mov (.t r5), some (r27, true), []⟩,
        ⟨some r29, .bin .gtr (.t r28) (.c (.p (.int .i64 0))), some (r27, true), []⟩,
        ⟨some r30, .pick (.t r27) (.t r29) (.c (.p (.bool false))), none, []⟩,
        ⟨some r31, .mov (.t r30), none, []⟩,
        ⟨some r32, .faddr 0 (.t r6), some (r31, false), []⟩,
        ⟨some r33, .load 1 false (.t r32), some (r31, false), []⟩,
        ⟨some r34, .bin .eql (.t r33) (.c (.p (.int .i64 8))), some (r31, false), []⟩,
        ⟨some r35, .mov (.t r34), some (r31, false), []⟩,
        ⟨some r36, .mov (.t r5), some (r35, true), []⟩,
        ⟨some r37, .faddr 8 (.t r3), some (r35, true), []⟩,
        ⟨some r38, .load 1 false (.t r37), some (r35, true), []⟩,
        ⟨some r39, .lensl (.t r38), some (r35, true), []⟩,
        ⟨some r40, .bin .sub (.t r39) (.c (.p (.int .i64 1))), some (r35, true), []⟩,
        ⟨some r41, .bin .lss (.t r36) (.t r40), some (r35, true), []⟩,
        ⟨some r42, .pick (.t r35) (.t r41) (.c (.p (.bool false))), some (r31, false), []⟩,
        ⟨some r43, .pick (.t r31) (.c (.p (.bool true))) (.t r42), none, []⟩])
      (.cond (.t r43) (.seq (.region false [⟨some r4, .mov (.c (.p (.bool false))), none, []⟩])
        (.ret))
       (.skip)))))
   (.region false [⟨some r44, .bin .add (.t r19) (.c (.p (.int .i64 1))), none, []⟩,
     ⟨some r19, .mov (.t r44), none, []⟩])))
def b_rx_walker_anchors : VCode := .seq (.region false [⟨some r3, .box t_api_Rx (.t r1), none, []⟩,
    ⟨some r4, .mov (.c (.p (.bool false))), none, []⟩])
  (.seq (.seq (.region false [⟨some r7, .mov (.t r0), none, []⟩,
      ⟨some r8, .nilchk (.t r7), none, []⟩,
      ⟨some r9, .faddr 0 (.t r8), none, []⟩,
      ⟨some r10, .load 1 false (.t r9), none, []⟩,
      ⟨some r11, .mov (.t r10), none, []⟩,
      ⟨some r12, .faddr 0 (.t r3), some (r11, false), []⟩,
      ⟨some r13, .load 1 false (.t r12), some (r11, false), []⟩,
      ⟨some r14, .bin .neq (.t r13) (.c (.p (.int .i64 2))), some (r11, false), []⟩,
      ⟨some r15, .pick (.t r11) (.c (.p (.bool true))) (.t r14), none, []⟩])
    (.cond (.t r15) (.seq (.region false [⟨some r4, .mov (.c (.p (.bool true))), none, []⟩])
      (.ret))
     (.skip)))
   (.seq (.seq (.region false [⟨some r16, .faddr 8 (.t r3), none, []⟩,
       ⟨some r17, .load 1 false (.t r16), none, []⟩,
       ⟨some r18, .lensl (.t r17), none, []⟩,
       ⟨some r19, .mov (.c (.p (.int .i64 0))), none, []⟩])
     (.block 0 (.loop m_rx_walker_anchors_0 c_rx_walker_anchors_0)))
    (.seq (.region false [⟨some r4, .mov (.c (.p (.bool true))), none, []⟩])
     (.ret))))
def ir_rx_walker_anchors : VFn := ⟨.borrow, 2, b_rx_walker_anchors, [.tmp r4]⟩
@[simp] theorem bb_rx_walker_anchors : ir_rx_walker_anchors.body = b_rx_walker_anchors := rfl
@[simp] theorem br_rx_walker_anchors : ir_rx_walker_anchors.res = [.tmp r4] := rfl
@[simp] theorem bn_rx_walker_anchors : ir_rx_walker_anchors.nargs = 2 := rfl

/-- (*gloss/rx.walker).walk -/
def m_rx_walker_walk_0 : Mask := (.nd true (.nd false (.nd false (.nd false (.nd false .lf (.nd false (.nd true .lf .lf) .lf)) .lf) .lf) (.nd false .lf (.nd false .lf (.nd false (.nd false (.nd true .lf .lf) .lf) .lf)))) (.nd true .lf (.nd false .lf (.nd false .lf (.nd false (.nd false (.nd true .lf .lf) .lf) .lf)))))
@[simp] theorem mm_rx_walker_walk_0 : m_rx_walker_walk_0.go = (.nd true (.nd false (.nd false (.nd false (.nd false .lf (.nd false (.nd true .lf .lf) .lf)) .lf) .lf) (.nd false .lf (.nd false .lf (.nd false (.nd false (.nd true .lf .lf) .lf) .lf)))) (.nd true .lf (.nd false .lf (.nd false .lf (.nd false (.nd false (.nd true .lf .lf) .lf) .lf))))) := rfl
def c_rx_walker_walk_0 : VCode := .seq (.region false [⟨some r80, .bin .lss (.t r79) (.t r78), none, []⟩])
 (.seq (.cond (.t r80) (.skip)
   (.exit 1))
  (.seq (.block 2 (.seq (.region false [⟨some r81, .iaddr 9 (.t r77) (.t r79), none, []⟩,
       ⟨some r82, .load 9 true (.t r81), none, []⟩,
       ⟨some r8, .alloc t_api_Rx [.p (.int .i64 0), .p (.int .i64 0), .p (.int .i64 0), .p (.int .i64 0), .p (.int .u64 0), .p (.int .u64 0), .p (.int .u64 0), .p (.int .u64 0), .nils], none, []⟩,
       ⟨none, .store 9 (.t r8) (.t r82), none, []⟩])
     (.seq (.region false [⟨some r83, .mov (.t r0), none, []⟩,
        ⟨some r84, .load 9 true (.t r8), none, []⟩,
        ⟨some r85, .mov (.t r2), none, []⟩,
        ⟨some r86, .call f_rx_walker_walk [(.t r83), (.t r84), (.t r85)], none, []⟩,
        ⟨some r87, .un .not (.t r86), none, []⟩])
      (.cond (.t r87) (.seq (.region false [⟨some r6, .mov (.c (.p (.bool false))), none, []⟩])
        (.ret))
       (.skip)))))
   (.region false [⟨some r88, .bin .add (.t r79) (.c (.p (.int .i64 1))), none, []⟩,
     ⟨some r79, .mov (.t r88), none, []⟩])))
def b_rx_walker_walk : VCode := .seq (.region false [⟨some r4, .box t_api_Rx (.t r1), none, []⟩,
    ⟨some r6, .mov (.c (.p (.bool false))), none, []⟩])
  (.seq (.seq (.region false [⟨some r9, .load 9 true (.t r4), none, []⟩,
      ⟨some r10, .call f_rx_bare [(.t r9)], none, []⟩,
      ⟨some r11, .un .not (.t r10), none, []⟩,
      ⟨some r12, .mov (.t r11), none, []⟩,
      ⟨some r13, .load 9 true (.t r4), some (r12, false), []⟩,
      ⟨some r14, .call f_rx_kids [(.t r13)], some (r12, false), []⟩,
      ⟨some r15, .un .not (.t r14), some (r12, false), []⟩,
      ⟨some r16, .pick (.t r12) (.c (.p (.bool true))) (.t r15), none, []⟩,
      ⟨some r17, .mov (.t r16), none, []⟩,
      ⟨some r18, .faddr 0 (.t r4), some (r17, false), []⟩,
      ⟨some r19, .load 1 false (.t r18), some (r17, false), []⟩,
      ⟨some r20, .bin .eql (.t r19) (.c (.p (.int .i64 3))), some (r17, false), []⟩,
      ⟨some r21, .mov (.t r20), some (r17, false), []⟩,
      ⟨some r22, .mov (.t r0), some (r21, true), []⟩,
      ⟨some r23, .nilchk (.t r22), some (r21, true), []⟩,
      ⟨some r24, .faddr 0 (.t r23), some (r21, true), []⟩,
      ⟨some r25, .load 1 false (.t r24), some (r21, true), []⟩,
      ⟨some r26, .un .not (.t r25), some (r21, true), []⟩,
      ⟨some r27, .pick (.t r21) (.t r26) (.c (.p (.bool false))), some (r17, false), []⟩,
      ⟨some r28, .pick (.t r17) (.c (.p (.bool true))) (.t r27), none, []⟩])
    (.cond (.t r28) (.seq (.region false [⟨some r6, .mov (.c (.p (.bool false))), none, []⟩])
      (.ret))
     (.skip)))
   (.seq (.seq (.region false [⟨some r29, .faddr 0 (.t r4), none, []⟩,
       ⟨some r30, .load 1 false (.t r29), none, []⟩])
     (.block 0 (.seq (.region false [⟨some r32, .bin .eql (.t r30) (.c (.p (.int .i64 5))), none, []⟩,
         ⟨some r31, .mov (.t r32), none, []⟩])
       (.cond (.t r31) (.seq (.region false [⟨some r33, .mov (.t r0), none, []⟩,
           ⟨some r34, .nilchk (.t r33), none, []⟩,
           ⟨some r35, .faddr 1 (.t r34), none, []⟩,
           ⟨some r36, .load 1 false (.t r35), none, []⟩,
           ⟨some r37, .bin .add (.t r36) (.c (.p (.int .i64 1))), none, []⟩,
           ⟨some r38, .nilchk (.t r33), none, []⟩,
           ⟨some r39, .faddr 1 (.t r38), none, []⟩,
           ⟨none, .store 1 (.t r39) (.t r37), none, []⟩])
         (.seq (.region false [⟨some r40, .mov (.t r2), none, []⟩,
            ⟨some r41, .bin .add (.t r40) (.c (.p (.int .i64 1))), none, []⟩,
            ⟨some r2, .mov (.t r41), none, []⟩])
          (.seq (.region true [⟨some r42, .faddr 3 (.t r4), none, []⟩,
             ⟨some r43, .load 1 false (.t r42), none, [0]⟩,
             ⟨some r44, .mov (.t r0), none, []⟩,
             ⟨some r45, .nilchk (.t r44), none, [2]⟩,
             ⟨some r46, .faddr 1 (.t r45), none, [3, 2]⟩,
             ⟨some r47, .load 1 false (.t r46), none, [4, 3, 2]⟩,
             ⟨some r48, .bin .neq (.t r43) (.t r47), none, [1, 0, 5, 4, 3, 2]⟩,
             ⟨some r49, .mov (.t r48), none, [6, 1, 0, 5, 4, 3, 2]⟩,
             ⟨some r50, .mov (.t r2), some (r49, false), [7, 6, 1, 0, 5, 4, 3, 2]⟩,
             ⟨some r51, .bin .gtr (.t r50) (.c (.p (.int .i64 6))), some (r49, false), [8, 7, 6, 1, 0, 5, 4, 3, 2]⟩,
             ⟨some r52, .pick (.t r49) (.c (.p (.bool true))) (.t r51), none, [7, 6, 1, 0, 5, 4, 3, 2, 9, 8]⟩,
             ⟨some r53, .mov (.t r52), none, [10, 7, 6, 1, 0, 5, 4, 3, 2, 9, 8]⟩,
             ⟨some r54, .mov (.t r0), some (r53, false), [11, 10, 7, 6, 1, 0, 5, 4, 3, 2, 9, 8]⟩,
             ⟨some r55, .faddr 8 (.t r4), some (r53, false), [11, 10, 7, 6, 1, 0, 5, 4, 3, 2, 9, 8]⟩,
             ⟨some r56, .load 1 false (.t r55), some (r53, false), [13, 11, 10, 7, 6, 1, 0, 5, 4, 3, 2, 9, 8]⟩,
             ⟨some r57, .iaddr 9 (.t r56) (.c (.p (.int .i64 0))), some (r53, false), [14, 13, 11, 10, 7, 6, 1, 0, 5, 4, 3, 2, 9, 8]⟩,
             ⟨some r58, .load 9 true (.t r57), some (r53, false), [15, 14, 13, 11, 10, 7, 6, 1, 0, 5, 4, 3, 2, 9, 8]⟩,
             ⟨some r59, .call f_rx_walker_anchors [(.t r54), (.t r58)], some (r53, false), [12, 11, 10, 7, 6, 1, 0, 5, 4, 3, 2, 9, 8, 16, 15, 14, 13]⟩,
             ⟨some r60, .un .not (.t r59), some (r53, false), [17, 12, 11, 10, 7, 6, 1, 0, 5, 4, 3, 2, 9, 8, 16, 15, 14, 13]⟩,
             ⟨some r61, .pick (.t r53) (.c (.p (.bool true))) (.t r60), none, [11, 10, 7, 6, 1, 0, 5, 4, 3, 2, 9, 8, 18, 17, 12, 16, 15, 14, 13]⟩])
           (.cond (.t r61) (.seq (.region false [⟨some r6, .mov (.c (.p (.bool false))), none, []⟩])
             (.ret))
            (.skip)))))
        (.seq (.region false [⟨some r63, .bin .eql (.t r30) (.c (.p (.int .i64 6))), none, []⟩,
           ⟨some r62, .mov (.t r63), none, []⟩])
         (.cond (.t r62) (.seq (.region true [⟨some r64, .faddr 3 (.t r4), none, []⟩,
             ⟨some r65, .load 1 false (.t r64), none, [0]⟩,
             ⟨some r66, .bin .geq (.t r65) (.c (.p (.int .i64 1))), none, [1, 0]⟩,
             ⟨some r67, .mov (.t r66), none, [2, 1, 0]⟩,
             ⟨some r68, .faddr 3 (.t r4), some (r67, true), [3, 2, 1, 0]⟩,
             ⟨some r69, .load 1 false (.t r68), some (r67, true), [4, 3, 2, 1, 0]⟩,
             ⟨some r70, .mov (.t r0), some (r67, true), [3, 2, 1, 0]⟩,
             ⟨some r71, .nilchk (.t r70), some (r67, true), [6, 3, 2, 1, 0]⟩,
             ⟨some r72, .faddr 1 (.t r71), some (r67, true), [7, 6, 3, 2, 1, 0]⟩,
             ⟨some r73, .load 1 false (.t r72), some (r67, true), [8, 7, 6, 3, 2, 1, 0]⟩,
             ⟨some r74, .bin .leq (.t r69) (.t r73), some (r67, true), [5, 4, 3, 2, 1, 0, 9, 8, 7, 6]⟩,
             ⟨some r75, .pick (.t r67) (.t r74) (.c (.p (.bool false))), none, [3, 2, 1, 0, 10, 5, 4, 9, 8, 7, 6]⟩,
             ⟨some r6, .mov (.t r75), none, [11, 3, 2, 1, 0, 10, 5, 4, 9, 8, 7, 6]⟩])
           (.ret))
          (.skip)))))))
    (.seq (.seq (.region false [⟨some r76, .faddr 8 (.t r4), none, []⟩,
        ⟨some r77, .load 1 false (.t r76), none, []⟩,
        ⟨some r78, .lensl (.t r77), none, []⟩,
        ⟨some r79, .mov (.c (.p (.int .i64 0))), none, []⟩])
      (.block 1 (.loop m_rx_walker_walk_0 c_rx_walker_walk_0)))
     (.seq (.region false [⟨some r6, .mov (.c (.p (.bool true))), none, []⟩])
      (.ret)))))
def ir_rx_walker_walk : VFn := ⟨.heap, 3, b_rx_walker_walk, [.tmp r6]⟩
@[simp] theorem bb_rx_walker_walk : ir_rx_walker_walk.body = b_rx_walker_walk := rfl
@[simp] theorem br_rx_walker_walk : ir_rx_walker_walk.res = [.tmp r6] := rfl
@[simp] theorem bn_rx_walker_walk : ir_rx_walker_walk.nargs = 3 := rfl

/-- (*strings.Builder).copyCheck -/
def b_strings_Builder_copyCheck : VCode := .seq (.region false [⟨some r2, .mov (.t r0), none, []⟩,
    ⟨some r3, .nilchk (.t r2), none, []⟩,
    ⟨some r4, .faddr 0 (.t r3), none, []⟩,
    ⟨some r5, .load 1 false (.t r4), none, []⟩,
    ⟨some r6, .eqv .ptr false (.t r5) (.c (.p (.nilp))), none, []⟩])
  (.cond (.t r6) (.region false [⟨some r7, .mov (.t r0), none, []⟩,
     ⟨some r8, .mov (.t r0), none, []⟩,
     ⟨some r9, .uptr t_strings_Builder 2 (.t r8), none, []⟩,
     ⟨some r10, .ext .same [(.t r9)], none, []⟩,
     ⟨some r11, .uptr t_strings_Builder 2 (.t r10), none, []⟩,
     ⟨some r12, .nilchk (.t r7), none, []⟩,
     ⟨some r13, .faddr 0 (.t r12), none, []⟩,
     ⟨none, .store 1 (.t r13) (.t r11), none, []⟩])
   (.seq (.region false [⟨some r14, .mov (.t r0), none, []⟩,
      ⟨some r15, .nilchk (.t r14), none, []⟩,
      ⟨some r16, .faddr 0 (.t r15), none, []⟩,
      ⟨some r17, .load 1 false (.t r16), none, []⟩,
      ⟨some r18, .mov (.t r0), none, []⟩,
      ⟨some r19, .eqv .ptr true (.t r17) (.t r18), none, []⟩])
    (.cond (.t r19) (.bad)
     (.skip))))
def ir_strings_Builder_copyCheck : VFn := ⟨.heap, 1, b_strings_Builder_copyCheck, []⟩
@[simp] theorem bb_strings_Builder_copyCheck : ir_strings_Builder_copyCheck.body = b_strings_Builder_copyCheck := rfl
@[simp] theorem br_strings_Builder_copyCheck : ir_strings_Builder_copyCheck.res = [] := rfl
@[simp] theorem bn_strings_Builder_copyCheck : ir_strings_Builder_copyCheck.nargs = 1 := rfl

/-- gloss/tpl.one -/
def b_tpl_one : VCode := .seq (.region false [⟨some r4, .alloc t_api_Piece [.p (.int .i64 0), .p (.str [])], none, []⟩,
    ⟨some r5, .mov (.c (.p (.int .i64 0))), none, []⟩])
  (.seq (.block 0 (.seq (.region false [⟨some r8, .mov (.t r0), none, []⟩,
       ⟨some r9, .sidx (.t r8) (.c (.p (.int .i64 0))), none, []⟩,
       ⟨some r10, .bin .eql (.t r9) (.c (.p (.int .u8 38))), none, []⟩,
       ⟨some r7, .mov (.t r10), none, []⟩])
     (.cond (.t r7) (.seq (.region false [⟨some r11, .build [.p (.int .i64 0), .p (.str [])] [], none, []⟩,
         ⟨none, .store 2 (.t r4) (.t r11), none, []⟩,
         ⟨some r5, .mov (.c (.p (.int .i64 1))), none, []⟩])
       (.ret))
      (.seq (.region false [⟨some r13, .mov (.t r0), none, []⟩,
         ⟨some r14, .sidx (.t r13) (.c (.p (.int .i64 0))), none, []⟩,
         ⟨some r15, .bin .eql (.t r14) (.c (.p (.int .u8 10))), none, []⟩,
         ⟨some r16, .mov (.t r15), none, []⟩,
         ⟨some r17, .mov (.t r0), some (r16, false), []⟩,
         ⟨some r18, .sidx (.t r17) (.c (.p (.int .i64 0))), some (r16, false), []⟩,
         ⟨some r19, .bin .eql (.t r18) (.c (.p (.int .u8 47))), some (r16, false), []⟩,
         ⟨some r20, .pick (.t r16) (.c (.p (.bool true))) (.t r19), none, []⟩,
         ⟨some r21, .mov (.t r20), none, []⟩,
         ⟨some r22, .mov (.t r0), some (r21, false), []⟩,
         ⟨some r23, .bin .eql (.t r22) (.c (.p (.str [92]))), some (r21, false), []⟩,
         ⟨some r24, .pick (.t r21) (.c (.p (.bool true))) (.t r23), none, []⟩,
         ⟨some r12, .mov (.t r24), none, []⟩])
       (.cond (.t r12) (.seq (.region false [⟨some r25, .build [.p (.int .i64 0), .p (.str [])] [], none, []⟩,
           ⟨none, .store 2 (.t r4) (.t r25), none, []⟩,
           ⟨some r5, .mov (.c (.p (.int .i64 0))), none, []⟩])
         (.ret))
        (.seq (.region false [⟨some r27, .mov (.t r0), none, []⟩,
           ⟨some r28, .sidx (.t r27) (.c (.p (.int .i64 0))), none, []⟩,
           ⟨some r29, .bin .neq (.t r28) (.c (.p (.int .u8 92))), none, []⟩,
           ⟨some r26, .mov (.t r29), none, []⟩])
         (.cond (.t r26) (.seq (.region false [⟨some r30, .mov (.t r0), none, []⟩,
             ⟨some r31, .substr (.t r30) none (some (.c (.p (.int .i64 1)))), none, []⟩,
             ⟨some r32, .build [.p (.int .i64 0), .p (.str [])] [(0, 1, (.c (.p (.int .i64 (-1))))), (1, 1, (.t r31))], none, []⟩,
             ⟨none, .store 2 (.t r4) (.t r32), none, []⟩,
             ⟨some r5, .mov (.c (.p (.int .i64 1))), none, []⟩])
           (.ret))
          (.skip))))))))
   (.seq (.seq (.region false [⟨some r33, .mov (.t r0), none, []⟩,
       ⟨some r34, .sidx (.t r33) (.c (.p (.int .i64 1))), none, []⟩,
       ⟨some r35, .conv .i64 (.t r34), none, []⟩,
       ⟨some r36, .bin .sub (.t r35) (.c (.p (.int .i64 48))), none, []⟩,
       ⟨some r6, .mov (.t r36), none, []⟩])
     (.block 1 (.seq (.region false [⟨some r38, .mov (.t r0), none, []⟩,
         ⟨some r39, .sidx (.t r38) (.c (.p (.int .i64 1))), none, []⟩,
         ⟨some r40, .bin .eql (.t r39) (.c (.p (.int .u8 110))), none, []⟩,
         ⟨some r37, .mov (.t r40), none, []⟩])
       (.cond (.t r37) (.seq (.region false [⟨some r41, .build [.p (.int .i64 0), .p (.str [])] [(0, 1, (.c (.p (.int .i64 (-1))))), (1, 1, (.c (.p (.str [10]))))], none, []⟩,
           ⟨none, .store 2 (.t r4) (.t r41), none, []⟩,
           ⟨some r5, .mov (.c (.p (.int .i64 2))), none, []⟩])
         (.ret))
        (.seq (.region false [⟨some r43, .mov (.t r0), none, []⟩,
           ⟨some r44, .sidx (.t r43) (.c (.p (.int .i64 1))), none, []⟩,
           ⟨some r45, .call f_strings_IndexByte [(.c (.p (.str [38, 47, 92]))), (.t r44)], none, []⟩,
           ⟨some r46, .bin .geq (.t r45) (.c (.p (.int .i64 0))), none, []⟩,
           ⟨some r42, .mov (.t r46), none, []⟩])
         (.cond (.t r42) (.seq (.region false [⟨some r47, .mov (.t r0), none, []⟩,
             ⟨some r48, .substr (.t r47) (some (.c (.p (.int .i64 1)))) (some (.c (.p (.int .i64 2)))), none, []⟩,
             ⟨some r49, .build [.p (.int .i64 0), .p (.str [])] [(0, 1, (.c (.p (.int .i64 (-1))))), (1, 1, (.t r48))], none, []⟩,
             ⟨none, .store 2 (.t r4) (.t r49), none, []⟩,
             ⟨some r5, .mov (.c (.p (.int .i64 2))), none, []⟩])
           (.ret))
          (.seq (.region false [⟨some r51, .mov (.t r6), none, []⟩,
             ⟨some r52, .bin .geq (.t r51) (.c (.p (.int .i64 1))), none, []⟩,
             ⟨some r53, .mov (.t r52), none, []⟩,
             ⟨some r54, .mov (.t r6), some (r53, true), []⟩,
             ⟨some r55, .mov (.t r1), some (r53, true), []⟩,
             ⟨some r56, .mn (.t r55) [(.c (.p (.int .i64 9)))], some (r53, true), []⟩,
             ⟨some r57, .bin .leq (.t r54) (.t r56), some (r53, true), []⟩,
             ⟨some r58, .pick (.t r53) (.t r57) (.c (.p (.bool false))), none, []⟩,
             ⟨some r50, .mov (.t r58), none, []⟩])
           (.cond (.t r50) (.seq (.region false [⟨some r59, .mov (.t r6), none, []⟩,
               ⟨some r60, .build [.p (.int .i64 0), .p (.str [])] [(0, 1, (.t r59))], none, []⟩,
               ⟨none, .store 2 (.t r4) (.t r60), none, []⟩,
               ⟨some r5, .mov (.c (.p (.int .i64 2))), none, []⟩])
             (.ret))
            (.skip)))))))))
    (.seq (.region false [⟨some r61, .build [.p (.int .i64 0), .p (.str [])] [], none, []⟩,
       ⟨none, .store 2 (.t r4) (.t r61), none, []⟩,
       ⟨some r5, .mov (.c (.p (.int .i64 0))), none, []⟩])
     (.ret))))
def ir_tpl_one : VFn := ⟨.freeze, 2, b_tpl_one, [.cell r4 2 true, .tmp r5]⟩
@[simp] theorem bb_tpl_one : ir_tpl_one.body = b_tpl_one := rfl
@[simp] theorem br_tpl_one : ir_tpl_one.res = [.cell r4 2 true, .tmp r5] := rfl
@[simp] theorem bn_tpl_one : ir_tpl_one.nargs = 2 := rfl

/-- gloss/bset.Has -/
def b_bset_Has : VCode := .seq (.region false [⟨some r2, .box t_api_Set (.t r0), none, []⟩,
    ⟨some r4, .mov (.c (.p (.bool false))), none, []⟩])
  (.seq (.region false [⟨some r5, .mov (.t r1), none, []⟩,
     ⟨some r6, .bin .quo (.t r5) (.c (.p (.int .u8 64))), none, []⟩,
     ⟨some r7, .aaddr 4 1 (.t r2) (.t r6), none, []⟩,
     ⟨some r8, .load 1 false (.t r7), none, []⟩,
     ⟨some r9, .mov (.t r1), none, []⟩,
     ⟨some r10, .bin .rem (.t r9) (.c (.p (.int .u8 64))), none, []⟩,
     ⟨some r11, .bin .shr (.t r8) (.t r10), none, []⟩,
     ⟨some r12, .bin .and (.t r11) (.c (.p (.int .u64 1))), none, []⟩,
     ⟨some r13, .bin .eql (.t r12) (.c (.p (.int .u64 1))), none, []⟩,
     ⟨some r4, .mov (.t r13), none, []⟩])
   (.ret))
def ir_bset_Has : VFn := ⟨.borrow, 2, b_bset_Has, [.tmp r4]⟩
@[simp] theorem bb_bset_Has : ir_bset_Has.body = b_bset_Has := rfl
@[simp] theorem br_bset_Has : ir_bset_Has.res = [.tmp r4] := rfl
@[simp] theorem bn_bset_Has : ir_bset_Has.nargs = 2 := rfl

/-- (gloss/way.text).back -/
def b_way_text_back : VCode := .seq (.region false [⟨some r3, .box t_way_text (.t r0), none, []⟩,
    ⟨some r5, .box t_way_State (.t r2), none, []⟩,
    ⟨some r6, .mov (.c (.r (.nils))), none, []⟩])
  (.seq (.region false [⟨some r9, .mov (.t r1), none, []⟩,
     ⟨some r10, .faddr 1 (.t r5), none, []⟩,
     ⟨some r11, .aaddr 4 2 (.t r10) (.t r9), none, []⟩,
     ⟨some r12, .load 2 true (.t r11), none, []⟩,
     ⟨some r7, .alloc t_api_Span [.p (.int .i64 0), .p (.int .i64 0)], none, []⟩,
     ⟨none, .store 2 (.t r7) (.t r12), none, []⟩])
   (.seq (.seq (.region false [⟨some r13, .faddr 0 (.t r7), none, []⟩,
       ⟨some r14, .load 1 false (.t r13), none, []⟩,
       ⟨some r15, .bin .lss (.t r14) (.c (.p (.int .i64 0))), none, []⟩])
     (.cond (.t r15) (.seq (.region false [⟨some r6, .mov (.c (.r (.nils))), none, []⟩])
       (.ret))
      (.skip)))
    (.seq (.region false [⟨some r16, .faddr 1 (.t r7), none, []⟩,
       ⟨some r17, .load 1 false (.t r16), none, []⟩,
       ⟨some r18, .faddr 0 (.t r7), none, []⟩,
       ⟨some r19, .load 1 false (.t r18), none, []⟩,
       ⟨some r20, .bin .sub (.t r17) (.t r19), none, []⟩,
       ⟨some r8, .mov (.t r20), none, []⟩])
     (.seq (.seq (.region true [⟨some r21, .mov (.t r8), none, []⟩,
         ⟨some r22, .faddr 0 (.t r3), none, []⟩,
         ⟨some r23, .load 1 false (.t r22), none, [1]⟩,
         ⟨some r24, .lenstr (.t r23), none, [2, 1]⟩,
         ⟨some r25, .faddr 0 (.t r5), none, []⟩,
         ⟨some r26, .load 1 false (.t r25), none, [4]⟩,
         ⟨some r27, .bin .sub (.t r24) (.t r26), none, [3, 2, 1, 5, 4]⟩,
         ⟨some r28, .bin .gtr (.t r21) (.t r27), none, [0, 6, 3, 2, 1, 5, 4]⟩,
         ⟨some r29, .mov (.t r28), none, [7, 0, 6, 3, 2, 1, 5, 4]⟩,
         ⟨some r30, .faddr 0 (.t r3), some (r29, false), [8, 7, 0, 6, 3, 2, 1, 5, 4]⟩,
         ⟨some r31, .load 1 false (.t r30), some (r29, false), [9, 8, 7, 0, 6, 3, 2, 1, 5, 4]⟩,
         ⟨some r32, .faddr 0 (.t r7), some (r29, false), [8, 7, 0, 6, 3, 2, 1, 5, 4]⟩,
         ⟨some r33, .load 1 false (.t r32), some (r29, false), [11, 8, 7, 0, 6, 3, 2, 1, 5, 4]⟩,
         ⟨some r34, .faddr 1 (.t r7), some (r29, false), [8, 7, 0, 6, 3, 2, 1, 5, 4]⟩,
         ⟨some r35, .load 1 false (.t r34), some (r29, false), [13, 8, 7, 0, 6, 3, 2, 1, 5, 4]⟩,
         ⟨some r36, .substr (.t r31) (some (.t r33)) (some (.t r35)), some (r29, false), [10, 9, 8, 7, 0, 6, 3, 2, 1, 5, 4, 12, 11, 14, 13]⟩,
         ⟨some r37, .faddr 0 (.t r3), some (r29, false), [8, 7, 0, 6, 3, 2, 1, 5, 4]⟩,
         ⟨some r38, .load 1 false (.t r37), some (r29, false), [16, 8, 7, 0, 6, 3, 2, 1, 5, 4]⟩,
         ⟨some r39, .faddr 0 (.t r5), some (r29, false), [8, 7, 0, 6, 3, 2, 1, 5, 4]⟩,
         ⟨some r40, .load 1 false (.t r39), some (r29, false), [18, 8, 7, 0, 6, 3, 2, 1, 5, 4]⟩,
         ⟨some r41, .faddr 0 (.t r5), some (r29, false), [8, 7, 0, 6, 3, 2, 1, 5, 4]⟩,
         ⟨some r42, .load 1 false (.t r41), some (r29, false), [20, 8, 7, 0, 6, 3, 2, 1, 5, 4]⟩,
         ⟨some r43, .mov (.t r8), some (r29, false), [8, 7, 0, 6, 3, 2, 1, 5, 4]⟩,
         ⟨some r44, .bin .add (.t r42) (.t r43), some (r29, false), [21, 20, 8, 7, 0, 6, 3, 2, 1, 5, 4, 22]⟩,
         ⟨some r45, .substr (.t r38) (some (.t r40)) (some (.t r44)), some (r29, false), [17, 16, 8, 7, 0, 6, 3, 2, 1, 5, 4, 19, 18, 23, 21, 20, 22]⟩,
         ⟨some r46, .bin .neq (.t r36) (.t r45), some (r29, false), [15, 10, 9, 8, 7, 0, 6, 3, 2, 1, 5, 4, 12, 11, 14, 13, 24, 17, 16, 19, 18, 23, 21, 20, 22]⟩,
         ⟨some r47, .pick (.t r29) (.c (.p (.bool true))) (.t r46), none, [8, 7, 0, 6, 3, 2, 1, 5, 4, 25, 15, 10, 9, 12, 11, 14, 13, 24, 17, 16, 19, 18, 23, 21, 20, 22]⟩])
       (.cond (.t r47) (.seq (.region false [⟨some r6, .mov (.c (.r (.nils))), none, []⟩])
         (.ret))
        (.skip)))
      (.seq (.region false [⟨some r48, .faddr 0 (.t r5), none, []⟩,
         ⟨some r49, .load 1 false (.t r48), none, []⟩,
         ⟨some r50, .mov (.t r8), none, []⟩,
         ⟨some r51, .bin .add (.t r49) (.t r50), none, []⟩,
         ⟨some r52, .faddr 0 (.t r5), none, []⟩,
         ⟨none, .store 1 (.t r52) (.t r51), none, []⟩])
       (.seq (.region false [⟨some r53, .load 9 true (.t r5), none, []⟩,
          ⟨some r54, .bsl t_way_State 9 [.p (.int .i64 0), .p (.int .i64 0), .p (.int .i64 0), .p (.int .i64 0), .p (.int .i64 0), .p (.int .i64 0), .p (.int .i64 0), .p (.int .i64 0), .p (.int .i64 0)] 1 [(0, 9, (.t r53))], none, []⟩,
          ⟨some r6, .mov (.t r54), none, []⟩])
        (.ret)))))))
def ir_way_text_back : VFn := ⟨.freeze, 3, b_way_text_back, [.tmp r6]⟩
@[simp] theorem bb_way_text_back : ir_way_text_back.body = b_way_text_back := rfl
@[simp] theorem br_way_text_back : ir_way_text_back.res = [.tmp r6] := rfl
@[simp] theorem bn_way_text_back : ir_way_text_back.nargs = 3 := rfl

/-- gloss/way.newRow -/
def b_way_newRow : VCode := .seq (.region false [⟨some r0, .mov (.c (.p (.nilp))), none, []⟩])
  (.seq (.region false [⟨some r1, .mkmap, none, []⟩,
     ⟨some r2, .build [.nils, .p (.nilm)] [(1, 1, (.t r1))], none, []⟩,
     ⟨some r3, .box t_way_row (.t r2), none, []⟩,
     ⟨some r0, .mov (.t r3), none, []⟩])
   (.ret))
def ir_way_newRow : VFn := ⟨.heap, 0, b_way_newRow, [.tmp r0]⟩
@[simp] theorem bb_way_newRow : ir_way_newRow.body = b_way_newRow := rfl
@[simp] theorem br_way_newRow : ir_way_newRow.res = [.tmp r0] := rfl
@[simp] theorem bn_way_newRow : ir_way_newRow.nargs = 0 := rfl

/-- (*gloss/way.row).add -/
def m_way_row_add_0 : Mask := (.nd true (.nd false (.nd false (.nd true .lf .lf) .lf) .lf) (.nd false (.nd false (.nd true .lf .lf) .lf) (.nd true .lf .lf)))
@[simp] theorem mm_way_row_add_0 : m_way_row_add_0.go = (.nd true (.nd false (.nd false (.nd true .lf .lf) .lf) .lf) (.nd false (.nd false (.nd true .lf .lf) .lf) (.nd true .lf .lf))) := rfl
def c_way_row_add_0 : VCode := .seq (.region false [⟨some r9, .bin .lss (.t r8) (.t r7), none, []⟩])
 (.seq (.cond (.t r9) (.skip)
   (.exit 0))
  (.seq (.block 1 (.seq (.region false [⟨some r10, .iaddr 9 (.t r6) (.t r8), none, []⟩,
       ⟨some r11, .load 9 true (.t r10), none, []⟩,
       ⟨some r5, .alloc t_way_State [.p (.int .i64 0), .p (.int .i64 0), .p (.int .i64 0), .p (.int .i64 0), .p (.int .i64 0), .p (.int .i64 0), .p (.int .i64 0), .p (.int .i64 0), .p (.int .i64 0)], none, []⟩,
       ⟨none, .store 9 (.t r5) (.t r11), none, []⟩])
     (.seq (.region true [⟨some r12, .mov (.t r0), none, []⟩,
        ⟨some r13, .nilchk (.t r12), none, [0]⟩,
        ⟨some r14, .faddr 1 (.t r13), none, [1, 0]⟩,
        ⟨some r15, .load 1 false (.t r14), none, [2, 1, 0]⟩,
        ⟨some r16, .load 9 true (.t r5), none, []⟩,
        ⟨some r17, .look (.agg [.int, .int, .int, .int, .int, .int, .int, .int, .int]) (.p (.bool false)) false (.t r15) (.t r16), none, [3, 2, 1, 0, 4]⟩,
        ⟨some r18, .un .not (.t r17), none, [5, 3, 2, 1, 0, 4]⟩])
      (.cond (.t r18) (.seq (.region true [⟨some r19, .mov (.t r0), none, []⟩,
          ⟨some r20, .nilchk (.t r19), none, [0]⟩,
          ⟨some r21, .faddr 1 (.t r20), none, [1, 0]⟩,
          ⟨some r22, .load 1 false (.t r21), none, [2, 1, 0]⟩,
          ⟨some r23, .load 9 true (.t r5), none, []⟩,
          ⟨none, .mapupd (.agg [.int, .int, .int, .int, .int, .int, .int, .int, .int]) (.t r22) (.t r23) (.c (.p (.bool true))), none, [3, 2, 1, 0, 4]⟩])
        (.region true [⟨some r24, .mov (.t r0), none, []⟩,
          ⟨some r25, .mov (.t r0), none, []⟩,
          ⟨some r26, .nilchk (.t r25), none, [1]⟩,
          ⟨some r27, .faddr 0 (.t r26), none, [2, 1]⟩,
          ⟨some r28, .load 1 false (.t r27), none, [3, 2, 1]⟩,
          ⟨some r29, .load 9 true (.t r5), none, []⟩,
          ⟨some r30, .bsl t_way_State 9 [.p (.int .i64 0), .p (.int .i64 0), .p (.int .i64 0), .p (.int .i64 0), .p (.int .i64 0), .p (.int .i64 0), .p (.int .i64 0), .p (.int .i64 0), .p (.int .i64 0)] 1 [(0, 9, (.t r29))], none, [5]⟩,
          ⟨some r31, .app t_way_State 9 (.t r28) (.t r30), none, [4, 3, 2, 1, 6, 5]⟩,
          ⟨some r32, .nilchk (.t r24), none, [0, 1, 2, 3, 4, 5, 6, 7]⟩,
          ⟨some r33, .faddr 0 (.t r32), none, [8, 0, 1, 2, 3, 4, 5, 6, 7]⟩,
          ⟨none, .store 1 (.t r33) (.t r31), none, [9, 8, 0, 1, 2, 3, 4, 5, 6, 7]⟩]))
       (.skip)))))
   (.region false [⟨some r34, .bin .add (.t r8) (.c (.p (.int .i64 1))), none, []⟩,
     ⟨some r8, .mov (.t r34), none, []⟩])))
def b_way_row_add : VCode := .seq (.region false [⟨some r6, .mov (.t r1), none, []⟩,
    ⟨some r7, .lensl (.t r6), none, []⟩,
    ⟨some r8, .mov (.c (.p (.int .i64 0))), none, []⟩])
  (.block 0 (.loop m_way_row_add_0 c_way_row_add_0))
def ir_way_row_add : VFn := ⟨.heap, 2, b_way_row_add, []⟩
@[simp] theorem bb_way_row_add : ir_way_row_add.body = b_way_row_add := rfl
@[simp] theorem br_way_row_add : ir_way_row_add.res = [] := rfl
@[simp] theorem bn_way_row_add : ir_way_row_add.nargs = 2 := rfl

/-- (gloss/way.text).from -/
def m_way_text_from_0 : Mask := (.nd false (.nd false (.nd true (.nd true .lf .lf) (.nd true .lf .lf)) (.nd false .lf (.nd true .lf .lf))) (.nd false (.nd true .lf (.nd true .lf .lf)) .lf))
@[simp] theorem mm_way_text_from_0 : m_way_text_from_0.go = (.nd false (.nd false (.nd true (.nd true .lf .lf) (.nd true .lf .lf)) (.nd false .lf (.nd true .lf .lf))) (.nd false (.nd true .lf (.nd true .lf .lf)) .lf)) := rfl
def c_way_text_from_0 : VCode := .seq (.region false [⟨some r14, .bin .lss (.t r13) (.t r12), none, []⟩])
 (.seq (.cond (.t r14) (.skip)
   (.exit 0))
  (.seq (.block 1 (.seq (.region false [⟨some r15, .iaddr 9 (.t r11) (.t r13), none, []⟩,
       ⟨some r16, .load 9 true (.t r15), none, []⟩,
       ⟨some r9, .alloc t_way_State [.p (.int .i64 0), .p (.int .i64 0), .p (.int .i64 0), .p (.int .i64 0), .p (.int .i64 0), .p (.int .i64 0), .p (.int .i64 0), .p (.int .i64 0), .p (.int .i64 0)], none, []⟩,
       ⟨none, .store 9 (.t r9) (.t r16), none, []⟩])
     (.region false [⟨some r17, .mov (.t r7), none, []⟩,
       ⟨some r18, .load 2 true (.t r3), none, []⟩,
       ⟨some r19, .load 9 true (.t r4), none, []⟩,
       ⟨some r20, .load 9 true (.t r9), none, []⟩,
       ⟨some r21, .call f_way_text_ways [(.t r18), (.t r19), (.t r20)], none, []⟩,
       ⟨some r22, .call f_way_row_add [(.t r17), (.t r21)], none, []⟩])))
   (.region false [⟨some r23, .bin .add (.t r13) (.c (.p (.int .i64 1))), none, []⟩,
     ⟨some r13, .mov (.t r23), none, []⟩])))
def b_way_text_from : VCode := .seq (.region false [⟨some r3, .box t_way_text (.t r0), none, []⟩,
    ⟨some r4, .box t_api_Rx (.t r1), none, []⟩,
    ⟨some r6, .mov (.c (.r (.nils))), none, []⟩])
  (.seq (.region false [⟨some r10, .call f_way_newRow [], none, []⟩,
     ⟨some r7, .mov (.t r10), none, []⟩])
   (.seq (.seq (.region false [⟨some r11, .mov (.t r2), none, []⟩,
       ⟨some r12, .lensl (.t r11), none, []⟩,
       ⟨some r13, .mov (.c (.p (.int .i64 0))), none, []⟩])
     (.block 0 (.loop m_way_text_from_0 c_way_text_from_0)))
    (.seq (.region false [⟨some r24, .mov (.t r7), none, []⟩,
       ⟨some r25, .nilchk (.t r24), none, []⟩,
       ⟨some r26, .faddr 0 (.t r25), none, []⟩,
       ⟨some r27, .load 1 false (.t r26), none, []⟩,
       ⟨some r6, .mov (.t r27), none, []⟩])
     (.ret))))
def ir_way_text_from : VFn := ⟨.freeze, 3, b_way_text_from, [.tmp r6]⟩
@[simp] theorem bb_way_text_from : ir_way_text_from.body = b_way_text_from := rfl
@[simp] theorem br_way_text_from : ir_way_text_from.res = [.tmp r6] := rfl
@[simp] theorem bn_way_text_from : ir_way_text_from.nargs = 3 := rfl

/-- (*gloss/way.repeater).on -/
def m_way_repeater_on_0 : Mask := (.nd true (.nd true .lf (.nd true .lf (.nd false (.nd false .lf (.nd true .lf .lf)) .lf))) (.nd false (.nd false .lf (.nd false (.nd false .lf (.nd true .lf .lf)) .lf)) (.nd false .lf (.nd false (.nd false .lf (.nd true .lf .lf)) .lf))))
@[simp] theorem mm_way_repeater_on_0 : m_way_repeater_on_0.go = (.nd true (.nd true .lf (.nd true .lf (.nd false (.nd false .lf (.nd true .lf .lf)) .lf))) (.nd false (.nd false .lf (.nd false (.nd false .lf (.nd true .lf .lf)) .lf)) (.nd false .lf (.nd false (.nd false .lf (.nd true .lf .lf)) .lf)))) := rfl
def c_way_repeater_on_0 : VCode := .seq (.region false [⟨some r55, .bin .lss (.t r54) (.t r53), none, []⟩])
 (.seq (.cond (.t r55) (.skip)
   (.exit 0))
  (.seq (.block 1 (.seq (.region false [⟨some r56, .iaddr 9 (.t r52) (.t r54), none, []⟩,
       ⟨some r57, .load 9 true (.t r56), none, []⟩,
       ⟨some r7, .alloc t_way_State [.p (.int .i64 0), .p (.int .i64 0), .p (.int .i64 0), .p (.int .i64 0), .p (.int .i64 0), .p (.int .i64 0), .p (.int .i64 0), .p (.int .i64 0), .p (.int .i64 0)], none, []⟩,
       ⟨none, .store 9 (.t r7) (.t r57), none, []⟩])
     (.seq (.region false [⟨some r58, .faddr 0 (.t r7), none, []⟩,
        ⟨some r59, .load 1 false (.t r58), none, []⟩,
        ⟨some r60, .faddr 0 (.t r5), none, []⟩,
        ⟨some r61, .load 1 false (.t r60), none, []⟩,
        ⟨some r62, .bin .neq (.t r59) (.t r61), none, []⟩,
        ⟨some r63, .mov (.t r62), none, []⟩,
        ⟨some r64, .mov (.t r1), some (r63, false), []⟩,
        ⟨some r65, .mov (.t r0), some (r63, false), []⟩,
        ⟨some r66, .nilchk (.t r65), some (r63, false), []⟩,
        ⟨some r67, .faddr 2 (.t r66), some (r63, false), []⟩,
        ⟨some r68, .faddr 1 (.t r67), some (r63, false), []⟩,
        ⟨some r69, .load 1 false (.t r68), some (r63, false), []⟩,
        ⟨some r70, .bin .lss (.t r64) (.t r69), some (r63, false), []⟩,
        ⟨some r71, .pick (.t r63) (.c (.p (.bool true))) (.t r70), none, []⟩])
      (.cond (.t r71) (.region false [⟨some r72, .mov (.t r0), none, []⟩,
         ⟨some r73, .mov (.t r1), none, []⟩,
         ⟨some r74, .bin .add (.t r73) (.c (.p (.int .i64 1))), none, []⟩,
         ⟨some r75, .load 9 true (.t r7), none, []⟩,
         ⟨some r76, .call f_way_repeater_on [(.t r72), (.t r74), (.t r75)], none, []⟩])
       (.skip)))))
   (.region false [⟨some r77, .bin .add (.t r54) (.c (.p (.int .i64 1))), none, []⟩,
     ⟨some r54, .mov (.t r77), none, []⟩])))
def b_way_repeater_on : VCode := .seq (.region false [⟨some r5, .box t_way_State (.t r2), none, []⟩])
  (.seq (.seq (.region true [⟨some r8, .mov (.t r0), none, []⟩,
      ⟨some r9, .nilchk (.t r8), none, [0]⟩,
      ⟨some r10, .faddr 12 (.t r9), none, [1, 0]⟩,
      ⟨some r11, .load 1 false (.t r10), none, [2, 1, 0]⟩,
      ⟨some r12, .mov (.t r0), none, []⟩,
      ⟨some r13, .mov (.t r1), none, []⟩,
      ⟨some r14, .load 9 true (.t r5), none, []⟩,
      ⟨some r15, .call f_way_repeater_key [(.t r12), (.t r13), (.t r14)], none, [4, 5, 6]⟩,
      ⟨some r16, .look (.agg [.int, .int, .int, .int, .int, .int, .int, .int, .int, .int]) (.p (.bool false)) false (.t r11) (.t r15), none, [3, 2, 1, 0, 7, 4, 5, 6]⟩])
    (.cond (.t r16) (.ret)
     (.skip)))
   (.seq (.region true [⟨some r17, .mov (.t r0), none, []⟩,
      ⟨some r18, .nilchk (.t r17), none, [0]⟩,
      ⟨some r19, .faddr 12 (.t r18), none, [1, 0]⟩,
      ⟨some r20, .load 1 false (.t r19), none, [2, 1, 0]⟩,
      ⟨some r21, .mov (.t r0), none, []⟩,
      ⟨some r22, .mov (.t r1), none, []⟩,
      ⟨some r23, .load 9 true (.t r5), none, []⟩,
      ⟨some r24, .call f_way_repeater_key [(.t r21), (.t r22), (.t r23)], none, [4, 5, 6]⟩,
      ⟨none, .mapupd (.agg [.int, .int, .int, .int, .int, .int, .int, .int, .int, .int]) (.t r20) (.t r24) (.c (.p (.bool true))), none, [3, 2, 1, 0, 7, 4, 5, 6]⟩])
    (.seq (.seq (.region false [⟨some r25, .mov (.t r0), none, []⟩,
        ⟨some r26, .nilchk (.t r25), none, []⟩,
        ⟨some r27, .faddr 2 (.t r26), none, []⟩,
        ⟨some r28, .faddr 2 (.t r27), none, []⟩,
        ⟨some r29, .load 1 false (.t r28), none, []⟩,
        ⟨some r30, .bin .lss (.t r29) (.c (.p (.int .i64 0))), none, []⟩,
        ⟨some r31, .mov (.t r30), none, []⟩,
        ⟨some r32, .mov (.t r1), some (r31, false), []⟩,
        ⟨some r33, .mov (.t r0), some (r31, false), []⟩,
        ⟨some r34, .nilchk (.t r33), some (r31, false), []⟩,
        ⟨some r35, .faddr 2 (.t r34), some (r31, false), []⟩,
        ⟨some r36, .faddr 2 (.t r35), some (r31, false), []⟩,
        ⟨some r37, .load 1 false (.t r36), some (r31, false), []⟩,
        ⟨some r38, .bin .lss (.t r32) (.t r37), some (r31, false), []⟩,
        ⟨some r39, .pick (.t r31) (.c (.p (.bool true))) (.t r38), none, []⟩])
      (.cond (.t r39) (.seq (.region true [⟨some r40, .mov (.t r0), none, []⟩,
          ⟨some r41, .nilchk (.t r40), none, [0]⟩,
          ⟨some r42, .faddr 0 (.t r41), none, [1, 0]⟩,
          ⟨some r43, .load 2 true (.t r42), none, [2, 1, 0]⟩,
          ⟨some r44, .mov (.t r0), none, []⟩,
          ⟨some r45, .nilchk (.t r44), none, [4]⟩,
          ⟨some r46, .faddr 2 (.t r45), none, [5, 4]⟩,
          ⟨some r47, .faddr 8 (.t r46), none, [6, 5, 4]⟩,
          ⟨some r48, .load 1 false (.t r47), none, [7, 6, 5, 4]⟩,
          ⟨some r49, .iaddr 9 (.t r48) (.c (.p (.int .i64 0))), none, [8, 7, 6, 5, 4]⟩,
          ⟨some r50, .load 9 true (.t r49), none, [9, 8, 7, 6, 5, 4]⟩,
          ⟨some r51, .load 9 true (.t r5), none, []⟩,
          ⟨some r52, .call f_way_text_ways [(.t r43), (.t r50), (.t r51)], none, [3, 2, 1, 0, 10, 9, 8, 7, 6, 5, 4, 11]⟩,
          ⟨some r53, .lensl (.t r52), none, [12, 3, 2, 1, 0, 10, 9, 8, 7, 6, 5, 4, 11]⟩,
          ⟨some r54, .mov (.c (.p (.int .i64 0))), none, []⟩])
        (.block 0 (.loop m_way_repeater_on_0 c_way_repeater_on_0)))
       (.skip)))
     (.seq (.region false [⟨some r78, .mov (.t r1), none, []⟩,
        ⟨some r79, .mov (.t r0), none, []⟩,
        ⟨some r80, .nilchk (.t r79), none, []⟩,
        ⟨some r81, .faddr 2 (.t r80), none, []⟩,
        ⟨some r82, .faddr 1 (.t r81), none, []⟩,
        ⟨some r83, .load 1 false (.t r82), none, []⟩,
        ⟨some r84, .bin .geq (.t r78) (.t r83), none, []⟩])
      (.cond (.t r84) (.region true [⟨some r85, .mov (.t r0), none, []⟩,
         ⟨some r86, .nilchk (.t r85), none, [0]⟩,
         ⟨some r87, .faddr 11 (.t r86), none, [1, 0]⟩,
         ⟨some r88, .load 1 false (.t r87), none, [2, 1, 0]⟩,
         ⟨some r89, .load 9 true (.t r5), none, []⟩,
         ⟨some r90, .bsl t_way_State 9 [.p (.int .i64 0), .p (.int .i64 0), .p (.int .i64 0), .p (.int .i64 0), .p (.int .i64 0), .p (.int .i64 0), .p (.int .i64 0), .p (.int .i64 0), .p (.int .i64 0)] 1 [(0, 9, (.t r89))], none, [4]⟩,
         ⟨some r91, .call f_way_row_add [(.t r88), (.t r90)], none, [3, 2, 1, 0, 5, 4]⟩])
       (.skip))))))
def ir_way_repeater_on : VFn := ⟨.heap, 3, b_way_repeater_on, []⟩
@[simp] theorem bb_way_repeater_on : ir_way_repeater_on.body = b_way_repeater_on := rfl
@[simp] theorem br_way_repeater_on : ir_way_repeater_on.res = [] := rfl
@[simp] theorem bn_way_repeater_on : ir_way_repeater_on.nargs = 3 := rfl

/-- (*gloss/rx.reader).ends -/
def b_rx_reader_ends : VCode := .seq (.region false [⟨some r2, .mov (.c (.p (.bool false))), none, []⟩])
  (.seq (.region true [⟨some r3, .mov (.t r0), none, []⟩,
     ⟨some r4, .nilchk (.t r3), none, [0]⟩,
     ⟨some r5, .faddr 4 (.t r4), none, [1, 0]⟩,
     ⟨some r6, .load 1 false (.t r5), none, [2, 1, 0]⟩,
     ⟨some r7, .bin .neq (.t r6) (.c (.p (.int .i64 0))), none, [3, 2, 1, 0]⟩,
     ⟨some r8, .mov (.t r7), none, [4, 3, 2, 1, 0]⟩,
     ⟨some r9, .mov (.t r0), some (r8, false), [5, 4, 3, 2, 1, 0]⟩,
     ⟨some r10, .nilchk (.t r9), some (r8, false), [6, 5, 4, 3, 2, 1, 0]⟩,
     ⟨some r11, .faddr 2 (.t r10), some (r8, false), [7, 6, 5, 4, 3, 2, 1, 0]⟩,
     ⟨some r12, .load 1 false (.t r11), some (r8, false), [8, 7, 6, 5, 4, 3, 2, 1, 0]⟩,
     ⟨some r13, .mov (.t r0), some (r8, false), [5, 4, 3, 2, 1, 0]⟩,
     ⟨some r14, .nilchk (.t r13), some (r8, false), [10, 5, 4, 3, 2, 1, 0]⟩,
     ⟨some r15, .faddr 0 (.t r14), some (r8, false), [11, 10, 5, 4, 3, 2, 1, 0]⟩,
     ⟨some r16, .load 1 false (.t r15), some (r8, false), [12, 11, 10, 5, 4, 3, 2, 1, 0]⟩,
     ⟨some r17, .lenstr (.t r16), some (r8, false), [13, 12, 11, 10, 5, 4, 3, 2, 1, 0]⟩,
     ⟨some r18, .bin .eql (.t r12) (.t r17), some (r8, false), [9, 8, 7, 6, 5, 4, 3, 2, 1, 0, 14, 13, 12, 11, 10]⟩,
     ⟨some r19, .pick (.t r8) (.c (.p (.bool true))) (.t r18), none, [5, 4, 3, 2, 1, 0, 15, 9, 8, 7, 6, 14, 13, 12, 11, 10]⟩,
     ⟨some r20, .mov (.t r19), none, [16, 5, 4, 3, 2, 1, 0, 15, 9, 8, 7, 6, 14, 13, 12, 11, 10]⟩,
     ⟨some r21, .mov (.t r0), some (r20, false), [17, 16, 5, 4, 3, 2, 1, 0, 15, 9, 8, 7, 6, 14, 13, 12, 11, 10]⟩,
     ⟨some r22, .mov (.t r0), some (r20, false), [17, 16, 5, 4, 3, 2, 1, 0, 15, 9, 8, 7, 6, 14, 13, 12, 11, 10]⟩,
     ⟨some r23, .call f_rx_reader_op [(.t r22), (.c (.p (.str [41])))], some (r20, false), [19, 17, 16, 5, 4, 3, 2, 1, 0, 15, 9, 8, 7, 6, 14, 13, 12, 11, 10]⟩,
     ⟨some r24, .call f_rx_reader_is [(.t r21), (.t r23)], some (r20, false), [18, 17, 16, 5, 4, 3, 2, 1, 0, 15, 9, 8, 7, 6, 14, 13, 12, 11, 10, 20, 19]⟩,
     ⟨some r25, .pick (.t r20) (.c (.p (.bool true))) (.t r24), none, [17, 16, 5, 4, 3, 2, 1, 0, 15, 9, 8, 7, 6, 14, 13, 12, 11, 10, 21, 18, 20, 19]⟩,
     ⟨some r26, .mov (.t r25), none, [22, 17, 16, 5, 4, 3, 2, 1, 0, 15, 9, 8, 7, 6, 14, 13, 12, 11, 10, 21, 18, 20, 19]⟩,
     ⟨some r27, .mov (.t r0), some (r26, false), [23, 22, 17, 16, 5, 4, 3, 2, 1, 0, 15, 9, 8, 7, 6, 14, 13, 12, 11, 10, 21, 18, 20, 19]⟩,
     ⟨some r28, .nilchk (.t r27), some (r26, false), [24, 23, 22, 17, 16, 5, 4, 3, 2, 1, 0, 15, 9, 8, 7, 6, 14, 13, 12, 11, 10, 21, 18, 20, 19]⟩,
     ⟨some r29, .faddr 1 (.t r28), some (r26, false), [25, 24, 23, 22, 17, 16, 5, 4, 3, 2, 1, 0, 15, 9, 8, 7, 6, 14, 13, 12, 11, 10, 21, 18, 20, 19]⟩,
     ⟨some r30, .load 1 false (.t r29), some (r26, false), [26, 25, 24, 23, 22, 17, 16, 5, 4, 3, 2, 1, 0, 15, 9, 8, 7, 6, 14, 13, 12, 11, 10, 21, 18, 20, 19]⟩,
     ⟨some r31, .mov (.t r30), some (r26, false), [27, 26, 25, 24, 23, 22, 17, 16, 5, 4, 3, 2, 1, 0, 15, 9, 8, 7, 6, 14, 13, 12, 11, 10, 21, 18, 20, 19]⟩,
     ⟨some r32, .mov (.t r0), some (r31, true), [28, 27, 26, 25, 24, 23, 22, 17, 16, 5, 4, 3, 2, 1, 0, 15, 9, 8, 7, 6, 14, 13, 12, 11, 10, 21, 18, 20, 19]⟩,
     ⟨some r33, .call f_rx_reader_is [(.t r32), (.c (.p (.str [124])))], some (r31, true), [29, 28, 27, 26, 25, 24, 23, 22, 17, 16, 5, 4, 3, 2, 1, 0, 15, 9, 8, 7, 6, 14, 13, 12, 11, 10, 21, 18, 20, 19]⟩,
     ⟨some r34, .pick (.t r31) (.t r33) (.c (.p (.bool false))), some (r26, false), [28, 27, 26, 25, 24, 23, 22, 17, 16, 5, 4, 3, 2, 1, 0, 15, 9, 8, 7, 6, 14, 13, 12, 11, 10, 21, 18, 20, 19, 30, 29]⟩,
     ⟨some r35, .pick (.t r26) (.c (.p (.bool true))) (.t r34), none, [23, 22, 17, 16, 5, 4, 3, 2, 1, 0, 15, 9, 8, 7, 6, 14, 13, 12, 11, 10, 21, 18, 20, 19, 31, 28, 27, 26, 25, 24, 30, 29]⟩,
     ⟨some r2, .mov (.t r35), none, [32, 23, 22, 17, 16, 5, 4, 3, 2, 1, 0, 15, 9, 8, 7, 6, 14, 13, 12, 11, 10, 21, 18, 20, 19, 31, 28, 27, 26, 25, 24, 30, 29]⟩])
   (.ret))
def ir_rx_reader_ends : VFn := ⟨.borrow, 1, b_rx_reader_ends, [.tmp r2]⟩
@[simp] theorem bb_rx_reader_ends : ir_rx_reader_ends.body = b_rx_reader_ends := rfl
@[simp] theorem br_rx_reader_ends : ir_rx_reader_ends.res = [.tmp r2] := rfl
@[simp] theorem bn_rx_reader_ends : ir_rx_reader_ends.nargs = 1 := rfl

/-- (*gloss/rx.reader).atom -/
def b_rx_reader_atom : VCode := .seq (.region false [⟨some r6, .alloc t_api_Rx [.p (.int .i64 0), .p (.int .i64 0), .p (.int .i64 0), .p (.int .i64 0), .p (.int .u64 0), .p (.int .u64 0), .p (.int .u64 0), .p (.int .u64 0), .nils], none, []⟩])
  (.seq (.region true [⟨some r8, .mov (.t r0), none, []⟩,
     ⟨some r9, .nilchk (.t r8), none, [0]⟩,
     ⟨some r10, .faddr 0 (.t r9), none, [1, 0]⟩,
     ⟨some r11, .load 1 false (.t r10), none, [2, 1, 0]⟩,
     ⟨some r12, .mov (.t r0), none, []⟩,
     ⟨some r13, .nilchk (.t r12), none, [4]⟩,
     ⟨some r14, .faddr 2 (.t r13), none, [5, 4]⟩,
     ⟨some r15, .load 1 false (.t r14), none, [6, 5, 4]⟩,
     ⟨some r16, .sidx (.t r11) (.t r15), none, [3, 2, 1, 0, 7, 6, 5, 4]⟩,
     ⟨some r7, .mov (.t r16), none, [8, 3, 2, 1, 0, 7, 6, 5, 4]⟩])
   (.seq (.block 0 (.seq (.region false [⟨some r18, .mov (.t r0), none, []⟩,
        ⟨some r19, .mov (.t r0), none, []⟩,
        ⟨some r20, .call f_rx_reader_op [(.t r19), (.c (.p (.str [40])))], none, []⟩,
        ⟨some r21, .call f_rx_reader_is [(.t r18), (.t r20)], none, []⟩,
        ⟨some r17, .mov (.t r21), none, []⟩])
      (.cond (.t r17) (.seq (.region false [⟨some r22, .mov (.t r0), none, []⟩,
          ⟨some r23, .mov (.t r2), none, []⟩,
          ⟨some r24, .call f_rx_reader_group [(.t r22), (.t r23)], none, []⟩,
          ⟨none, .store 9 (.t r6) (.t r24), none, []⟩])
        (.ret))
       (.seq (.region false [⟨some r26, .mov (.t r0), none, []⟩,
          ⟨some r27, .call f_rx_reader_is [(.t r26), (.c (.p (.str [91])))], none, []⟩,
          ⟨some r25, .mov (.t r27), none, []⟩])
        (.cond (.t r25) (.seq (.region false [⟨some r28, .mov (.t r0), none, []⟩,
            ⟨some r29, .call f_rx_reader_bracket [(.t r28)], none, []⟩,
            ⟨none, .store 9 (.t r6) (.t r29), none, []⟩])
          (.ret))
         (.seq (.region false [⟨some r31, .mov (.t r0), none, []⟩,
            ⟨some r32, .mov (.t r1), none, []⟩,
            ⟨some r33, .call f_rx_reader_begins [(.t r31), (.t r32)], none, []⟩,
            ⟨some r30, .mov (.t r33), none, []⟩])
          (.cond (.t r30) (.seq (.region false [⟨some r34, .mov (.t r0), none, []⟩,
              ⟨some r35, .nilchk (.t r34), none, []⟩,
              ⟨some r36, .faddr 2 (.t r35), none, []⟩,
              ⟨some r37, .load 1 false (.t r36), none, []⟩,
              ⟨some r38, .bin .add (.t r37) (.c (.p (.int .i64 1))), none, []⟩,
              ⟨some r39, .nilchk (.t r34), none, []⟩,
              ⟨some r40, .faddr 2 (.t r39), none, []⟩,
              ⟨none, .store 1 (.t r40) (.t r38), none, []⟩])
            (.seq (.region false [⟨some r41, .build [.p (.int .i64 0), .p (.int .i64 0), .p (.int .i64 0), .p (.int .i64 0), .p (.int .u64 0), .p (.int .u64 0), .p (.int .u64 0), .p (.int .u64 0), .nils] [(0, 1, (.c (.p (.int .i64 7))))], none, []⟩,
               ⟨none, .store 9 (.t r6) (.t r41), none, []⟩])
             (.ret)))
           (.seq (.region false [⟨some r43, .mov (.t r0), none, []⟩,
              ⟨some r44, .call f_rx_reader_stops [(.t r43)], none, []⟩,
              ⟨some r42, .mov (.t r44), none, []⟩])
            (.cond (.t r42) (.seq (.region false [⟨some r45, .mov (.t r0), none, []⟩,
                ⟨some r46, .nilchk (.t r45), none, []⟩,
                ⟨some r47, .faddr 2 (.t r46), none, []⟩,
                ⟨some r48, .load 1 false (.t r47), none, []⟩,
                ⟨some r49, .bin .add (.t r48) (.c (.p (.int .i64 1))), none, []⟩,
                ⟨some r50, .nilchk (.t r45), none, []⟩,
                ⟨some r51, .faddr 2 (.t r50), none, []⟩,
                ⟨none, .store 1 (.t r51) (.t r49), none, []⟩])
              (.seq (.region false [⟨some r52, .build [.p (.int .i64 0), .p (.int .i64 0), .p (.int .i64 0), .p (.int .i64 0), .p (.int .u64 0), .p (.int .u64 0), .p (.int .u64 0), .p (.int .u64 0), .nils] [(0, 1, (.c (.p (.int .i64 8))))], none, []⟩,
                 ⟨none, .store 9 (.t r6) (.t r52), none, []⟩])
               (.ret)))
             (.seq (.region false [⟨some r54, .mov (.t r0), none, []⟩,
                ⟨some r55, .mov (.t r1), none, []⟩,
                ⟨some r56, .call f_rx_reader_star [(.t r54), (.t r55)], none, []⟩,
                ⟨some r53, .mov (.t r56), none, []⟩])
              (.cond (.t r53) (.seq (.region false [⟨some r57, .mov (.t r0), none, []⟩,
                  ⟨some r58, .call f_rx_reader_one [(.t r57), (.c (.p (.int .u8 42))), (.c (.p (.int .i64 1)))], none, []⟩,
                  ⟨none, .store 9 (.t r6) (.t r58), none, []⟩])
                (.ret))
               (.seq (.seq (.region false [⟨some r60, .mov (.t r0), none, []⟩,
                   ⟨some r61, .call f_rx_reader_is [(.t r60), (.c (.p (.str [42])))], none, []⟩,
                   ⟨some r59, .mov (.t r61), none, []⟩])
                 (.cond (.t r59) (.skip)
                  (.region false [⟨some r62, .mov (.t r0), none, []⟩,
                    ⟨some r63, .nilchk (.t r62), none, []⟩,
                    ⟨some r64, .faddr 1 (.t r63), none, []⟩,
                    ⟨some r65, .load 1 false (.t r64), none, []⟩,
                    ⟨some r66, .mov (.t r65), none, []⟩,
                    ⟨some r67, .mov (.t r7), some (r66, true), []⟩,
                    ⟨some r68, .call f_strings_IndexByte [(.c (.p (.str [43, 63, 123]))), (.t r67)], some (r66, true), []⟩,
                    ⟨some r69, .bin .geq (.t r68) (.c (.p (.int .i64 0))), some (r66, true), []⟩,
                    ⟨some r70, .pick (.t r66) (.t r69) (.c (.p (.bool false))), none, []⟩,
                    ⟨some r59, .mov (.t r70), none, []⟩])))
                (.cond (.t r59) (.seq (.region false [⟨some r71, .mov (.t r0), none, []⟩,
                    ⟨some r72, .call f_rx_reader_fail [(.t r71), (.c (.p (.int .i64 1)))], none, []⟩,
                    ⟨none, .store 9 (.t r6) (.t r72), none, []⟩])
                  (.ret))
                 (.seq (.region false [⟨some r74, .mov (.t r7), none, []⟩,
                    ⟨some r75, .bin .eql (.t r74) (.c (.p (.int .u8 46))), none, []⟩,
                    ⟨some r73, .mov (.t r75), none, []⟩])
                  (.cond (.t r73) (.seq (.region false [⟨some r76, .mov (.t r0), none, []⟩,
                      ⟨some r77, .nilchk (.t r76), none, []⟩,
                      ⟨some r78, .faddr 2 (.t r77), none, []⟩,
                      ⟨some r79, .load 1 false (.t r78), none, []⟩,
                      ⟨some r80, .bin .add (.t r79) (.c (.p (.int .i64 1))), none, []⟩,
                      ⟨some r81, .nilchk (.t r76), none, []⟩,
                      ⟨some r82, .faddr 2 (.t r81), none, []⟩,
                      ⟨none, .store 1 (.t r82) (.t r80), none, []⟩])
                    (.seq (.region false [⟨some r83, .build [.p (.int .u64 0), .p (.int .u64 0), .p (.int .u64 0), .p (.int .u64 0)] [], none, []⟩,
                       ⟨some r84, .call f_bset_Not [(.t r83)], none, []⟩,
                       ⟨some r85, .build [.p (.int .i64 0), .p (.int .i64 0), .p (.int .i64 0), .p (.int .i64 0), .p (.int .u64 0), .p (.int .u64 0), .p (.int .u64 0), .p (.int .u64 0), .nils] [(0, 1, (.c (.p (.int .i64 1)))), (4, 4, (.t r84))], none, []⟩,
                       ⟨none, .store 9 (.t r6) (.t r85), none, []⟩])
                     (.ret)))
                   (.seq (.region false [⟨some r87, .mov (.t r7), none, []⟩,
                      ⟨some r88, .bin .eql (.t r87) (.c (.p (.int .u8 92))), none, []⟩,
                      ⟨some r86, .mov (.t r88), none, []⟩])
                    (.cond (.t r86) (.seq (.region false [⟨some r89, .mov (.t r0), none, []⟩,
                        ⟨some r90, .call f_rx_reader_behind [(.t r89)], none, []⟩,
                        ⟨none, .store 9 (.t r6) (.t r90), none, []⟩])
                      (.ret))
                     (.skip))))))))))))))))))
    (.seq (.region false [⟨some r91, .mov (.t r0), none, []⟩,
       ⟨some r92, .mov (.t r7), none, []⟩,
       ⟨some r93, .call f_rx_reader_one [(.t r91), (.t r92), (.c (.p (.int .i64 1)))], none, []⟩,
       ⟨none, .store 9 (.t r6) (.t r93), none, []⟩])
     (.ret))))
def ir_rx_reader_atom : VFn := ⟨.heap, 3, b_rx_reader_atom, [.cell r6 9 true]⟩
@[simp] theorem bb_rx_reader_atom : ir_rx_reader_atom.body = b_rx_reader_atom := rfl
@[simp] theorem br_rx_reader_atom : ir_rx_reader_atom.res = [.cell r6 9 true] := rfl
@[simp] theorem bn_rx_reader_atom : ir_rx_reader_atom.nargs = 3 := rfl

/-- (*gloss/rx.reader).star -/
def b_rx_reader_star : VCode := .seq (.region false [⟨some r4, .mov (.c (.p (.bool false))), none, []⟩])
  (.seq (.region false [⟨some r5, .mov (.t r0), none, []⟩,
     ⟨some r6, .call f_rx_reader_is [(.t r5), (.c (.p (.str [42])))], none, []⟩,
     ⟨some r7, .mov (.t r6), none, []⟩,
     ⟨some r8, .mov (.t r0), some (r7, true), []⟩,
     ⟨some r9, .nilchk (.t r8), some (r7, true), []⟩,
     ⟨some r10, .faddr 1 (.t r9), some (r7, true), []⟩,
     ⟨some r11, .load 1 false (.t r10), some (r7, true), []⟩,
     ⟨some r12, .un .not (.t r11), some (r7, true), []⟩,
     ⟨some r13, .pick (.t r7) (.t r12) (.c (.p (.bool false))), none, []⟩,
     ⟨some r14, .mov (.t r13), none, []⟩,
     ⟨some r15, .mov (.t r1), some (r14, true), []⟩,
     ⟨some r16, .lensl (.t r15), some (r14, true), []⟩,
     ⟨some r17, .bin .eql (.t r16) (.c (.p (.int .i64 0))), some (r14, true), []⟩,
     ⟨some r18, .mov (.t r17), some (r14, true), []⟩,
     ⟨some r19, .mov (.t r1), some (r18, false), []⟩,
     ⟨some r20, .lensl (.t r19), some (r18, false), []⟩,
     ⟨some r21, .bin .eql (.t r20) (.c (.p (.int .i64 1))), some (r18, false), []⟩,
     ⟨some r22, .mov (.t r21), some (r18, false), []⟩,
     ⟨some r23, .mov (.t r1), some (r22, true), []⟩,
     ⟨some r24, .iaddr 9 (.t r23) (.c (.p (.int .i64 0))), some (r22, true), []⟩,
     ⟨some r25, .faddr 0 (.t r24), some (r22, true), []⟩,
     ⟨some r26, .load 1 false (.t r25), some (r22, true), []⟩,
     ⟨some r27, .bin .eql (.t r26) (.c (.p (.int .i64 7))), some (r22, true), []⟩,
     ⟨some r28, .pick (.t r22) (.t r27) (.c (.p (.bool false))), some (r18, false), []⟩,
     ⟨some r29, .pick (.t r18) (.c (.p (.bool true))) (.t r28), some (r14, true), []⟩,
     ⟨some r30, .pick (.t r14) (.t r29) (.c (.p (.bool false))), none, []⟩,
     ⟨some r4, .mov (.t r30), none, []⟩])
   (.ret))
def ir_rx_reader_star : VFn := ⟨.borrow, 2, b_rx_reader_star, [.tmp r4]⟩
@[simp] theorem bb_rx_reader_star : ir_rx_reader_star.body = b_rx_reader_star := rfl
@[simp] theorem br_rx_reader_star : ir_rx_reader_star.res = [.tmp r4] := rfl
@[simp] theorem bn_rx_reader_star : ir_rx_reader_star.nargs = 2 := rfl

/-- slices.Clone[[]gloss/api.Rx,gloss/api.Rx] -/
def b_slices_Clone_api_Rx_api_Rx : VCode := .seq (.region false [⟨some r2, .mov (.c (.r (.nils))), none, []⟩])
  (.seq (.seq (.region false [⟨some r3, .mov (.t r0), none, []⟩,
      ⟨some r4, .eqv .slc false (.t r3) (.c (.r (.nils))), none, []⟩])
    (.cond (.t r4) (.seq (.region false [⟨some r2, .mov (.c (.r (.nils))), none, []⟩])
      (.ret))
     (.skip)))
   (.seq (.region false [⟨some r5, .bsl t_api_Rx 9 [] 0 [], none, []⟩,
      ⟨some r6, .mov (.t r0), none, []⟩,
      ⟨some r7, .app t_api_Rx 9 (.t r5) (.t r6), none, []⟩,
      ⟨some r2, .mov (.t r7), none, []⟩])
    (.ret)))
def ir_slices_Clone_api_Rx_api_Rx : VFn := ⟨.heap, 1, b_slices_Clone_api_Rx_api_Rx, [.tmp r2]⟩
@[simp] theorem bb_slices_Clone_api_Rx_api_Rx : ir_slices_Clone_api_Rx_api_Rx.body = b_slices_Clone_api_Rx_api_Rx := rfl
@[simp] theorem br_slices_Clone_api_Rx_api_Rx : ir_slices_Clone_api_Rx_api_Rx.res = [.tmp r2] := rfl
@[simp] theorem bn_slices_Clone_api_Rx_api_Rx : ir_slices_Clone_api_Rx_api_Rx.nargs = 1 := rfl

/-- (*gloss/rx.reader).again -/
def b_rx_reader_again : VCode := .seq (.region false [⟨some r3, .box t_api_Rx (.t r1), none, []⟩,
    ⟨some r4, .alloc t_api_Rx [.p (.int .i64 0), .p (.int .i64 0), .p (.int .i64 0), .p (.int .i64 0), .p (.int .u64 0), .p (.int .u64 0), .p (.int .u64 0), .p (.int .u64 0), .nils], none, []⟩])
  (.seq (.region false [⟨some r5, .mov (.c (.p (.int .i64 0))), none, []⟩,
     ⟨some r6, .mov (.c (.p (.int .i64 (-1)))), none, []⟩,
     ⟨some r7, .mov (.c (.p (.bool true))), none, []⟩])
   (.seq (.block 0 (.seq (.region false [⟨some r11, .mov (.t r0), none, []⟩,
        ⟨some r12, .call f_rx_reader_took [(.t r11), (.c (.p (.str [42])))], none, []⟩,
        ⟨some r10, .mov (.t r12), none, []⟩])
      (.cond (.t r10) (.skip)
       (.seq (.region false [⟨some r14, .mov (.t r0), none, []⟩,
          ⟨some r15, .nilchk (.t r14), none, []⟩,
          ⟨some r16, .faddr 1 (.t r15), none, []⟩,
          ⟨some r17, .load 1 false (.t r16), none, []⟩,
          ⟨some r18, .mov (.t r17), none, []⟩,
          ⟨some r19, .mov (.t r0), some (r18, true), []⟩,
          ⟨some r20, .call f_rx_reader_took [(.t r19), (.c (.p (.str [43])))], some (r18, true), []⟩,
          ⟨some r21, .pick (.t r18) (.t r20) (.c (.p (.bool false))), none, []⟩,
          ⟨some r13, .mov (.t r21), none, []⟩])
        (.cond (.t r13) (.region false [⟨some r5, .mov (.c (.p (.int .i64 1))), none, []⟩])
         (.seq (.region false [⟨some r23, .mov (.t r0), none, []⟩,
            ⟨some r24, .nilchk (.t r23), none, []⟩,
            ⟨some r25, .faddr 1 (.t r24), none, []⟩,
            ⟨some r26, .load 1 false (.t r25), none, []⟩,
            ⟨some r27, .mov (.t r26), none, []⟩,
            ⟨some r28, .mov (.t r0), some (r27, true), []⟩,
            ⟨some r29, .call f_rx_reader_took [(.t r28), (.c (.p (.str [63])))], some (r27, true), []⟩,
            ⟨some r30, .pick (.t r27) (.t r29) (.c (.p (.bool false))), none, []⟩,
            ⟨some r22, .mov (.t r30), none, []⟩])
          (.cond (.t r22) (.region false [⟨some r6, .mov (.c (.p (.int .i64 1))), none, []⟩])
           (.seq (.region false [⟨some r32, .mov (.t r0), none, []⟩,
              ⟨some r33, .mov (.t r0), none, []⟩,
              ⟨some r34, .call f_rx_reader_op [(.t r33), (.c (.p (.str [123])))], none, []⟩,
              ⟨some r35, .call f_rx_reader_took [(.t r32), (.t r34)], none, []⟩,
              ⟨some r31, .mov (.t r35), none, []⟩])
            (.cond (.t r31) (.region false [⟨some r37, .mov (.t r0), none, []⟩,
               ⟨some r38, .call f_rx_reader_interval [(.t r37)], none, []⟩,
               ⟨some r36, .mov (.t r38), none, []⟩,
               ⟨some r39, .extr (.t r36) 0, none, []⟩,
               ⟨some r40, .extr (.t r36) 1, none, []⟩,
               ⟨some r41, .extr (.t r36) 2, none, []⟩,
               ⟨some r5, .mov (.t r39), none, []⟩,
               ⟨some r6, .mov (.t r40), none, []⟩,
               ⟨some r7, .mov (.t r41), none, []⟩])
             (.seq (.region false [⟨some r9, .load 9 true (.t r3), none, []⟩,
                ⟨none, .store 9 (.t r4) (.t r9), none, []⟩])
              (.ret)))))))))))
    (.seq (.region false [⟨some r42, .mov (.t r5), none, []⟩,
       ⟨some r43, .mov (.t r6), none, []⟩,
       ⟨some r44, .load 9 true (.t r3), none, []⟩,
       ⟨some r45, .bsl t_api_Rx 9 [.p (.int .i64 0), .p (.int .i64 0), .p (.int .i64 0), .p (.int .i64 0), .p (.int .u64 0), .p (.int .u64 0), .p (.int .u64 0), .p (.int .u64 0), .nils] 1 [(0, 9, (.t r44))], none, []⟩,
       ⟨some r46, .build [.p (.int .i64 0), .p (.int .i64 0), .p (.int .i64 0), .p (.int .i64 0), .p (.int .u64 0), .p (.int .u64 0), .p (.int .u64 0), .p (.int .u64 0), .nils] [(0, 1, (.c (.p (.int .i64 4)))), (1, 1, (.t r42)), (2, 1, (.t r43)), (8, 1, (.t r45))], none, []⟩,
       ⟨some r8, .alloc t_api_Rx [.p (.int .i64 0), .p (.int .i64 0), .p (.int .i64 0), .p (.int .i64 0), .p (.int .u64 0), .p (.int .u64 0), .p (.int .u64 0), .p (.int .u64 0), .nils], none, []⟩,
       ⟨none, .store 9 (.t r8) (.t r46), none, []⟩])
     (.seq (.seq (.region false [⟨some r47, .mov (.t r7), none, []⟩,
         ⟨some r48, .un .not (.t r47), none, []⟩,
         ⟨some r49, .mov (.t r48), none, []⟩,
         ⟨some r50, .load 9 true (.t r8), some (r49, false), []⟩,
         ⟨some r51, .call f_rx_kids [(.t r50)], some (r49, false), []⟩,
         ⟨some r52, .un .not (.t r51), some (r49, false), []⟩,
         ⟨some r53, .pick (.t r49) (.c (.p (.bool true))) (.t r52), none, []⟩])
       (.cond (.t r53) (.seq (.region false [⟨some r54, .mov (.t r0), none, []⟩,
           ⟨some r55, .call f_rx_reader_fail [(.t r54), (.c (.p (.int .i64 1)))], none, []⟩,
           ⟨none, .store 9 (.t r4) (.t r55), none, []⟩])
         (.ret))
        (.skip)))
      (.seq (.region false [⟨some r56, .load 9 true (.t r8), none, []⟩,
         ⟨none, .store 9 (.t r4) (.t r56), none, []⟩])
       (.ret))))))
def ir_rx_reader_again : VFn := ⟨.heap, 2, b_rx_reader_again, [.cell r4 9 true]⟩
@[simp] theorem bb_rx_reader_again : ir_rx_reader_again.body = b_rx_reader_again := rfl
@[simp] theorem br_rx_reader_again : ir_rx_reader_again.res = [.cell r4 9 true] := rfl
@[simp] theorem bn_rx_reader_again : ir_rx_reader_again.nargs = 2 := rfl

/-- (*gloss/rx.reader).is -/
def b_rx_reader_is : VCode := .seq (.region false [⟨some r4, .mov (.c (.p (.bool false))), none, []⟩])
  (.seq (.region true [⟨some r5, .mov (.t r0), none, []⟩,
     ⟨some r6, .nilchk (.t r5), none, [0]⟩,
     ⟨some r7, .faddr 4 (.t r6), none, [1, 0]⟩,
     ⟨some r8, .load 1 false (.t r7), none, [2, 1, 0]⟩,
     ⟨some r9, .bin .eql (.t r8) (.c (.p (.int .i64 0))), none, [3, 2, 1, 0]⟩,
     ⟨some r10, .mov (.t r9), none, [4, 3, 2, 1, 0]⟩,
     ⟨some r11, .mov (.t r0), some (r10, true), [5, 4, 3, 2, 1, 0]⟩,
     ⟨some r12, .nilchk (.t r11), some (r10, true), [6, 5, 4, 3, 2, 1, 0]⟩,
     ⟨some r13, .faddr 0 (.t r12), some (r10, true), [7, 6, 5, 4, 3, 2, 1, 0]⟩,
     ⟨some r14, .load 1 false (.t r13), some (r10, true), [8, 7, 6, 5, 4, 3, 2, 1, 0]⟩,
     ⟨some r15, .mov (.t r0), some (r10, true), [5, 4, 3, 2, 1, 0]⟩,
     ⟨some r16, .nilchk (.t r15), some (r10, true), [10, 5, 4, 3, 2, 1, 0]⟩,
     ⟨some r17, .faddr 2 (.t r16), some (r10, true), [11, 10, 5, 4, 3, 2, 1, 0]⟩,
     ⟨some r18, .load 1 false (.t r17), some (r10, true), [12, 11, 10, 5, 4, 3, 2, 1, 0]⟩,
     ⟨some r19, .substr (.t r14) (some (.t r18)) none, some (r10, true), [9, 8, 7, 6, 5, 4, 3, 2, 1, 0, 13, 12, 11, 10]⟩,
     ⟨some r20, .mov (.t r1), some (r10, true), [5, 4, 3, 2, 1, 0]⟩,
     ⟨some r21, .call f_strings_HasPrefix [(.t r19), (.t r20)], some (r10, true), [14, 9, 8, 7, 6, 5, 4, 3, 2, 1, 0, 13, 12, 11, 10, 15]⟩,
     ⟨some r22, .pick (.t r10) (.t r21) (.c (.p (.bool false))), none, [5, 4, 3, 2, 1, 0, 16, 14, 9, 8, 7, 6, 13, 12, 11, 10, 15]⟩,
     ⟨some r4, .mov (.t r22), none, [17, 5, 4, 3, 2, 1, 0, 16, 14, 9, 8, 7, 6, 13, 12, 11, 10, 15]⟩])
   (.ret))
def ir_rx_reader_is : VFn := ⟨.borrow, 2, b_rx_reader_is, [.tmp r4]⟩
@[simp] theorem bb_rx_reader_is : ir_rx_reader_is.body = b_rx_reader_is := rfl
@[simp] theorem br_rx_reader_is : ir_rx_reader_is.res = [.tmp r4] := rfl
@[simp] theorem bn_rx_reader_is : ir_rx_reader_is.nargs = 2 := rfl

/-- gloss/rx.bare -/
def b_rx_bare : VCode := .seq (.region false [⟨some r1, .box t_api_Rx (.t r0), none, []⟩,
    ⟨some r2, .mov (.c (.p (.bool false))), none, []⟩])
  (.seq (.seq (.region false [⟨some r3, .faddr 0 (.t r1), none, []⟩,
      ⟨some r4, .load 1 false (.t r3), none, []⟩,
      ⟨some r5, .bin .neq (.t r4) (.c (.p (.int .i64 1))), none, []⟩,
      ⟨some r6, .mov (.t r5), none, []⟩,
      ⟨some r7, .faddr 4 (.t r1), some (r6, true), []⟩,
      ⟨some r8, .load 4 true (.t r7), some (r6, true), []⟩,
      ⟨some r9, .build [.p (.int .u64 0), .p (.int .u64 0), .p (.int .u64 0), .p (.int .u64 0)] [], some (r6, true), []⟩,
      ⟨some r10, .eqa [.int, .int, .int, .int] true (.t r8) (.t r9), some (r6, true), []⟩,
      ⟨some r11, .pick (.t r6) (.t r10) (.c (.p (.bool false))), none, []⟩,
      ⟨some r12, .mov (.t r11), none, []⟩,
      ⟨some r13, .faddr 0 (.t r1), some (r12, false), []⟩,
      ⟨some r14, .load 1 false (.t r13), some (r12, false), []⟩,
      ⟨some r15, .bin .neq (.t r14) (.c (.p (.int .i64 4))), some (r12, false), []⟩,
      ⟨some r16, .mov (.t r15), some (r12, false), []⟩,
      ⟨some r17, .faddr 1 (.t r1), some (r16, true), []⟩,
      ⟨some r18, .load 1 false (.t r17), some (r16, true), []⟩,
      ⟨some r19, .bin .neq (.t r18) (.c (.p (.int .i64 0))), some (r16, true), []⟩,
      ⟨some r20, .mov (.t r19), some (r16, true), []⟩,
      ⟨some r21, .faddr 2 (.t r1), some (r20, false), []⟩,
      ⟨some r22, .load 1 false (.t r21), some (r20, false), []⟩,
      ⟨some r23, .bin .neq (.t r22) (.c (.p (.int .i64 0))), some (r20, false), []⟩,
      ⟨some r24, .pick (.t r20) (.c (.p (.bool true))) (.t r23), some (r16, true), []⟩,
      ⟨some r25, .pick (.t r16) (.t r24) (.c (.p (.bool false))), some (r12, false), []⟩,
      ⟨some r26, .pick (.t r12) (.c (.p (.bool true))) (.t r25), none, []⟩])
    (.cond (.t r26) (.seq (.region false [⟨some r2, .mov (.c (.p (.bool false))), none, []⟩])
      (.ret))
     (.skip)))
   (.seq (.region false [⟨some r27, .faddr 0 (.t r1), none, []⟩,
      ⟨some r28, .load 1 false (.t r27), none, []⟩,
      ⟨some r29, .bin .eql (.t r28) (.c (.p (.int .i64 5))), none, []⟩,
      ⟨some r30, .mov (.t r29), none, []⟩,
      ⟨some r31, .faddr 0 (.t r1), some (r30, false), []⟩,
      ⟨some r32, .load 1 false (.t r31), some (r30, false), []⟩,
      ⟨some r33, .bin .eql (.t r32) (.c (.p (.int .i64 6))), some (r30, false), []⟩,
      ⟨some r34, .pick (.t r30) (.c (.p (.bool true))) (.t r33), none, []⟩,
      ⟨some r35, .mov (.t r34), none, []⟩,
      ⟨some r36, .faddr 3 (.t r1), some (r35, false), []⟩,
      ⟨some r37, .load 1 false (.t r36), some (r35, false), []⟩,
      ⟨some r38, .bin .eql (.t r37) (.c (.p (.int .i64 0))), some (r35, false), []⟩,
      ⟨some r39, .pick (.t r35) (.c (.p (.bool true))) (.t r38), none, []⟩,
      ⟨some r2, .mov (.t r39), none, []⟩])
    (.ret)))
def ir_rx_bare : VFn := ⟨.borrow, 1, b_rx_bare, [.tmp r2]⟩
@[simp] theorem bb_rx_bare : ir_rx_bare.body = b_rx_bare := rfl
@[simp] theorem br_rx_bare : ir_rx_bare.res = [.tmp r2] := rfl
@[simp] theorem bn_rx_bare : ir_rx_bare.nargs = 1 := rfl

/-- gloss/rx.kids -/
def b_rx_kids : VCode := .seq (.region false [⟨some r1, .box t_api_Rx (.t r0), none, []⟩,
    ⟨some r2, .mov (.c (.p (.bool false))), none, []⟩])
  (.seq (.region false [⟨some r4, .faddr 8 (.t r1), none, []⟩,
     ⟨some r5, .load 1 false (.t r4), none, []⟩,
     ⟨some r6, .lensl (.t r5), none, []⟩,
     ⟨some r3, .mov (.t r6), none, []⟩])
   (.seq (.seq (.region false [⟨some r7, .faddr 0 (.t r1), none, []⟩,
       ⟨some r8, .load 1 false (.t r7), none, []⟩])
     (.block 0 (.seq (.region false [⟨some r10, .bin .eql (.t r8) (.c (.p (.int .i64 1))), none, []⟩,
         ⟨some r9, .mov (.t r10), none, []⟩])
       (.cond (.t r9) (.seq (.region false [⟨some r11, .mov (.t r3), none, []⟩,
           ⟨some r12, .bin .eql (.t r11) (.c (.p (.int .i64 0))), none, []⟩,
           ⟨some r13, .mov (.t r12), none, []⟩,
           ⟨some r14, .faddr 4 (.t r1), some (r13, true), []⟩,
           ⟨some r15, .load 4 true (.t r14), some (r13, true), []⟩,
           ⟨some r16, .build [.p (.int .u64 0), .p (.int .u64 0), .p (.int .u64 0), .p (.int .u64 0)] [], some (r13, true), []⟩,
           ⟨some r17, .eqa [.int, .int, .int, .int] true (.t r15) (.t r16), some (r13, true), []⟩,
           ⟨some r18, .pick (.t r13) (.t r17) (.c (.p (.bool false))), none, []⟩,
           ⟨some r2, .mov (.t r18), none, []⟩])
         (.ret))
        (.seq (.region false [⟨some r20, .bin .eql (.t r8) (.c (.p (.int .i64 2))), none, []⟩,
           ⟨some r19, .mov (.t r20), none, []⟩])
         (.cond (.t r19) (.seq (.region false [⟨some r21, .mov (.t r3), none, []⟩,
             ⟨some r22, .bin .neq (.t r21) (.c (.p (.int .i64 1))), none, []⟩,
             ⟨some r23, .mov (.t r22), none, []⟩,
             ⟨some r24, .faddr 8 (.t r1), some (r23, true), []⟩,
             ⟨some r25, .load 1 false (.t r24), some (r23, true), []⟩,
             ⟨some r26, .bsl t_int 1 [.p (.int .i64 0), .p (.int .i64 0)] 2 [(0, 1, (.c (.p (.int .i64 2)))), (1, 1, (.c (.p (.int .i64 3))))], some (r23, true), []⟩,
             ⟨some r27, .call f_rx_has [(.t r25), (.t r26)], some (r23, true), []⟩,
             ⟨some r28, .un .not (.t r27), some (r23, true), []⟩,
             ⟨some r29, .pick (.t r23) (.t r28) (.c (.p (.bool false))), none, []⟩,
             ⟨some r2, .mov (.t r29), none, []⟩])
           (.ret))
          (.seq (.region false [⟨some r31, .bin .eql (.t r8) (.c (.p (.int .i64 3))), none, []⟩,
             ⟨some r30, .mov (.t r31), none, []⟩])
           (.cond (.t r30) (.seq (.region false [⟨some r32, .mov (.t r3), none, []⟩,
               ⟨some r33, .bin .geq (.t r32) (.c (.p (.int .i64 2))), none, []⟩,
               ⟨some r34, .mov (.t r33), none, []⟩,
               ⟨some r35, .faddr 8 (.t r1), some (r34, true), []⟩,
               ⟨some r36, .load 1 false (.t r35), some (r34, true), []⟩,
               ⟨some r37, .bsl t_int 1 [.p (.int .i64 0)] 1 [(0, 1, (.c (.p (.int .i64 3))))], some (r34, true), []⟩,
               ⟨some r38, .call f_rx_has [(.t r36), (.t r37)], some (r34, true), []⟩,
               ⟨some r39, .un .not (.t r38), some (r34, true), []⟩,
               ⟨some r40, .pick (.t r34) (.t r39) (.c (.p (.bool false))), none, []⟩,
               ⟨some r2, .mov (.t r40), none, []⟩])
             (.ret))
            (.seq (.region false [⟨some r42, .bin .eql (.t r8) (.c (.p (.int .i64 4))), none, []⟩,
               ⟨some r41, .mov (.t r42), none, []⟩])
             (.cond (.t r41) (.seq (.region false [⟨some r43, .mov (.t r3), none, []⟩,
                 ⟨some r44, .bin .eql (.t r43) (.c (.p (.int .i64 1))), none, []⟩,
                 ⟨some r45, .mov (.t r44), none, []⟩,
                 ⟨some r46, .faddr 8 (.t r1), some (r45, true), []⟩,
                 ⟨some r47, .load 1 false (.t r46), some (r45, true), []⟩,
                 ⟨some r48, .bsl t_int 1 [.p (.int .i64 0), .p (.int .i64 0), .p (.int .i64 0)] 3 [(0, 1, (.c (.p (.int .i64 1)))), (1, 1, (.c (.p (.int .i64 5)))), (2, 1, (.c (.p (.int .i64 6))))], some (r45, true), []⟩,
                 ⟨some r49, .call f_rx_has [(.t r47), (.t r48)], some (r45, true), []⟩,
                 ⟨some r50, .pick (.t r45) (.t r49) (.c (.p (.bool false))), none, []⟩,
                 ⟨some r51, .mov (.t r50), none, []⟩,
                 ⟨some r52, .load 9 true (.t r1), some (r51, true), []⟩,
                 ⟨some r53, .call f_rx_rep [(.t r52)], some (r51, true), []⟩,
                 ⟨some r54, .pick (.t r51) (.t r53) (.c (.p (.bool false))), none, []⟩,
                 ⟨some r2, .mov (.t r54), none, []⟩])
               (.ret))
              (.seq (.region false [⟨some r56, .bin .eql (.t r8) (.c (.p (.int .i64 5))), none, []⟩,
                 ⟨some r55, .mov (.t r56), none, []⟩])
               (.cond (.t r55) (.seq (.region false [⟨some r57, .mov (.t r3), none, []⟩,
                   ⟨some r58, .bin .eql (.t r57) (.c (.p (.int .i64 1))), none, []⟩,
                   ⟨some r2, .mov (.t r58), none, []⟩])
                 (.ret))
                (.seq (.seq (.region false [⟨some r60, .bin .eql (.t r8) (.c (.p (.int .i64 6))), none, []⟩,
                    ⟨some r59, .mov (.t r60), none, []⟩])
                  (.cond (.t r59) (.skip)
                   (.seq (.region false [⟨some r61, .bin .eql (.t r8) (.c (.p (.int .i64 7))), none, []⟩,
                      ⟨some r59, .mov (.t r61), none, []⟩])
                    (.cond (.t r59) (.skip)
                     (.region false [⟨some r62, .bin .eql (.t r8) (.c (.p (.int .i64 8))), none, []⟩,
                       ⟨some r59, .mov (.t r62), none, []⟩])))))
                 (.cond (.t r59) (.seq (.region false [⟨some r63, .mov (.t r3), none, []⟩,
                     ⟨some r64, .bin .eql (.t r63) (.c (.p (.int .i64 0))), none, []⟩,
                     ⟨some r2, .mov (.t r64), none, []⟩])
                   (.ret))
                  (.skip)))))))))))))))
    (.seq (.region false [⟨some r2, .mov (.c (.p (.bool false))), none, []⟩])
     (.ret))))
def ir_rx_kids : VFn := ⟨.borrow, 1, b_rx_kids, [.tmp r2]⟩
@[simp] theorem bb_rx_kids : ir_rx_kids.body = b_rx_kids := rfl
@[simp] theorem br_rx_kids : ir_rx_kids.res = [.tmp r2] := rfl
@[simp] theorem bn_rx_kids : ir_rx_kids.nargs = 1 := rfl

/-- strings.IndexByte -/
def b_strings_IndexByte : VCode := .seq (.region false [⟨some r4, .mov (.c (.p (.int .i64 0))), none, []⟩])
  (.seq (.region false [⟨some r5, .mov (.t r0), none, []⟩,
     ⟨some r6, .mov (.t r1), none, []⟩,
     ⟨some r7, .call f_internal_stringslite_IndexByte [(.t r5), (.t r6)], none, []⟩,
     ⟨some r4, .mov (.t r7), none, []⟩])
   (.ret))
def ir_strings_IndexByte : VFn := ⟨.borrow, 2, b_strings_IndexByte, [.tmp r4]⟩
@[simp] theorem bb_strings_IndexByte : ir_strings_IndexByte.body = b_strings_IndexByte := rfl
@[simp] theorem br_strings_IndexByte : ir_strings_IndexByte.res = [.tmp r4] := rfl
@[simp] theorem bn_strings_IndexByte : ir_strings_IndexByte.nargs = 2 := rfl

/-- (*gloss/way.repeater).key -/
def b_way_repeater_key : VCode := .seq (.region false [⟨some r5, .box t_way_State (.t r2), none, []⟩,
    ⟨some r6, .alloc t_way_turn [.p (.int .i64 0), .p (.int .i64 0), .p (.int .i64 0), .p (.int .i64 0), .p (.int .i64 0), .p (.int .i64 0), .p (.int .i64 0), .p (.int .i64 0), .p (.int .i64 0), .p (.int .i64 0)], none, []⟩])
  (.seq (.seq (.region false [⟨some r7, .mov (.t r0), none, []⟩,
      ⟨some r8, .nilchk (.t r7), none, []⟩,
      ⟨some r9, .faddr 2 (.t r8), none, []⟩,
      ⟨some r10, .faddr 2 (.t r9), none, []⟩,
      ⟨some r11, .load 1 false (.t r10), none, []⟩,
      ⟨some r12, .bin .lss (.t r11) (.c (.p (.int .i64 0))), none, []⟩])
    (.cond (.t r12) (.region false [⟨some r13, .mov (.t r1), none, []⟩,
       ⟨some r14, .mov (.t r0), none, []⟩,
       ⟨some r15, .nilchk (.t r14), none, []⟩,
       ⟨some r16, .faddr 2 (.t r15), none, []⟩,
       ⟨some r17, .faddr 1 (.t r16), none, []⟩,
       ⟨some r18, .load 1 false (.t r17), none, []⟩,
       ⟨some r19, .mn (.t r13) [(.t r18)], none, []⟩,
       ⟨some r1, .mov (.t r19), none, []⟩])
     (.skip)))
   (.seq (.region false [⟨some r20, .mov (.t r1), none, []⟩,
      ⟨some r21, .load 9 true (.t r5), none, []⟩,
      ⟨some r22, .build [.p (.int .i64 0), .p (.int .i64 0), .p (.int .i64 0), .p (.int .i64 0), .p (.int .i64 0), .p (.int .i64 0), .p (.int .i64 0), .p (.int .i64 0), .p (.int .i64 0), .p (.int .i64 0)] [(0, 1, (.t r20)), (1, 9, (.t r21))], none, []⟩,
      ⟨none, .store 10 (.t r6) (.t r22), none, []⟩])
    (.ret)))
def ir_way_repeater_key : VFn := ⟨.borrow, 3, b_way_repeater_key, [.cell r6 10 true]⟩
@[simp] theorem bb_way_repeater_key : ir_way_repeater_key.body = b_way_repeater_key := rfl
@[simp] theorem br_way_repeater_key : ir_way_repeater_key.res = [.cell r6 10 true] := rfl
@[simp] theorem bn_way_repeater_key : ir_way_repeater_key.nargs = 3 := rfl

/-- (*gloss/rx.reader).op -/
def b_rx_reader_op : VCode := .seq (.region false [⟨some r4, .mov (.c (.p (.str []))), none, []⟩])
  (.seq (.seq (.region false [⟨some r5, .mov (.t r0), none, []⟩,
      ⟨some r6, .nilchk (.t r5), none, []⟩,
      ⟨some r7, .faddr 1 (.t r6), none, []⟩,
      ⟨some r8, .load 1 false (.t r7), none, []⟩])
    (.cond (.t r8) (.seq (.region false [⟨some r9, .mov (.t r1), none, []⟩,
        ⟨some r4, .mov (.t r9), none, []⟩])
      (.ret))
     (.skip)))
   (.seq (.region false [⟨some r10, .mov (.t r1), none, []⟩,
      ⟨some r11, .bin .add (.c (.p (.str [92]))) (.t r10), none, []⟩,
      ⟨some r4, .mov (.t r11), none, []⟩])
    (.ret)))
def ir_rx_reader_op : VFn := ⟨.borrow, 2, b_rx_reader_op, [.tmp r4]⟩
@[simp] theorem bb_rx_reader_op : ir_rx_reader_op.body = b_rx_reader_op := rfl
@[simp] theorem br_rx_reader_op : ir_rx_reader_op.res = [.tmp r4] := rfl
@[simp] theorem bn_rx_reader_op : ir_rx_reader_op.nargs = 2 := rfl

/-- (*gloss/rx.reader).group -/
def b_rx_reader_group : VCode := .seq (.region false [⟨some r4, .alloc t_api_Rx [.p (.int .i64 0), .p (.int .i64 0), .p (.int .i64 0), .p (.int .i64 0), .p (.int .u64 0), .p (.int .u64 0), .p (.int .u64 0), .p (.int .u64 0), .nils], none, []⟩])
  (.seq (.seq (.region false [⟨some r6, .mov (.t r1), none, []⟩,
      ⟨some r7, .bin .eql (.t r6) (.c (.p (.int .i64 6))), none, []⟩])
    (.cond (.t r7) (.seq (.region false [⟨some r8, .mov (.t r0), none, []⟩,
        ⟨some r9, .call f_rx_reader_fail [(.t r8), (.c (.p (.int .i64 2)))], none, []⟩,
        ⟨none, .store 9 (.t r4) (.t r9), none, []⟩])
      (.ret))
     (.skip)))
   (.seq (.region false [⟨some r10, .mov (.t r0), none, []⟩,
      ⟨some r11, .mov (.t r0), none, []⟩,
      ⟨some r12, .call f_rx_reader_op [(.t r11), (.c (.p (.str [40])))], none, []⟩,
      ⟨some r13, .call f_rx_reader_took [(.t r10), (.t r12)], none, []⟩])
    (.seq (.region false [⟨some r14, .mov (.t r0), none, []⟩,
       ⟨some r15, .nilchk (.t r14), none, []⟩,
       ⟨some r16, .faddr 3 (.t r15), none, []⟩,
       ⟨some r17, .load 1 false (.t r16), none, []⟩,
       ⟨some r18, .bin .add (.t r17) (.c (.p (.int .i64 1))), none, []⟩,
       ⟨some r19, .nilchk (.t r14), none, []⟩,
       ⟨some r20, .faddr 3 (.t r19), none, []⟩,
       ⟨none, .store 1 (.t r20) (.t r18), none, []⟩])
     (.seq (.region false [⟨some r21, .mov (.t r0), none, []⟩,
        ⟨some r22, .nilchk (.t r21), none, []⟩,
        ⟨some r23, .faddr 3 (.t r22), none, []⟩,
        ⟨some r24, .load 1 false (.t r23), none, []⟩,
        ⟨some r25, .build [.p (.int .i64 0), .p (.int .i64 0), .p (.int .i64 0), .p (.int .i64 0), .p (.int .u64 0), .p (.int .u64 0), .p (.int .u64 0), .p (.int .u64 0), .nils] [(0, 1, (.c (.p (.int .i64 5)))), (3, 1, (.t r24))], none, []⟩,
        ⟨some r5, .alloc t_api_Rx [.p (.int .i64 0), .p (.int .i64 0), .p (.int .i64 0), .p (.int .i64 0), .p (.int .u64 0), .p (.int .u64 0), .p (.int .u64 0), .p (.int .u64 0), .nils], none, []⟩,
        ⟨none, .store 9 (.t r5) (.t r25), none, []⟩])
      (.seq (.region false [⟨some r26, .mov (.t r0), none, []⟩,
         ⟨some r27, .mov (.t r1), none, []⟩,
         ⟨some r28, .bin .add (.t r27) (.c (.p (.int .i64 1))), none, []⟩,
         ⟨some r29, .call f_rx_reader_alt [(.t r26), (.t r28)], none, []⟩,
         ⟨some r30, .bsl t_api_Rx 9 [.p (.int .i64 0), .p (.int .i64 0), .p (.int .i64 0), .p (.int .i64 0), .p (.int .u64 0), .p (.int .u64 0), .p (.int .u64 0), .p (.int .u64 0), .nils] 1 [(0, 9, (.t r29))], none, []⟩,
         ⟨some r31, .faddr 8 (.t r5), none, []⟩,
         ⟨none, .store 1 (.t r31) (.t r30), none, []⟩])
       (.seq (.seq (.region false [⟨some r32, .mov (.t r0), none, []⟩,
           ⟨some r33, .mov (.t r0), none, []⟩,
           ⟨some r34, .call f_rx_reader_op [(.t r33), (.c (.p (.str [41])))], none, []⟩,
           ⟨some r35, .call f_rx_reader_took [(.t r32), (.t r34)], none, []⟩,
           ⟨some r36, .un .not (.t r35), none, []⟩])
         (.cond (.t r36) (.seq (.region false [⟨some r37, .mov (.t r0), none, []⟩,
             ⟨some r38, .call f_rx_reader_fail [(.t r37), (.c (.p (.int .i64 1)))], none, []⟩,
             ⟨none, .store 9 (.t r4) (.t r38), none, []⟩])
           (.ret))
          (.skip)))
        (.seq (.region false [⟨some r39, .load 9 true (.t r5), none, []⟩,
           ⟨none, .store 9 (.t r4) (.t r39), none, []⟩])
         (.ret))))))))
def ir_rx_reader_group : VFn := ⟨.heap, 2, b_rx_reader_group, [.cell r4 9 true]⟩
@[simp] theorem bb_rx_reader_group : ir_rx_reader_group.body = b_rx_reader_group := rfl
@[simp] theorem br_rx_reader_group : ir_rx_reader_group.res = [.cell r4 9 true] := rfl
@[simp] theorem bn_rx_reader_group : ir_rx_reader_group.nargs = 2 := rfl

end Gv

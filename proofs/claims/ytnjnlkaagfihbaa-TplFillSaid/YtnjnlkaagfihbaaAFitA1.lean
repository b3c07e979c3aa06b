/- A part of the proof of the statement that the last text of this claim closes; no condition. -/
import Derived.Test.YtnjnlkaagfihbaaABridge
import Derived.Test.YtnjnlkaagfihbaaAIrAp1
import Derived.Test.YtnjnlkaagfihbaaChecked
set_option linter.all false
namespace Gv
open Go
set_option maxRecDepth 100000
theorem fit_glosskeep_Text : FitOne Go.Proofs.Try.prog 14 ir_glosskeep_Text :=
  ⟨Go.Proofs.Try.f14, _, Go.Proofs.Try.func14, of_decide_eq_true (by kernel_rfl), rfl, rfl, ⟨by kernel_rfl, by kernel_rfl, of_decide_eq_true (by kernel_rfl), of_decide_eq_true (by kernel_rfl), by kernel_rfl⟩⟩
theorem fit_find_All : FitOne Go.Proofs.Try.prog 16 ir_find_All :=
  ⟨Go.Proofs.Try.f16, _, Go.Proofs.Try.func16, of_decide_eq_true (by kernel_rfl), rfl, rfl, ⟨by kernel_rfl, by kernel_rfl, of_decide_eq_true (by kernel_rfl), of_decide_eq_true (by kernel_rfl), by kernel_rfl⟩⟩
theorem fit_tpl_Subst : FitOne Go.Proofs.Try.prog 22 ir_tpl_Subst :=
  ⟨Go.Proofs.Try.f22, _, Go.Proofs.Try.func22, of_decide_eq_true (by kernel_rfl), rfl, rfl, ⟨by kernel_rfl, by kernel_rfl, of_decide_eq_true (by kernel_rfl), of_decide_eq_true (by kernel_rfl), by kernel_rfl⟩⟩
theorem fit_glossbook_Within : FitOne Go.Proofs.Try.prog 24 ir_glossbook_Within :=
  ⟨Go.Proofs.Try.f24, _, Go.Proofs.Try.func24, of_decide_eq_true (by kernel_rfl), rfl, rfl, ⟨by kernel_rfl, by kernel_rfl, of_decide_eq_true (by kernel_rfl), of_decide_eq_true (by kernel_rfl), by kernel_rfl⟩⟩
theorem fit_find_Group : FitOne Go.Proofs.Try.prog 26 ir_find_Group :=
  ⟨Go.Proofs.Try.f26, _, Go.Proofs.Try.func26, of_decide_eq_true (by kernel_rfl), rfl, rfl, ⟨by kernel_rfl, by kernel_rfl, of_decide_eq_true (by kernel_rfl), of_decide_eq_true (by kernel_rfl), by kernel_rfl⟩⟩
theorem fit_tpl_Right : FitOne Go.Proofs.Try.prog 28 ir_tpl_Right :=
  ⟨Go.Proofs.Try.f28, _, Go.Proofs.Try.func28, of_decide_eq_true (by kernel_rfl), rfl, rfl, ⟨by kernel_rfl, by kernel_rfl, of_decide_eq_true (by kernel_rfl), of_decide_eq_true (by kernel_rfl), by kernel_rfl⟩⟩
theorem fit_way_Ways : FitOne Go.Proofs.Try.prog 33 ir_way_Ways :=
  ⟨Go.Proofs.Try.f33, _, Go.Proofs.Try.func33, of_decide_eq_true (by kernel_rfl), rfl, rfl, ⟨by kernel_rfl, by kernel_rfl, of_decide_eq_true (by kernel_rfl), of_decide_eq_true (by kernel_rfl), by kernel_rfl⟩⟩
theorem fit_way_None : FitOne Go.Proofs.Try.prog 36 ir_way_None :=
  ⟨Go.Proofs.Try.f36, _, Go.Proofs.Try.func36, of_decide_eq_true (by kernel_rfl), rfl, rfl, ⟨by kernel_rfl, by kernel_rfl, of_decide_eq_true (by kernel_rfl), of_decide_eq_true (by kernel_rfl), by kernel_rfl⟩⟩
theorem fit_rx_reader_fail : FitOne Go.Proofs.Try.prog 38 ir_rx_reader_fail :=
  ⟨Go.Proofs.Try.f38, _, Go.Proofs.Try.func38, of_decide_eq_true (by kernel_rfl), rfl, rfl, ⟨by kernel_rfl, by kernel_rfl, of_decide_eq_true (by kernel_rfl), of_decide_eq_true (by kernel_rfl), by kernel_rfl⟩⟩
theorem fit_rx_Right : FitOne Go.Proofs.Try.prog 40 ir_rx_Right :=
  ⟨Go.Proofs.Try.f40, _, Go.Proofs.Try.func40, of_decide_eq_true (by kernel_rfl), rfl, rfl, ⟨by kernel_rfl, by kernel_rfl, of_decide_eq_true (by kernel_rfl), of_decide_eq_true (by kernel_rfl), by kernel_rfl⟩⟩
theorem fit_strings_Builder_Len : FitOne Go.Proofs.Try.prog 43 ir_strings_Builder_Len :=
  ⟨Go.Proofs.Try.f43, _, Go.Proofs.Try.func43, of_decide_eq_true (by kernel_rfl), rfl, rfl, ⟨by kernel_rfl, by kernel_rfl, of_decide_eq_true (by kernel_rfl), of_decide_eq_true (by kernel_rfl), by kernel_rfl⟩⟩
theorem fit_tpl_Parse : FitOne Go.Proofs.Try.prog 45 ir_tpl_Parse :=
  ⟨Go.Proofs.Try.f45, _, Go.Proofs.Try.func45, of_decide_eq_true (by kernel_rfl), rfl, rfl, ⟨by kernel_rfl, by kernel_rfl, of_decide_eq_true (by kernel_rfl), of_decide_eq_true (by kernel_rfl), by kernel_rfl⟩⟩
theorem fit_rx_reader_cat : FitOne Go.Proofs.Try.prog 50 ir_rx_reader_cat :=
  ⟨Go.Proofs.Try.f50, _, Go.Proofs.Try.func50, of_decide_eq_true (by kernel_rfl), rfl, rfl, ⟨by kernel_rfl, by kernel_rfl, of_decide_eq_true (by kernel_rfl), of_decide_eq_true (by kernel_rfl), by kernel_rfl⟩⟩
theorem fit_rx_walker_anchors : FitOne Go.Proofs.Try.prog 52 ir_rx_walker_anchors :=
  ⟨Go.Proofs.Try.f52, _, Go.Proofs.Try.func52, of_decide_eq_true (by kernel_rfl), rfl, rfl, ⟨by kernel_rfl, by kernel_rfl, of_decide_eq_true (by kernel_rfl), of_decide_eq_true (by kernel_rfl), by kernel_rfl⟩⟩
theorem fit_strings_Builder_copyCheck : FitOne Go.Proofs.Try.prog 56 ir_strings_Builder_copyCheck :=
  ⟨Go.Proofs.Try.f56, _, Go.Proofs.Try.func56, of_decide_eq_true (by kernel_rfl), rfl, rfl, ⟨by kernel_rfl, by kernel_rfl, of_decide_eq_true (by kernel_rfl), of_decide_eq_true (by kernel_rfl), by kernel_rfl⟩⟩
theorem fit_bset_Has : FitOne Go.Proofs.Try.prog 62 ir_bset_Has :=
  ⟨Go.Proofs.Try.f62, _, Go.Proofs.Try.func62, of_decide_eq_true (by kernel_rfl), rfl, rfl, ⟨by kernel_rfl, by kernel_rfl, of_decide_eq_true (by kernel_rfl), of_decide_eq_true (by kernel_rfl), by kernel_rfl⟩⟩
theorem fit_way_newRow : FitOne Go.Proofs.Try.prog 64 ir_way_newRow :=
  ⟨Go.Proofs.Try.f64, _, Go.Proofs.Try.func64, of_decide_eq_true (by kernel_rfl), rfl, rfl, ⟨by kernel_rfl, by kernel_rfl, of_decide_eq_true (by kernel_rfl), of_decide_eq_true (by kernel_rfl), by kernel_rfl⟩⟩
theorem fit_way_text_from : FitOne Go.Proofs.Try.prog 66 ir_way_text_from :=
  ⟨Go.Proofs.Try.f66, _, Go.Proofs.Try.func66, of_decide_eq_true (by kernel_rfl), rfl, rfl, ⟨by kernel_rfl, by kernel_rfl, of_decide_eq_true (by kernel_rfl), of_decide_eq_true (by kernel_rfl), by kernel_rfl⟩⟩
theorem fit_rx_reader_ends : FitOne Go.Proofs.Try.prog 68 ir_rx_reader_ends :=
  ⟨Go.Proofs.Try.f68, _, Go.Proofs.Try.func68, of_decide_eq_true (by kernel_rfl), rfl, rfl, ⟨by kernel_rfl, by kernel_rfl, of_decide_eq_true (by kernel_rfl), of_decide_eq_true (by kernel_rfl), by kernel_rfl⟩⟩
theorem fit_rx_reader_star : FitOne Go.Proofs.Try.prog 70 ir_rx_reader_star :=
  ⟨Go.Proofs.Try.f70, _, Go.Proofs.Try.func70, of_decide_eq_true (by kernel_rfl), rfl, rfl, ⟨by kernel_rfl, by kernel_rfl, of_decide_eq_true (by kernel_rfl), of_decide_eq_true (by kernel_rfl), by kernel_rfl⟩⟩
theorem fit_rx_reader_again : FitOne Go.Proofs.Try.prog 72 ir_rx_reader_again :=
  ⟨Go.Proofs.Try.f72, _, Go.Proofs.Try.func72, of_decide_eq_true (by kernel_rfl), rfl, rfl, ⟨by kernel_rfl, by kernel_rfl, of_decide_eq_true (by kernel_rfl), of_decide_eq_true (by kernel_rfl), by kernel_rfl⟩⟩
theorem fit_rx_bare : FitOne Go.Proofs.Try.prog 74 ir_rx_bare :=
  ⟨Go.Proofs.Try.f74, _, Go.Proofs.Try.func74, of_decide_eq_true (by kernel_rfl), rfl, rfl, ⟨by kernel_rfl, by kernel_rfl, of_decide_eq_true (by kernel_rfl), of_decide_eq_true (by kernel_rfl), by kernel_rfl⟩⟩
theorem fit_strings_IndexByte : FitOne Go.Proofs.Try.prog 78 ir_strings_IndexByte :=
  ⟨Go.Proofs.Try.f78, _, Go.Proofs.Try.func78, of_decide_eq_true (by kernel_rfl), rfl, rfl, ⟨by kernel_rfl, by kernel_rfl, of_decide_eq_true (by kernel_rfl), of_decide_eq_true (by kernel_rfl), by kernel_rfl⟩⟩
theorem fit_rx_reader_op : FitOne Go.Proofs.Try.prog 92 ir_rx_reader_op :=
  ⟨Go.Proofs.Try.f92, _, Go.Proofs.Try.func92, of_decide_eq_true (by kernel_rfl), rfl, rfl, ⟨by kernel_rfl, by kernel_rfl, of_decide_eq_true (by kernel_rfl), of_decide_eq_true (by kernel_rfl), by kernel_rfl⟩⟩
theorem fit_rx_reader_bracket : FitOne Go.Proofs.Try.prog 94 ir_rx_reader_bracket :=
  ⟨Go.Proofs.Try.f94, _, Go.Proofs.Try.func94, of_decide_eq_true (by kernel_rfl), rfl, rfl, ⟨by kernel_rfl, by kernel_rfl, of_decide_eq_true (by kernel_rfl), of_decide_eq_true (by kernel_rfl), by kernel_rfl⟩⟩
theorem fit_rx_reader_stops : FitOne Go.Proofs.Try.prog 96 ir_rx_reader_stops :=
  ⟨Go.Proofs.Try.f96, _, Go.Proofs.Try.func96, of_decide_eq_true (by kernel_rfl), rfl, rfl, ⟨by kernel_rfl, by kernel_rfl, of_decide_eq_true (by kernel_rfl), of_decide_eq_true (by kernel_rfl), by kernel_rfl⟩⟩
theorem fit_rx_reader_behind : FitOne Go.Proofs.Try.prog 98 ir_rx_reader_behind :=
  ⟨Go.Proofs.Try.f98, _, Go.Proofs.Try.func98, of_decide_eq_true (by kernel_rfl), rfl, rfl, ⟨by kernel_rfl, by kernel_rfl, of_decide_eq_true (by kernel_rfl), of_decide_eq_true (by kernel_rfl), by kernel_rfl⟩⟩
theorem fit_strings_HasPrefix : FitOne Go.Proofs.Try.prog 100 ir_strings_HasPrefix :=
  ⟨Go.Proofs.Try.f100, _, Go.Proofs.Try.func100, of_decide_eq_true (by kernel_rfl), rfl, rfl, ⟨by kernel_rfl, by kernel_rfl, of_decide_eq_true (by kernel_rfl), of_decide_eq_true (by kernel_rfl), by kernel_rfl⟩⟩
theorem fit_rx_rep : FitOne Go.Proofs.Try.prog 102 ir_rx_rep :=
  ⟨Go.Proofs.Try.f102, _, Go.Proofs.Try.func102, of_decide_eq_true (by kernel_rfl), rfl, rfl, ⟨by kernel_rfl, by kernel_rfl, of_decide_eq_true (by kernel_rfl), of_decide_eq_true (by kernel_rfl), by kernel_rfl⟩⟩
theorem fit_bset_Join : FitOne Go.Proofs.Try.prog 115 ir_bset_Join :=
  ⟨Go.Proofs.Try.f115, _, Go.Proofs.Try.func115, of_decide_eq_true (by kernel_rfl), rfl, rfl, ⟨by kernel_rfl, by kernel_rfl, of_decide_eq_true (by kernel_rfl), of_decide_eq_true (by kernel_rfl), by kernel_rfl⟩⟩
theorem fit_rx_reader_some : FitOne Go.Proofs.Try.prog 117 ir_rx_reader_some :=
  ⟨Go.Proofs.Try.f117, _, Go.Proofs.Try.func117, of_decide_eq_true (by kernel_rfl), rfl, rfl, ⟨by kernel_rfl, by kernel_rfl, of_decide_eq_true (by kernel_rfl), of_decide_eq_true (by kernel_rfl), by kernel_rfl⟩⟩
theorem fit_rx_reader_number : FitOne Go.Proofs.Try.prog 119 ir_rx_reader_number :=
  ⟨Go.Proofs.Try.f119, _, Go.Proofs.Try.func119, of_decide_eq_true (by kernel_rfl), rfl, rfl, ⟨by kernel_rfl, by kernel_rfl, of_decide_eq_true (by kernel_rfl), of_decide_eq_true (by kernel_rfl), by kernel_rfl⟩⟩
theorem fit_slices_ContainsFunc_api_Rx_api_Rx : FitOne Go.Proofs.Try.prog 121 ir_slices_ContainsFunc_api_Rx_api_Rx :=
  ⟨Go.Proofs.Try.f121, _, Go.Proofs.Try.func121, of_decide_eq_true (by kernel_rfl), rfl, rfl, ⟨by kernel_rfl, by kernel_rfl, of_decide_eq_true (by kernel_rfl), of_decide_eq_true (by kernel_rfl), by kernel_rfl⟩⟩
theorem fit_slices_Contains_int_int : FitOne Go.Proofs.Try.prog 123 ir_slices_Contains_int_int :=
  ⟨Go.Proofs.Try.f123, _, Go.Proofs.Try.func123, of_decide_eq_true (by kernel_rfl), rfl, rfl, ⟨by kernel_rfl, by kernel_rfl, of_decide_eq_true (by kernel_rfl), of_decide_eq_true (by kernel_rfl), by kernel_rfl⟩⟩
theorem fit_bset_Range : FitOne Go.Proofs.Try.prog 129 ir_bset_Range :=
  ⟨Go.Proofs.Try.f129, _, Go.Proofs.Try.func129, of_decide_eq_true (by kernel_rfl), rfl, rfl, ⟨by kernel_rfl, by kernel_rfl, of_decide_eq_true (by kernel_rfl), of_decide_eq_true (by kernel_rfl), by kernel_rfl⟩⟩
theorem fit_slices_Index_int_int : FitOne Go.Proofs.Try.prog 131 ir_slices_Index_int_int :=
  ⟨Go.Proofs.Try.f131, _, Go.Proofs.Try.func131, of_decide_eq_true (by kernel_rfl), rfl, rfl, ⟨by kernel_rfl, by kernel_rfl, of_decide_eq_true (by kernel_rfl), of_decide_eq_true (by kernel_rfl), by kernel_rfl⟩⟩
end Gv

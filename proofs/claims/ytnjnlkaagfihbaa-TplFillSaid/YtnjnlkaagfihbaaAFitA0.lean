/- A part of the proof of the statement that the last text of this claim closes; no condition. -/
import Derived.Test.YtnjnlkaagfihbaaABridge
import Derived.Test.YtnjnlkaagfihbaaAIrAp1
import Derived.Test.YtnjnlkaagfihbaaChecked
set_option linter.all false
namespace Gv
open Go
set_option maxRecDepth 100000
theorem fit_glosslaw7_TplFill : FitOne Go.Proofs.Try.prog 7 ir_glosslaw7_TplFill :=
  ⟨Go.Proofs.Try.f7, _, Go.Proofs.Try.func7, of_decide_eq_true (by kernel_rfl), rfl, rfl, ⟨by kernel_rfl, by kernel_rfl, of_decide_eq_true (by kernel_rfl), of_decide_eq_true (by kernel_rfl), by kernel_rfl⟩⟩
theorem fit_bset_Of : FitOne Go.Proofs.Try.prog 15 ir_bset_Of :=
  ⟨Go.Proofs.Try.f15, _, Go.Proofs.Try.func15, of_decide_eq_true (by kernel_rfl), rfl, rfl, ⟨by kernel_rfl, by kernel_rfl, of_decide_eq_true (by kernel_rfl), of_decide_eq_true (by kernel_rfl), by kernel_rfl⟩⟩
theorem fit_rx_Parse : FitOne Go.Proofs.Try.prog 20 ir_rx_Parse :=
  ⟨Go.Proofs.Try.f20, _, Go.Proofs.Try.func20, of_decide_eq_true (by kernel_rfl), rfl, rfl, ⟨by kernel_rfl, by kernel_rfl, of_decide_eq_true (by kernel_rfl), of_decide_eq_true (by kernel_rfl), by kernel_rfl⟩⟩
theorem fit_glosslaw7_TplRuns : FitOne Go.Proofs.Try.prog 23 ir_glosslaw7_TplRuns :=
  ⟨Go.Proofs.Try.f23, _, Go.Proofs.Try.func23, of_decide_eq_true (by kernel_rfl), rfl, rfl, ⟨by kernel_rfl, by kernel_rfl, of_decide_eq_true (by kernel_rfl), of_decide_eq_true (by kernel_rfl), by kernel_rfl⟩⟩
theorem fit_glosskeep_Tpl_Tpl : FitOne Go.Proofs.Try.prog 25 ir_glosskeep_Tpl_Tpl :=
  ⟨Go.Proofs.Try.f25, _, Go.Proofs.Try.func25, of_decide_eq_true (by kernel_rfl), rfl, rfl, ⟨by kernel_rfl, by kernel_rfl, of_decide_eq_true (by kernel_rfl), of_decide_eq_true (by kernel_rfl), by kernel_rfl⟩⟩
theorem fit_tpl_Fill : FitOne Go.Proofs.Try.prog 27 ir_tpl_Fill :=
  ⟨Go.Proofs.Try.f27, _, Go.Proofs.Try.func27, of_decide_eq_true (by kernel_rfl), rfl, rfl, ⟨by kernel_rfl, by kernel_rfl, of_decide_eq_true (by kernel_rfl), of_decide_eq_true (by kernel_rfl), by kernel_rfl⟩⟩
theorem fit_bset_Not : FitOne Go.Proofs.Try.prog 31 ir_bset_Not :=
  ⟨Go.Proofs.Try.f31, _, Go.Proofs.Try.func31, of_decide_eq_true (by kernel_rfl), rfl, rfl, ⟨by kernel_rfl, by kernel_rfl, of_decide_eq_true (by kernel_rfl), of_decide_eq_true (by kernel_rfl), by kernel_rfl⟩⟩
theorem fit_find_First : FitOne Go.Proofs.Try.prog 35 ir_find_First :=
  ⟨Go.Proofs.Try.f35, _, Go.Proofs.Try.func35, of_decide_eq_true (by kernel_rfl), rfl, rfl, ⟨by kernel_rfl, by kernel_rfl, of_decide_eq_true (by kernel_rfl), of_decide_eq_true (by kernel_rfl), by kernel_rfl⟩⟩
theorem fit_rx_reader_alt : FitOne Go.Proofs.Try.prog 37 ir_rx_reader_alt :=
  ⟨Go.Proofs.Try.f37, _, Go.Proofs.Try.func37, of_decide_eq_true (by kernel_rfl), rfl, rfl, ⟨by kernel_rfl, by kernel_rfl, of_decide_eq_true (by kernel_rfl), of_decide_eq_true (by kernel_rfl), by kernel_rfl⟩⟩
theorem fit_rx_Nodes : FitOne Go.Proofs.Try.prog 39 ir_rx_Nodes :=
  ⟨Go.Proofs.Try.f39, _, Go.Proofs.Try.func39, of_decide_eq_true (by kernel_rfl), rfl, rfl, ⟨by kernel_rfl, by kernel_rfl, of_decide_eq_true (by kernel_rfl), of_decide_eq_true (by kernel_rfl), by kernel_rfl⟩⟩
theorem fit_strings_Builder_WriteString : FitOne Go.Proofs.Try.prog 42 ir_strings_Builder_WriteString :=
  ⟨Go.Proofs.Try.f42, _, Go.Proofs.Try.func42, of_decide_eq_true (by kernel_rfl), rfl, rfl, ⟨by kernel_rfl, by kernel_rfl, of_decide_eq_true (by kernel_rfl), of_decide_eq_true (by kernel_rfl), by kernel_rfl⟩⟩
theorem fit_strings_Builder_String : FitOne Go.Proofs.Try.prog 44 ir_strings_Builder_String :=
  ⟨Go.Proofs.Try.f44, _, Go.Proofs.Try.func44, of_decide_eq_true (by kernel_rfl), rfl, rfl, ⟨by kernel_rfl, by kernel_rfl, of_decide_eq_true (by kernel_rfl), of_decide_eq_true (by kernel_rfl), by kernel_rfl⟩⟩
theorem fit_way_text_ways : FitOne Go.Proofs.Try.prog 49 ir_way_text_ways :=
  ⟨Go.Proofs.Try.f49, _, Go.Proofs.Try.func49, of_decide_eq_true (by kernel_rfl), rfl, rfl, ⟨by kernel_rfl, by kernel_rfl, of_decide_eq_true (by kernel_rfl), of_decide_eq_true (by kernel_rfl), by kernel_rfl⟩⟩
theorem fit_rx_reader_took : FitOne Go.Proofs.Try.prog 51 ir_rx_reader_took :=
  ⟨Go.Proofs.Try.f51, _, Go.Proofs.Try.func51, of_decide_eq_true (by kernel_rfl), rfl, rfl, ⟨by kernel_rfl, by kernel_rfl, of_decide_eq_true (by kernel_rfl), of_decide_eq_true (by kernel_rfl), by kernel_rfl⟩⟩
theorem fit_rx_walker_walk : FitOne Go.Proofs.Try.prog 53 ir_rx_walker_walk :=
  ⟨Go.Proofs.Try.f53, _, Go.Proofs.Try.func53, of_decide_eq_true (by kernel_rfl), rfl, rfl, ⟨by kernel_rfl, by kernel_rfl, of_decide_eq_true (by kernel_rfl), of_decide_eq_true (by kernel_rfl), by kernel_rfl⟩⟩
theorem fit_tpl_one : FitOne Go.Proofs.Try.prog 57 ir_tpl_one :=
  ⟨Go.Proofs.Try.f57, _, Go.Proofs.Try.func57, of_decide_eq_true (by kernel_rfl), rfl, rfl, ⟨by kernel_rfl, by kernel_rfl, of_decide_eq_true (by kernel_rfl), of_decide_eq_true (by kernel_rfl), by kernel_rfl⟩⟩
theorem fit_way_text_back : FitOne Go.Proofs.Try.prog 63 ir_way_text_back :=
  ⟨Go.Proofs.Try.f63, _, Go.Proofs.Try.func63, of_decide_eq_true (by kernel_rfl), rfl, rfl, ⟨by kernel_rfl, by kernel_rfl, of_decide_eq_true (by kernel_rfl), of_decide_eq_true (by kernel_rfl), by kernel_rfl⟩⟩
theorem fit_way_row_add : FitOne Go.Proofs.Try.prog 65 ir_way_row_add :=
  ⟨Go.Proofs.Try.f65, _, Go.Proofs.Try.func65, of_decide_eq_true (by kernel_rfl), rfl, rfl, ⟨by kernel_rfl, by kernel_rfl, of_decide_eq_true (by kernel_rfl), of_decide_eq_true (by kernel_rfl), by kernel_rfl⟩⟩
theorem fit_way_repeater_on : FitOne Go.Proofs.Try.prog 67 ir_way_repeater_on :=
  ⟨Go.Proofs.Try.f67, _, Go.Proofs.Try.func67, of_decide_eq_true (by kernel_rfl), rfl, rfl, ⟨by kernel_rfl, by kernel_rfl, of_decide_eq_true (by kernel_rfl), of_decide_eq_true (by kernel_rfl), by kernel_rfl⟩⟩
theorem fit_rx_reader_atom : FitOne Go.Proofs.Try.prog 69 ir_rx_reader_atom :=
  ⟨Go.Proofs.Try.f69, _, Go.Proofs.Try.func69, of_decide_eq_true (by kernel_rfl), rfl, rfl, ⟨by kernel_rfl, by kernel_rfl, of_decide_eq_true (by kernel_rfl), of_decide_eq_true (by kernel_rfl), by kernel_rfl⟩⟩
theorem fit_slices_Clone_api_Rx_api_Rx : FitOne Go.Proofs.Try.prog 71 ir_slices_Clone_api_Rx_api_Rx :=
  ⟨Go.Proofs.Try.f71, _, Go.Proofs.Try.func71, of_decide_eq_true (by kernel_rfl), rfl, rfl, ⟨by kernel_rfl, by kernel_rfl, of_decide_eq_true (by kernel_rfl), of_decide_eq_true (by kernel_rfl), by kernel_rfl⟩⟩
theorem fit_rx_reader_is : FitOne Go.Proofs.Try.prog 73 ir_rx_reader_is :=
  ⟨Go.Proofs.Try.f73, _, Go.Proofs.Try.func73, of_decide_eq_true (by kernel_rfl), rfl, rfl, ⟨by kernel_rfl, by kernel_rfl, of_decide_eq_true (by kernel_rfl), of_decide_eq_true (by kernel_rfl), by kernel_rfl⟩⟩
theorem fit_rx_kids : FitOne Go.Proofs.Try.prog 75 ir_rx_kids :=
  ⟨Go.Proofs.Try.f75, _, Go.Proofs.Try.func75, of_decide_eq_true (by kernel_rfl), rfl, rfl, ⟨by kernel_rfl, by kernel_rfl, of_decide_eq_true (by kernel_rfl), of_decide_eq_true (by kernel_rfl), by kernel_rfl⟩⟩
theorem fit_way_repeater_key : FitOne Go.Proofs.Try.prog 91 ir_way_repeater_key :=
  ⟨Go.Proofs.Try.f91, _, Go.Proofs.Try.func91, of_decide_eq_true (by kernel_rfl), rfl, rfl, ⟨by kernel_rfl, by kernel_rfl, of_decide_eq_true (by kernel_rfl), of_decide_eq_true (by kernel_rfl), by kernel_rfl⟩⟩
theorem fit_rx_reader_group : FitOne Go.Proofs.Try.prog 93 ir_rx_reader_group :=
  ⟨Go.Proofs.Try.f93, _, Go.Proofs.Try.func93, of_decide_eq_true (by kernel_rfl), rfl, rfl, ⟨by kernel_rfl, by kernel_rfl, of_decide_eq_true (by kernel_rfl), of_decide_eq_true (by kernel_rfl), by kernel_rfl⟩⟩
theorem fit_rx_reader_begins : FitOne Go.Proofs.Try.prog 95 ir_rx_reader_begins :=
  ⟨Go.Proofs.Try.f95, _, Go.Proofs.Try.func95, of_decide_eq_true (by kernel_rfl), rfl, rfl, ⟨by kernel_rfl, by kernel_rfl, of_decide_eq_true (by kernel_rfl), of_decide_eq_true (by kernel_rfl), by kernel_rfl⟩⟩
theorem fit_rx_reader_one : FitOne Go.Proofs.Try.prog 97 ir_rx_reader_one :=
  ⟨Go.Proofs.Try.f97, _, Go.Proofs.Try.func97, of_decide_eq_true (by kernel_rfl), rfl, rfl, ⟨by kernel_rfl, by kernel_rfl, of_decide_eq_true (by kernel_rfl), of_decide_eq_true (by kernel_rfl), by kernel_rfl⟩⟩
theorem fit_rx_reader_interval : FitOne Go.Proofs.Try.prog 99 ir_rx_reader_interval :=
  ⟨Go.Proofs.Try.f99, _, Go.Proofs.Try.func99, of_decide_eq_true (by kernel_rfl), rfl, rfl, ⟨by kernel_rfl, by kernel_rfl, of_decide_eq_true (by kernel_rfl), of_decide_eq_true (by kernel_rfl), by kernel_rfl⟩⟩
theorem fit_rx_has : FitOne Go.Proofs.Try.prog 101 ir_rx_has :=
  ⟨Go.Proofs.Try.f101, _, Go.Proofs.Try.func101, of_decide_eq_true (by kernel_rfl), rfl, rfl, ⟨by kernel_rfl, by kernel_rfl, of_decide_eq_true (by kernel_rfl), of_decide_eq_true (by kernel_rfl), by kernel_rfl⟩⟩
theorem fit_internal_stringslite_IndexByte : FitOne Go.Proofs.Try.prog 104 ir_internal_stringslite_IndexByte :=
  ⟨Go.Proofs.Try.f104, _, Go.Proofs.Try.func104, of_decide_eq_true (by kernel_rfl), rfl, rfl, ⟨by kernel_rfl, by kernel_rfl, of_decide_eq_true (by kernel_rfl), of_decide_eq_true (by kernel_rfl), by kernel_rfl⟩⟩
theorem fit_rx_reader_class : FitOne Go.Proofs.Try.prog 116 ir_rx_reader_class :=
  ⟨Go.Proofs.Try.f116, _, Go.Proofs.Try.func116, of_decide_eq_true (by kernel_rfl), rfl, rfl, ⟨by kernel_rfl, by kernel_rfl, of_decide_eq_true (by kernel_rfl), of_decide_eq_true (by kernel_rfl), by kernel_rfl⟩⟩
theorem fit_rx_escaped : FitOne Go.Proofs.Try.prog 118 ir_rx_escaped :=
  ⟨Go.Proofs.Try.f118, _, Go.Proofs.Try.func118, of_decide_eq_true (by kernel_rfl), rfl, rfl, ⟨by kernel_rfl, by kernel_rfl, of_decide_eq_true (by kernel_rfl), of_decide_eq_true (by kernel_rfl), by kernel_rfl⟩⟩
theorem fit_internal_stringslite_HasPrefix : FitOne Go.Proofs.Try.prog 120 ir_internal_stringslite_HasPrefix :=
  ⟨Go.Proofs.Try.f120, _, Go.Proofs.Try.func120, of_decide_eq_true (by kernel_rfl), rfl, rfl, ⟨by kernel_rfl, by kernel_rfl, of_decide_eq_true (by kernel_rfl), of_decide_eq_true (by kernel_rfl), by kernel_rfl⟩⟩
theorem fit_rx_has_1 : FitOne Go.Proofs.Try.prog 122 ir_rx_has_1 :=
  ⟨Go.Proofs.Try.f122, _, Go.Proofs.Try.func122, of_decide_eq_true (by kernel_rfl), rfl, rfl, ⟨by kernel_rfl, by kernel_rfl, of_decide_eq_true (by kernel_rfl), of_decide_eq_true (by kernel_rfl), by kernel_rfl⟩⟩
theorem fit_bset_Class : FitOne Go.Proofs.Try.prog 128 ir_bset_Class :=
  ⟨Go.Proofs.Try.f128, _, Go.Proofs.Try.func128, of_decide_eq_true (by kernel_rfl), rfl, rfl, ⟨by kernel_rfl, by kernel_rfl, of_decide_eq_true (by kernel_rfl), of_decide_eq_true (by kernel_rfl), by kernel_rfl⟩⟩
theorem fit_slices_IndexFunc_api_Rx_api_Rx : FitOne Go.Proofs.Try.prog 130 ir_slices_IndexFunc_api_Rx_api_Rx :=
  ⟨Go.Proofs.Try.f130, _, Go.Proofs.Try.func130, of_decide_eq_true (by kernel_rfl), rfl, rfl, ⟨by kernel_rfl, by kernel_rfl, of_decide_eq_true (by kernel_rfl), of_decide_eq_true (by kernel_rfl), by kernel_rfl⟩⟩
theorem fit_bset_less : FitOne Go.Proofs.Try.prog 133 ir_bset_less :=
  ⟨Go.Proofs.Try.f133, _, Go.Proofs.Try.func133, of_decide_eq_true (by kernel_rfl), rfl, rfl, ⟨by kernel_rfl, by kernel_rfl, of_decide_eq_true (by kernel_rfl), of_decide_eq_true (by kernel_rfl), by kernel_rfl⟩⟩
end Gv

/- A part of the proof of the statement that the last text of this claim closes; no condition. -/
import Derived.Test.YtnjnlkaagfihbaaAFitA0
import Derived.Test.YtnjnlkaagfihbaaAFitA1
set_option linter.all false
namespace Gv
open Go
set_option maxRecDepth 100000
theorem fitAll : FitAll Go.Proofs.Try.prog 0 irs :=
  FitAll.n <|
  FitAll.n <|
  FitAll.n <|
  FitAll.n <|
  FitAll.n <|
  FitAll.n <|
  FitAll.n <|
  FitAll.s fit_glosslaw7_TplFill <|
  FitAll.n <|
  FitAll.n <|
  FitAll.n <|
  FitAll.n <|
  FitAll.n <|
  FitAll.n <|
  FitAll.s fit_glosskeep_Text <|
  FitAll.s fit_bset_Of <|
  FitAll.s fit_find_All <|
  FitAll.n <|
  FitAll.n <|
  FitAll.n <|
  FitAll.s fit_rx_Parse <|
  FitAll.n <|
  FitAll.s fit_tpl_Subst <|
  FitAll.s fit_glosslaw7_TplRuns <|
  FitAll.s fit_glossbook_Within <|
  FitAll.s fit_glosskeep_Tpl_Tpl <|
  FitAll.s fit_find_Group <|
  FitAll.s fit_tpl_Fill <|
  FitAll.s fit_tpl_Right <|
  FitAll.n <|
  FitAll.n <|
  FitAll.s fit_bset_Not <|
  FitAll.n <|
  FitAll.s fit_way_Ways <|
  FitAll.n <|
  FitAll.s fit_find_First <|
  FitAll.s fit_way_None <|
  FitAll.s fit_rx_reader_alt <|
  FitAll.s fit_rx_reader_fail <|
  FitAll.s fit_rx_Nodes <|
  FitAll.s fit_rx_Right <|
  FitAll.n <|
  FitAll.s fit_strings_Builder_WriteString <|
  FitAll.s fit_strings_Builder_Len <|
  FitAll.s fit_strings_Builder_String <|
  FitAll.s fit_tpl_Parse <|
  FitAll.n <|
  FitAll.n <|
  FitAll.n <|
  FitAll.s fit_way_text_ways <|
  FitAll.s fit_rx_reader_cat <|
  FitAll.s fit_rx_reader_took <|
  FitAll.s fit_rx_walker_anchors <|
  FitAll.s fit_rx_walker_walk <|
  FitAll.n <|
  FitAll.n <|
  FitAll.s fit_strings_Builder_copyCheck <|
  FitAll.s fit_tpl_one <|
  FitAll.n <|
  FitAll.n <|
  FitAll.n <|
  FitAll.n <|
  FitAll.s fit_bset_Has <|
  FitAll.s fit_way_text_back <|
  FitAll.s fit_way_newRow <|
  FitAll.s fit_way_row_add <|
  FitAll.s fit_way_text_from <|
  FitAll.s fit_way_repeater_on <|
  FitAll.s fit_rx_reader_ends <|
  FitAll.s fit_rx_reader_atom <|
  FitAll.s fit_rx_reader_star <|
  FitAll.s fit_slices_Clone_api_Rx_api_Rx <|
  FitAll.s fit_rx_reader_again <|
  FitAll.s fit_rx_reader_is <|
  FitAll.s fit_rx_bare <|
  FitAll.s fit_rx_kids <|
  FitAll.n <|
  FitAll.n <|
  FitAll.s fit_strings_IndexByte <|
  FitAll.n <|
  FitAll.n <|
  FitAll.n <|
  FitAll.n <|
  FitAll.n <|
  FitAll.n <|
  FitAll.n <|
  FitAll.n <|
  FitAll.n <|
  FitAll.n <|
  FitAll.n <|
  FitAll.n <|
  FitAll.s fit_way_repeater_key <|
  FitAll.s fit_rx_reader_op <|
  FitAll.s fit_rx_reader_group <|
  FitAll.s fit_rx_reader_bracket <|
  FitAll.s fit_rx_reader_begins <|
  FitAll.s fit_rx_reader_stops <|
  FitAll.s fit_rx_reader_one <|
  FitAll.s fit_rx_reader_behind <|
  FitAll.s fit_rx_reader_interval <|
  FitAll.s fit_strings_HasPrefix <|
  FitAll.s fit_rx_has <|
  FitAll.s fit_rx_rep <|
  FitAll.n <|
  FitAll.s fit_internal_stringslite_IndexByte <|
  FitAll.n <|
  FitAll.n <|
  FitAll.n <|
  FitAll.n <|
  FitAll.n <|
  FitAll.n <|
  FitAll.n <|
  FitAll.n <|
  FitAll.n <|
  FitAll.n <|
  FitAll.s fit_bset_Join <|
  FitAll.s fit_rx_reader_class <|
  FitAll.s fit_rx_reader_some <|
  FitAll.s fit_rx_escaped <|
  FitAll.s fit_rx_reader_number <|
  FitAll.s fit_internal_stringslite_HasPrefix <|
  FitAll.s fit_slices_ContainsFunc_api_Rx_api_Rx <|
  FitAll.s fit_rx_has_1 <|
  FitAll.s fit_slices_Contains_int_int <|
  FitAll.n <|
  FitAll.n <|
  FitAll.n <|
  FitAll.n <|
  FitAll.s fit_bset_Class <|
  FitAll.s fit_bset_Range <|
  FitAll.s fit_slices_IndexFunc_api_Rx_api_Rx <|
  FitAll.s fit_slices_Index_int_int <|
  FitAll.n <|
  FitAll.s fit_bset_less <|
  FitAll.n <|
  FitAll.n <|
  FitAll.n <|
  FitAll.n <|
  FitAll.n <|
  FitAll.n <|
  FitAll.n <|
  FitAll.n <|
  FitAll.n <|
  FitAll.n <|
  FitAll.n <|
  FitAll.n <|
  FitAll.n <|
  FitAll.n <|
  FitAll.n <|
  FitAll.n <|
  FitAll.n <|
  FitAll.n <|
  FitAll.n <|
  FitAll.n <|
  FitAll.n <|
  FitAll.n <|
  trivial
theorem nth_get : ∀ (l : List (Option VFn)) (f : Nat) (v : VFn), nth l f = some v → l[f]? = some (some v)
  | [], _, _, h => by cases h
  | x :: l, 0, v, h => by simp only [nth] at h; simp [h]
  | x :: l, n + 1, v, h => by simp only [nth] at h; simpa using nth_get l n v h
theorem fits : Fits Go.Proofs.Try.prog F := fits_of (nth_get irs) fitAll
theorem runs : ∀ f fn, F f = some fn → fn.mode.runs = true := FitAll.runs (nth_get irs) fitAll
theorem mixed : Go.Proofs.Try.prog.follows .mixedOrders = true := by kernel_rfl
end Gv

/- the types' facts, printed by wip/tools/seat.py -/
import Derived.Test.YtckjoghpknalcaaGreatDoorA7
import Derived.Test.YtckjoghpknalcaaGreatDoorProg
set_option linter.unusedVariables false
set_option linter.unusedSimpArgs false
set_option linter.unnecessarySimpa false
namespace Go.Ab
@[go_sem] theorem ty_cells_1 : tcells Go.Proofs.Tryz.prog 1 = 1 := by kernel_rfl
@[go_sem] theorem ty_bytes_1 : tbytes Go.Proofs.Tryz.prog 1 = 8 := by kernel_rfl
@[go_sem] theorem ty_agg_1 : tagg Go.Proofs.Tryz.prog 1 = some false := by kernel_rfl
@[go_sem] theorem ty_elem_1 : elemT Go.Proofs.Tryz.prog 1 = none := by kernel_rfl
@[go_sem] theorem ty_str_1 : strT Go.Proofs.Tryz.prog 1 = false := by kernel_rfl
@[go_sem] theorem ty_zero_1 : tzero Go.Proofs.Tryz.prog 1 = some (.nf) := by kernel_rfl
@[go_sem] theorem ty_cells_2 : tcells Go.Proofs.Tryz.prog 2 = 1 := by kernel_rfl
@[go_sem] theorem ty_bytes_2 : tbytes Go.Proofs.Tryz.prog 2 = 8 := by kernel_rfl
@[go_sem] theorem ty_agg_2 : tagg Go.Proofs.Tryz.prog 2 = some false := by kernel_rfl
@[go_sem] theorem ty_elem_2 : elemT Go.Proofs.Tryz.prog 2 = none := by kernel_rfl
@[go_sem] theorem ty_str_2 : strT Go.Proofs.Tryz.prog 2 = false := by kernel_rfl
@[go_sem] theorem ty_int_2 : intT Go.Proofs.Tryz.prog 2 = some .i64 := by kernel_rfl
@[go_sem] theorem ty_zero_2 : tzero Go.Proofs.Tryz.prog 2 = some (.d (.int .i64 0)) := by kernel_rfl
@[go_sem] theorem ty_cells_3 : tcells Go.Proofs.Tryz.prog 3 = 1 := by kernel_rfl
@[go_sem] theorem ty_bytes_3 : tbytes Go.Proofs.Tryz.prog 3 = 8 := by kernel_rfl
@[go_sem] theorem ty_agg_3 : tagg Go.Proofs.Tryz.prog 3 = some false := by kernel_rfl
@[go_sem] theorem ty_elem_3 : elemT Go.Proofs.Tryz.prog 3 = none := by kernel_rfl
@[go_sem] theorem ty_str_3 : strT Go.Proofs.Tryz.prog 3 = false := by kernel_rfl
@[go_sem] theorem ty_int_3 : intT Go.Proofs.Tryz.prog 3 = some .i64 := by kernel_rfl
@[go_sem] theorem ty_zero_3 : tzero Go.Proofs.Tryz.prog 3 = some (.d (.int .i64 0)) := by kernel_rfl
@[go_sem] theorem ty_cells_4 : tcells Go.Proofs.Tryz.prog 4 = 1 := by kernel_rfl
@[go_sem] theorem ty_bytes_4 : tbytes Go.Proofs.Tryz.prog 4 = 1 := by kernel_rfl
@[go_sem] theorem ty_agg_4 : tagg Go.Proofs.Tryz.prog 4 = some false := by kernel_rfl
@[go_sem] theorem ty_elem_4 : elemT Go.Proofs.Tryz.prog 4 = none := by kernel_rfl
@[go_sem] theorem ty_str_4 : strT Go.Proofs.Tryz.prog 4 = false := by kernel_rfl
@[go_sem] theorem ty_zone_4 : zone Go.Proofs.Tryz.prog 4 = true := by kernel_rfl
@[go_sem] theorem ty_zero_4 : tzero Go.Proofs.Tryz.prog 4 = some (.d (.bool false)) := by kernel_rfl
@[go_sem] theorem ty_cells_5 : tcells Go.Proofs.Tryz.prog 5 = 1 := by kernel_rfl
@[go_sem] theorem ty_bytes_5 : tbytes Go.Proofs.Tryz.prog 5 = 1 := by kernel_rfl
@[go_sem] theorem ty_agg_5 : tagg Go.Proofs.Tryz.prog 5 = some false := by kernel_rfl
@[go_sem] theorem ty_elem_5 : elemT Go.Proofs.Tryz.prog 5 = none := by kernel_rfl
@[go_sem] theorem ty_str_5 : strT Go.Proofs.Tryz.prog 5 = false := by kernel_rfl
@[go_sem] theorem ty_int_5 : intT Go.Proofs.Tryz.prog 5 = some .u8 := by kernel_rfl
@[go_sem] theorem ty_zero_5 : tzero Go.Proofs.Tryz.prog 5 = some (.d (.int .u8 0)) := by kernel_rfl
@[go_sem] theorem ty_cells_7 : tcells Go.Proofs.Tryz.prog 7 = 4 := by kernel_rfl
@[go_sem] theorem ty_bytes_7 : tbytes Go.Proofs.Tryz.prog 7 = 24 := by kernel_rfl
@[go_sem] theorem ty_agg_7 : tagg Go.Proofs.Tryz.prog 7 = some true := by kernel_rfl
@[go_sem] theorem ty_elem_7 : elemT Go.Proofs.Tryz.prog 7 = none := by kernel_rfl
@[go_sem] theorem ty_str_7 : strT Go.Proofs.Tryz.prog 7 = false := by kernel_rfl
@[go_sem] theorem ty_f_7_0 : finfo Go.Proofs.Tryz.prog 7 0 = some (0, 2) := by kernel_rfl
@[go_sem] theorem ty_f_7_1 : finfo Go.Proofs.Tryz.prog 7 1 = some (1, 3) := by kernel_rfl
@[go_sem] theorem ty_f_7_2 : finfo Go.Proofs.Tryz.prog 7 2 = some (2, 4) := by kernel_rfl
@[go_sem] theorem ty_f_7_3 : finfo Go.Proofs.Tryz.prog 7 3 = some (3, 6) := by kernel_rfl
@[go_sem] theorem ty_places_7 : placesT Go.Proofs.Tryz.prog 7 = some [(0, 1), (1, 1), (2, 1), (3, 1)] := by kernel_rfl
@[go_sem] theorem ty_eqg_7 : eqG Go.Proofs.Tryz.prog 7 = true := by kernel_rfl
@[go_sem] theorem ty_zero_7 : tzero Go.Proofs.Tryz.prog 7 = some (.d (.agg [(.int .i64 0), (.int .i64 0), (.bool false), (.int .u8 0)])) := by kernel_rfl
@[go_sem] theorem ty_cells_9 : tcells Go.Proofs.Tryz.prog 9 = 1 := by kernel_rfl
@[go_sem] theorem ty_bytes_9 : tbytes Go.Proofs.Tryz.prog 9 = 16 := by kernel_rfl
@[go_sem] theorem ty_agg_9 : tagg Go.Proofs.Tryz.prog 9 = some false := by kernel_rfl
@[go_sem] theorem ty_elem_9 : elemT Go.Proofs.Tryz.prog 9 = none := by kernel_rfl
@[go_sem] theorem ty_str_9 : strT Go.Proofs.Tryz.prog 9 = true := by kernel_rfl
@[go_sem] theorem ty_elok_9 : elemOK Go.Proofs.Tryz.prog 9 = true := by kernel_rfl
@[go_sem] theorem ty_zero_9 : tzero Go.Proofs.Tryz.prog 9 = some (.d (.str ⟨#[]⟩)) := by kernel_rfl
@[go_sem] theorem ty_cells_12 : tcells Go.Proofs.Tryz.prog 12 = 1 := by kernel_rfl
@[go_sem] theorem ty_bytes_12 : tbytes Go.Proofs.Tryz.prog 12 = 8 := by kernel_rfl
@[go_sem] theorem ty_agg_12 : tagg Go.Proofs.Tryz.prog 12 = some false := by kernel_rfl
@[go_sem] theorem ty_elem_12 : elemT Go.Proofs.Tryz.prog 12 = none := by kernel_rfl
@[go_sem] theorem ty_str_12 : strT Go.Proofs.Tryz.prog 12 = false := by kernel_rfl
@[go_sem] theorem ty_int_12 : intT Go.Proofs.Tryz.prog 12 = some .u64 := by kernel_rfl
@[go_sem] theorem ty_zero_12 : tzero Go.Proofs.Tryz.prog 12 = some (.d (.int .u64 0)) := by kernel_rfl
@[go_sem] theorem ty_cells_13 : tcells Go.Proofs.Tryz.prog 13 = 2 := by kernel_rfl
@[go_sem] theorem ty_bytes_13 : tbytes Go.Proofs.Tryz.prog 13 = 24 := by kernel_rfl
@[go_sem] theorem ty_agg_13 : tagg Go.Proofs.Tryz.prog 13 = some true := by kernel_rfl
@[go_sem] theorem ty_elem_13 : elemT Go.Proofs.Tryz.prog 13 = none := by kernel_rfl
@[go_sem] theorem ty_str_13 : strT Go.Proofs.Tryz.prog 13 = false := by kernel_rfl
@[go_sem] theorem ty_f_13_0 : finfo Go.Proofs.Tryz.prog 13 0 = some (0, 9) := by kernel_rfl
@[go_sem] theorem ty_f_13_1 : finfo Go.Proofs.Tryz.prog 13 1 = some (1, 12) := by kernel_rfl
@[go_sem] theorem ty_places_13 : placesT Go.Proofs.Tryz.prog 13 = some [(0, 1), (1, 1)] := by kernel_rfl
@[go_sem] theorem ty_eqg_13 : eqG Go.Proofs.Tryz.prog 13 = true := by kernel_rfl
@[go_sem] theorem ty_zero_13 : tzero Go.Proofs.Tryz.prog 13 = some (.d (.agg [(.str ⟨#[]⟩), (.int .u64 0)])) := by kernel_rfl
@[go_sem] theorem ty_cells_18 : tcells Go.Proofs.Tryz.prog 18 = 1 := by kernel_rfl
@[go_sem] theorem ty_bytes_18 : tbytes Go.Proofs.Tryz.prog 18 = 8 := by kernel_rfl
@[go_sem] theorem ty_agg_18 : tagg Go.Proofs.Tryz.prog 18 = some true := by kernel_rfl
@[go_sem] theorem ty_elem_18 : elemT Go.Proofs.Tryz.prog 18 = none := by kernel_rfl
@[go_sem] theorem ty_str_18 : strT Go.Proofs.Tryz.prog 18 = false := by kernel_rfl
@[go_sem] theorem ty_f_18_0 : finfo Go.Proofs.Tryz.prog 18 0 = some (0, 17) := by kernel_rfl
@[go_sem] theorem ty_places_18 : placesT Go.Proofs.Tryz.prog 18 = some [(0, 1)] := by kernel_rfl
@[go_sem] theorem ty_zero_18 : tzero Go.Proofs.Tryz.prog 18 = some (.agg [.np]) := by kernel_rfl
@[go_sem] theorem ty_cells_21 : tcells Go.Proofs.Tryz.prog 21 = 1 := by kernel_rfl
@[go_sem] theorem ty_bytes_21 : tbytes Go.Proofs.Tryz.prog 21 = 4 := by kernel_rfl
@[go_sem] theorem ty_agg_21 : tagg Go.Proofs.Tryz.prog 21 = some false := by kernel_rfl
@[go_sem] theorem ty_elem_21 : elemT Go.Proofs.Tryz.prog 21 = none := by kernel_rfl
@[go_sem] theorem ty_str_21 : strT Go.Proofs.Tryz.prog 21 = false := by kernel_rfl
@[go_sem] theorem ty_int_21 : intT Go.Proofs.Tryz.prog 21 = some .i32 := by kernel_rfl
@[go_sem] theorem ty_zero_21 : tzero Go.Proofs.Tryz.prog 21 = some (.d (.int .i32 0)) := by kernel_rfl
@[go_sem] theorem ty_cells_22 : tcells Go.Proofs.Tryz.prog 22 = 1 := by kernel_rfl
@[go_sem] theorem ty_bytes_22 : tbytes Go.Proofs.Tryz.prog 22 = 24 := by kernel_rfl
@[go_sem] theorem ty_agg_22 : tagg Go.Proofs.Tryz.prog 22 = some false := by kernel_rfl
@[go_sem] theorem ty_elem_22 : elemT Go.Proofs.Tryz.prog 22 = some 62 := by kernel_rfl
@[go_sem] theorem ty_elok_22 : elemOK Go.Proofs.Tryz.prog 22 = true := by kernel_rfl
@[go_sem] theorem ty_str_22 : strT Go.Proofs.Tryz.prog 22 = false := by kernel_rfl
@[go_sem] theorem ty_zero_22 : tzero Go.Proofs.Tryz.prog 22 = some (.nils) := by kernel_rfl
@[go_sem] theorem ty_cells_23 : tcells Go.Proofs.Tryz.prog 23 = 1 := by kernel_rfl
@[go_sem] theorem ty_bytes_23 : tbytes Go.Proofs.Tryz.prog 23 = 8 := by kernel_rfl
@[go_sem] theorem ty_agg_23 : tagg Go.Proofs.Tryz.prog 23 = some false := by kernel_rfl
@[go_sem] theorem ty_elem_23 : elemT Go.Proofs.Tryz.prog 23 = none := by kernel_rfl
@[go_sem] theorem ty_str_23 : strT Go.Proofs.Tryz.prog 23 = false := by kernel_rfl
@[go_sem] theorem ty_zero_23 : tzero Go.Proofs.Tryz.prog 23 = some (.nf) := by kernel_rfl
@[go_sem] theorem ty_cells_24 : tcells Go.Proofs.Tryz.prog 24 = 1 := by kernel_rfl
@[go_sem] theorem ty_bytes_24 : tbytes Go.Proofs.Tryz.prog 24 = 8 := by kernel_rfl
@[go_sem] theorem ty_agg_24 : tagg Go.Proofs.Tryz.prog 24 = some false := by kernel_rfl
@[go_sem] theorem ty_elem_24 : elemT Go.Proofs.Tryz.prog 24 = none := by kernel_rfl
@[go_sem] theorem ty_str_24 : strT Go.Proofs.Tryz.prog 24 = false := by kernel_rfl
@[go_sem] theorem ty_zero_24 : tzero Go.Proofs.Tryz.prog 24 = some (.nf) := by kernel_rfl
@[go_sem] theorem ty_cells_25 : tcells Go.Proofs.Tryz.prog 25 = 3 := by kernel_rfl
@[go_sem] theorem ty_bytes_25 : tbytes Go.Proofs.Tryz.prog 25 = 24 := by kernel_rfl
@[go_sem] theorem ty_agg_25 : tagg Go.Proofs.Tryz.prog 25 = some true := by kernel_rfl
@[go_sem] theorem ty_elem_25 : elemT Go.Proofs.Tryz.prog 25 = none := by kernel_rfl
@[go_sem] theorem ty_str_25 : strT Go.Proofs.Tryz.prog 25 = false := by kernel_rfl
@[go_sem] theorem ty_f_25_0 : finfo Go.Proofs.Tryz.prog 25 0 = some (0, 3) := by kernel_rfl
@[go_sem] theorem ty_f_25_1 : finfo Go.Proofs.Tryz.prog 25 1 = some (1, 3) := by kernel_rfl
@[go_sem] theorem ty_f_25_2 : finfo Go.Proofs.Tryz.prog 25 2 = some (2, 3) := by kernel_rfl
@[go_sem] theorem ty_places_25 : placesT Go.Proofs.Tryz.prog 25 = some [(0, 1), (1, 1), (2, 1)] := by kernel_rfl
@[go_sem] theorem ty_eqg_25 : eqG Go.Proofs.Tryz.prog 25 = true := by kernel_rfl
@[go_sem] theorem ty_zero_25 : tzero Go.Proofs.Tryz.prog 25 = some (.d (.agg [(.int .i64 0), (.int .i64 0), (.int .i64 0)])) := by kernel_rfl
@[go_sem] theorem ty_cells_26 : tcells Go.Proofs.Tryz.prog 26 = 3 := by kernel_rfl
@[go_sem] theorem ty_bytes_26 : tbytes Go.Proofs.Tryz.prog 26 = 24 := by kernel_rfl
@[go_sem] theorem ty_agg_26 : tagg Go.Proofs.Tryz.prog 26 = some true := by kernel_rfl
@[go_sem] theorem ty_elem_26 : elemT Go.Proofs.Tryz.prog 26 = none := by kernel_rfl
@[go_sem] theorem ty_str_26 : strT Go.Proofs.Tryz.prog 26 = false := by kernel_rfl
@[go_sem] theorem ty_f_26_0 : finfo Go.Proofs.Tryz.prog 26 0 = some (0, 3) := by kernel_rfl
@[go_sem] theorem ty_f_26_1 : finfo Go.Proofs.Tryz.prog 26 1 = some (1, 3) := by kernel_rfl
@[go_sem] theorem ty_f_26_2 : finfo Go.Proofs.Tryz.prog 26 2 = some (2, 3) := by kernel_rfl
@[go_sem] theorem ty_places_26 : placesT Go.Proofs.Tryz.prog 26 = some [(0, 1), (1, 1), (2, 1)] := by kernel_rfl
@[go_sem] theorem ty_eqg_26 : eqG Go.Proofs.Tryz.prog 26 = true := by kernel_rfl
@[go_sem] theorem ty_zero_26 : tzero Go.Proofs.Tryz.prog 26 = some (.d (.agg [(.int .i64 0), (.int .i64 0), (.int .i64 0)])) := by kernel_rfl
@[go_sem] theorem ty_cells_27 : tcells Go.Proofs.Tryz.prog 27 = 1 := by kernel_rfl
@[go_sem] theorem ty_bytes_27 : tbytes Go.Proofs.Tryz.prog 27 = 24 := by kernel_rfl
@[go_sem] theorem ty_agg_27 : tagg Go.Proofs.Tryz.prog 27 = some false := by kernel_rfl
@[go_sem] theorem ty_elem_27 : elemT Go.Proofs.Tryz.prog 27 = some 81 := by kernel_rfl
@[go_sem] theorem ty_elok_27 : elemOK Go.Proofs.Tryz.prog 27 = true := by kernel_rfl
@[go_sem] theorem ty_str_27 : strT Go.Proofs.Tryz.prog 27 = false := by kernel_rfl
@[go_sem] theorem ty_zero_27 : tzero Go.Proofs.Tryz.prog 27 = some (.nils) := by kernel_rfl
@[go_sem] theorem ty_cells_28 : tcells Go.Proofs.Tryz.prog 28 = 1 := by kernel_rfl
@[go_sem] theorem ty_bytes_28 : tbytes Go.Proofs.Tryz.prog 28 = 24 := by kernel_rfl
@[go_sem] theorem ty_agg_28 : tagg Go.Proofs.Tryz.prog 28 = some false := by kernel_rfl
@[go_sem] theorem ty_elem_28 : elemT Go.Proofs.Tryz.prog 28 = some 30 := by kernel_rfl
@[go_sem] theorem ty_elok_28 : elemOK Go.Proofs.Tryz.prog 28 = true := by kernel_rfl
@[go_sem] theorem ty_str_28 : strT Go.Proofs.Tryz.prog 28 = false := by kernel_rfl
@[go_sem] theorem ty_zero_28 : tzero Go.Proofs.Tryz.prog 28 = some (.nils) := by kernel_rfl
@[go_sem] theorem ty_cells_29 : tcells Go.Proofs.Tryz.prog 29 = 8 := by kernel_rfl
@[go_sem] theorem ty_bytes_29 : tbytes Go.Proofs.Tryz.prog 29 = 120 := by kernel_rfl
@[go_sem] theorem ty_agg_29 : tagg Go.Proofs.Tryz.prog 29 = some true := by kernel_rfl
@[go_sem] theorem ty_elem_29 : elemT Go.Proofs.Tryz.prog 29 = none := by kernel_rfl
@[go_sem] theorem ty_str_29 : strT Go.Proofs.Tryz.prog 29 = false := by kernel_rfl
@[go_sem] theorem ty_f_29_0 : finfo Go.Proofs.Tryz.prog 29 0 = some (0, 26) := by kernel_rfl
@[go_sem] theorem ty_f_29_1 : finfo Go.Proofs.Tryz.prog 29 1 = some (3, 3) := by kernel_rfl
@[go_sem] theorem ty_f_29_2 : finfo Go.Proofs.Tryz.prog 29 2 = some (4, 9) := by kernel_rfl
@[go_sem] theorem ty_f_29_3 : finfo Go.Proofs.Tryz.prog 29 3 = some (5, 27) := by kernel_rfl
@[go_sem] theorem ty_f_29_4 : finfo Go.Proofs.Tryz.prog 29 4 = some (6, 27) := by kernel_rfl
@[go_sem] theorem ty_f_29_5 : finfo Go.Proofs.Tryz.prog 29 5 = some (7, 28) := by kernel_rfl
@[go_sem] theorem ty_places_29 : placesT Go.Proofs.Tryz.prog 29 = some [(0, 3), (3, 1), (4, 1), (5, 1), (6, 1), (7, 1)] := by kernel_rfl
@[go_sem] theorem ty_zero_29 : tzero Go.Proofs.Tryz.prog 29 = some (.agg [.d (.int .i64 0), .d (.int .i64 0), .d (.int .i64 0), .d (.int .i64 0), .d (.str ⟨#[]⟩), .nils, .nils, .nils]) := by kernel_rfl
@[go_sem] theorem ty_cells_30 : tcells Go.Proofs.Tryz.prog 30 = 8 := by kernel_rfl
@[go_sem] theorem ty_bytes_30 : tbytes Go.Proofs.Tryz.prog 30 = 120 := by kernel_rfl
@[go_sem] theorem ty_agg_30 : tagg Go.Proofs.Tryz.prog 30 = some true := by kernel_rfl
@[go_sem] theorem ty_elem_30 : elemT Go.Proofs.Tryz.prog 30 = none := by kernel_rfl
@[go_sem] theorem ty_str_30 : strT Go.Proofs.Tryz.prog 30 = false := by kernel_rfl
@[go_sem] theorem ty_f_30_0 : finfo Go.Proofs.Tryz.prog 30 0 = some (0, 26) := by kernel_rfl
@[go_sem] theorem ty_f_30_1 : finfo Go.Proofs.Tryz.prog 30 1 = some (3, 3) := by kernel_rfl
@[go_sem] theorem ty_f_30_2 : finfo Go.Proofs.Tryz.prog 30 2 = some (4, 9) := by kernel_rfl
@[go_sem] theorem ty_f_30_3 : finfo Go.Proofs.Tryz.prog 30 3 = some (5, 27) := by kernel_rfl
@[go_sem] theorem ty_f_30_4 : finfo Go.Proofs.Tryz.prog 30 4 = some (6, 27) := by kernel_rfl
@[go_sem] theorem ty_f_30_5 : finfo Go.Proofs.Tryz.prog 30 5 = some (7, 28) := by kernel_rfl
@[go_sem] theorem ty_places_30 : placesT Go.Proofs.Tryz.prog 30 = some [(0, 3), (3, 1), (4, 1), (5, 1), (6, 1), (7, 1)] := by kernel_rfl
@[go_sem] theorem ty_zero_30 : tzero Go.Proofs.Tryz.prog 30 = some (.agg [.d (.int .i64 0), .d (.int .i64 0), .d (.int .i64 0), .d (.int .i64 0), .d (.str ⟨#[]⟩), .nils, .nils, .nils]) := by kernel_rfl
@[go_sem] theorem ty_cells_31 : tcells Go.Proofs.Tryz.prog 31 = 1 := by kernel_rfl
@[go_sem] theorem ty_bytes_31 : tbytes Go.Proofs.Tryz.prog 31 = 8 := by kernel_rfl
@[go_sem] theorem ty_agg_31 : tagg Go.Proofs.Tryz.prog 31 = some false := by kernel_rfl
@[go_sem] theorem ty_elem_31 : elemT Go.Proofs.Tryz.prog 31 = none := by kernel_rfl
@[go_sem] theorem ty_str_31 : strT Go.Proofs.Tryz.prog 31 = false := by kernel_rfl
@[go_sem] theorem ty_zero_31 : tzero Go.Proofs.Tryz.prog 31 = some (.nf) := by kernel_rfl
@[go_sem] theorem ty_cells_32 : tcells Go.Proofs.Tryz.prog 32 = 1 := by kernel_rfl
@[go_sem] theorem ty_bytes_32 : tbytes Go.Proofs.Tryz.prog 32 = 8 := by kernel_rfl
@[go_sem] theorem ty_agg_32 : tagg Go.Proofs.Tryz.prog 32 = some false := by kernel_rfl
@[go_sem] theorem ty_elem_32 : elemT Go.Proofs.Tryz.prog 32 = none := by kernel_rfl
@[go_sem] theorem ty_str_32 : strT Go.Proofs.Tryz.prog 32 = false := by kernel_rfl
@[go_sem] theorem ty_zero_32 : tzero Go.Proofs.Tryz.prog 32 = some (.nf) := by kernel_rfl
@[go_sem] theorem ty_cells_33 : tcells Go.Proofs.Tryz.prog 33 = 1 := by kernel_rfl
@[go_sem] theorem ty_bytes_33 : tbytes Go.Proofs.Tryz.prog 33 = 24 := by kernel_rfl
@[go_sem] theorem ty_agg_33 : tagg Go.Proofs.Tryz.prog 33 = some false := by kernel_rfl
@[go_sem] theorem ty_elem_33 : elemT Go.Proofs.Tryz.prog 33 = some 68 := by kernel_rfl
@[go_sem] theorem ty_elok_33 : elemOK Go.Proofs.Tryz.prog 33 = true := by kernel_rfl
@[go_sem] theorem ty_str_33 : strT Go.Proofs.Tryz.prog 33 = false := by kernel_rfl
@[go_sem] theorem ty_zero_33 : tzero Go.Proofs.Tryz.prog 33 = some (.nils) := by kernel_rfl
@[go_sem] theorem ty_cells_34 : tcells Go.Proofs.Tryz.prog 34 = 1 := by kernel_rfl
@[go_sem] theorem ty_bytes_34 : tbytes Go.Proofs.Tryz.prog 34 = 8 := by kernel_rfl
@[go_sem] theorem ty_agg_34 : tagg Go.Proofs.Tryz.prog 34 = some false := by kernel_rfl
@[go_sem] theorem ty_elem_34 : elemT Go.Proofs.Tryz.prog 34 = none := by kernel_rfl
@[go_sem] theorem ty_str_34 : strT Go.Proofs.Tryz.prog 34 = false := by kernel_rfl
@[go_sem] theorem ty_zero_34 : tzero Go.Proofs.Tryz.prog 34 = some (.nf) := by kernel_rfl
@[go_sem] theorem ty_cells_35 : tcells Go.Proofs.Tryz.prog 35 = 1 := by kernel_rfl
@[go_sem] theorem ty_bytes_35 : tbytes Go.Proofs.Tryz.prog 35 = 8 := by kernel_rfl
@[go_sem] theorem ty_agg_35 : tagg Go.Proofs.Tryz.prog 35 = some false := by kernel_rfl
@[go_sem] theorem ty_elem_35 : elemT Go.Proofs.Tryz.prog 35 = none := by kernel_rfl
@[go_sem] theorem ty_str_35 : strT Go.Proofs.Tryz.prog 35 = false := by kernel_rfl
@[go_sem] theorem ty_zero_35 : tzero Go.Proofs.Tryz.prog 35 = some (.nf) := by kernel_rfl
@[go_sem] theorem ty_cells_36 : tcells Go.Proofs.Tryz.prog 36 = 1 := by kernel_rfl
@[go_sem] theorem ty_bytes_36 : tbytes Go.Proofs.Tryz.prog 36 = 8 := by kernel_rfl
@[go_sem] theorem ty_agg_36 : tagg Go.Proofs.Tryz.prog 36 = some false := by kernel_rfl
@[go_sem] theorem ty_elem_36 : elemT Go.Proofs.Tryz.prog 36 = none := by kernel_rfl
@[go_sem] theorem ty_str_36 : strT Go.Proofs.Tryz.prog 36 = false := by kernel_rfl
@[go_sem] theorem ty_zero_36 : tzero Go.Proofs.Tryz.prog 36 = some (.nf) := by kernel_rfl
@[go_sem] theorem ty_cells_37 : tcells Go.Proofs.Tryz.prog 37 = 1 := by kernel_rfl
@[go_sem] theorem ty_bytes_37 : tbytes Go.Proofs.Tryz.prog 37 = 8 := by kernel_rfl
@[go_sem] theorem ty_agg_37 : tagg Go.Proofs.Tryz.prog 37 = some false := by kernel_rfl
@[go_sem] theorem ty_elem_37 : elemT Go.Proofs.Tryz.prog 37 = none := by kernel_rfl
@[go_sem] theorem ty_str_37 : strT Go.Proofs.Tryz.prog 37 = false := by kernel_rfl
@[go_sem] theorem ty_zero_37 : tzero Go.Proofs.Tryz.prog 37 = some (.nf) := by kernel_rfl
@[go_sem] theorem ty_cells_38 : tcells Go.Proofs.Tryz.prog 38 = 1 := by kernel_rfl
@[go_sem] theorem ty_bytes_38 : tbytes Go.Proofs.Tryz.prog 38 = 8 := by kernel_rfl
@[go_sem] theorem ty_agg_38 : tagg Go.Proofs.Tryz.prog 38 = some false := by kernel_rfl
@[go_sem] theorem ty_elem_38 : elemT Go.Proofs.Tryz.prog 38 = none := by kernel_rfl
@[go_sem] theorem ty_str_38 : strT Go.Proofs.Tryz.prog 38 = false := by kernel_rfl
@[go_sem] theorem ty_zero_38 : tzero Go.Proofs.Tryz.prog 38 = some (.nf) := by kernel_rfl
@[go_sem] theorem ty_cells_39 : tcells Go.Proofs.Tryz.prog 39 = 2 := by kernel_rfl
@[go_sem] theorem ty_bytes_39 : tbytes Go.Proofs.Tryz.prog 39 = 16 := by kernel_rfl
@[go_sem] theorem ty_agg_39 : tagg Go.Proofs.Tryz.prog 39 = some true := by kernel_rfl
@[go_sem] theorem ty_elem_39 : elemT Go.Proofs.Tryz.prog 39 = none := by kernel_rfl
@[go_sem] theorem ty_str_39 : strT Go.Proofs.Tryz.prog 39 = false := by kernel_rfl
@[go_sem] theorem ty_f_39_0 : finfo Go.Proofs.Tryz.prog 39 0 = some (0, 3) := by kernel_rfl
@[go_sem] theorem ty_f_39_1 : finfo Go.Proofs.Tryz.prog 39 1 = some (1, 3) := by kernel_rfl
@[go_sem] theorem ty_places_39 : placesT Go.Proofs.Tryz.prog 39 = some [(0, 1), (1, 1)] := by kernel_rfl
@[go_sem] theorem ty_eqg_39 : eqG Go.Proofs.Tryz.prog 39 = true := by kernel_rfl
@[go_sem] theorem ty_zero_39 : tzero Go.Proofs.Tryz.prog 39 = some (.d (.agg [(.int .i64 0), (.int .i64 0)])) := by kernel_rfl
@[go_sem] theorem ty_cells_40 : tcells Go.Proofs.Tryz.prog 40 = 2 := by kernel_rfl
@[go_sem] theorem ty_bytes_40 : tbytes Go.Proofs.Tryz.prog 40 = 16 := by kernel_rfl
@[go_sem] theorem ty_agg_40 : tagg Go.Proofs.Tryz.prog 40 = some true := by kernel_rfl
@[go_sem] theorem ty_elem_40 : elemT Go.Proofs.Tryz.prog 40 = none := by kernel_rfl
@[go_sem] theorem ty_str_40 : strT Go.Proofs.Tryz.prog 40 = false := by kernel_rfl
@[go_sem] theorem ty_f_40_0 : finfo Go.Proofs.Tryz.prog 40 0 = some (0, 3) := by kernel_rfl
@[go_sem] theorem ty_f_40_1 : finfo Go.Proofs.Tryz.prog 40 1 = some (1, 3) := by kernel_rfl
@[go_sem] theorem ty_places_40 : placesT Go.Proofs.Tryz.prog 40 = some [(0, 1), (1, 1)] := by kernel_rfl
@[go_sem] theorem ty_eqg_40 : eqG Go.Proofs.Tryz.prog 40 = true := by kernel_rfl
@[go_sem] theorem ty_zero_40 : tzero Go.Proofs.Tryz.prog 40 = some (.d (.agg [(.int .i64 0), (.int .i64 0)])) := by kernel_rfl
@[go_sem] theorem ty_cells_41 : tcells Go.Proofs.Tryz.prog 41 = 1 := by kernel_rfl
@[go_sem] theorem ty_bytes_41 : tbytes Go.Proofs.Tryz.prog 41 = 8 := by kernel_rfl
@[go_sem] theorem ty_agg_41 : tagg Go.Proofs.Tryz.prog 41 = some false := by kernel_rfl
@[go_sem] theorem ty_elem_41 : elemT Go.Proofs.Tryz.prog 41 = none := by kernel_rfl
@[go_sem] theorem ty_str_41 : strT Go.Proofs.Tryz.prog 41 = false := by kernel_rfl
@[go_sem] theorem ty_zero_41 : tzero Go.Proofs.Tryz.prog 41 = some (.nf) := by kernel_rfl
@[go_sem] theorem ty_cells_42 : tcells Go.Proofs.Tryz.prog 42 = 1 := by kernel_rfl
@[go_sem] theorem ty_bytes_42 : tbytes Go.Proofs.Tryz.prog 42 = 8 := by kernel_rfl
@[go_sem] theorem ty_agg_42 : tagg Go.Proofs.Tryz.prog 42 = some false := by kernel_rfl
@[go_sem] theorem ty_elem_42 : elemT Go.Proofs.Tryz.prog 42 = none := by kernel_rfl
@[go_sem] theorem ty_str_42 : strT Go.Proofs.Tryz.prog 42 = false := by kernel_rfl
@[go_sem] theorem ty_zero_42 : tzero Go.Proofs.Tryz.prog 42 = some (.nf) := by kernel_rfl
@[go_sem] theorem ty_cells_44 : tcells Go.Proofs.Tryz.prog 44 = 1 := by kernel_rfl
@[go_sem] theorem ty_bytes_44 : tbytes Go.Proofs.Tryz.prog 44 = 24 := by kernel_rfl
@[go_sem] theorem ty_agg_44 : tagg Go.Proofs.Tryz.prog 44 = some false := by kernel_rfl
@[go_sem] theorem ty_elem_44 : elemT Go.Proofs.Tryz.prog 44 = some 64 := by kernel_rfl
@[go_sem] theorem ty_elok_44 : elemOK Go.Proofs.Tryz.prog 44 = true := by kernel_rfl
@[go_sem] theorem ty_str_44 : strT Go.Proofs.Tryz.prog 44 = false := by kernel_rfl
@[go_sem] theorem ty_zero_44 : tzero Go.Proofs.Tryz.prog 44 = some (.nils) := by kernel_rfl
@[go_sem] theorem ty_cells_45 : tcells Go.Proofs.Tryz.prog 45 = 1 := by kernel_rfl
@[go_sem] theorem ty_bytes_45 : tbytes Go.Proofs.Tryz.prog 45 = 24 := by kernel_rfl
@[go_sem] theorem ty_agg_45 : tagg Go.Proofs.Tryz.prog 45 = some false := by kernel_rfl
@[go_sem] theorem ty_elem_45 : elemT Go.Proofs.Tryz.prog 45 = some 64 := by kernel_rfl
@[go_sem] theorem ty_elok_45 : elemOK Go.Proofs.Tryz.prog 45 = true := by kernel_rfl
@[go_sem] theorem ty_str_45 : strT Go.Proofs.Tryz.prog 45 = false := by kernel_rfl
@[go_sem] theorem ty_zero_45 : tzero Go.Proofs.Tryz.prog 45 = some (.nils) := by kernel_rfl
@[go_sem] theorem ty_cells_46 : tcells Go.Proofs.Tryz.prog 46 = 1 := by kernel_rfl
@[go_sem] theorem ty_bytes_46 : tbytes Go.Proofs.Tryz.prog 46 = 8 := by kernel_rfl
@[go_sem] theorem ty_agg_46 : tagg Go.Proofs.Tryz.prog 46 = some false := by kernel_rfl
@[go_sem] theorem ty_elem_46 : elemT Go.Proofs.Tryz.prog 46 = none := by kernel_rfl
@[go_sem] theorem ty_str_46 : strT Go.Proofs.Tryz.prog 46 = false := by kernel_rfl
@[go_sem] theorem ty_zero_46 : tzero Go.Proofs.Tryz.prog 46 = some (.nf) := by kernel_rfl
@[go_sem] theorem ty_cells_47 : tcells Go.Proofs.Tryz.prog 47 = 1 := by kernel_rfl
@[go_sem] theorem ty_bytes_47 : tbytes Go.Proofs.Tryz.prog 47 = 8 := by kernel_rfl
@[go_sem] theorem ty_agg_47 : tagg Go.Proofs.Tryz.prog 47 = some false := by kernel_rfl
@[go_sem] theorem ty_elem_47 : elemT Go.Proofs.Tryz.prog 47 = none := by kernel_rfl
@[go_sem] theorem ty_str_47 : strT Go.Proofs.Tryz.prog 47 = false := by kernel_rfl
@[go_sem] theorem ty_zero_47 : tzero Go.Proofs.Tryz.prog 47 = some (.nf) := by kernel_rfl
@[go_sem] theorem ty_cells_48 : tcells Go.Proofs.Tryz.prog 48 = 1 := by kernel_rfl
@[go_sem] theorem ty_bytes_48 : tbytes Go.Proofs.Tryz.prog 48 = 8 := by kernel_rfl
@[go_sem] theorem ty_agg_48 : tagg Go.Proofs.Tryz.prog 48 = some false := by kernel_rfl
@[go_sem] theorem ty_elem_48 : elemT Go.Proofs.Tryz.prog 48 = none := by kernel_rfl
@[go_sem] theorem ty_str_48 : strT Go.Proofs.Tryz.prog 48 = false := by kernel_rfl
@[go_sem] theorem ty_zero_48 : tzero Go.Proofs.Tryz.prog 48 = some (.nf) := by kernel_rfl
@[go_sem] theorem ty_cells_49 : tcells Go.Proofs.Tryz.prog 49 = 3 := by kernel_rfl
@[go_sem] theorem ty_bytes_49 : tbytes Go.Proofs.Tryz.prog 49 = 32 := by kernel_rfl
@[go_sem] theorem ty_agg_49 : tagg Go.Proofs.Tryz.prog 49 = some true := by kernel_rfl
@[go_sem] theorem ty_elem_49 : elemT Go.Proofs.Tryz.prog 49 = none := by kernel_rfl
@[go_sem] theorem ty_str_49 : strT Go.Proofs.Tryz.prog 49 = false := by kernel_rfl
@[go_sem] theorem ty_f_49_0 : finfo Go.Proofs.Tryz.prog 49 0 = some (0, 3) := by kernel_rfl
@[go_sem] theorem ty_f_49_1 : finfo Go.Proofs.Tryz.prog 49 1 = some (1, 3) := by kernel_rfl
@[go_sem] theorem ty_f_49_2 : finfo Go.Proofs.Tryz.prog 49 2 = some (2, 9) := by kernel_rfl
@[go_sem] theorem ty_places_49 : placesT Go.Proofs.Tryz.prog 49 = some [(0, 1), (1, 1), (2, 1)] := by kernel_rfl
@[go_sem] theorem ty_eqg_49 : eqG Go.Proofs.Tryz.prog 49 = true := by kernel_rfl
@[go_sem] theorem ty_zero_49 : tzero Go.Proofs.Tryz.prog 49 = some (.d (.agg [(.int .i64 0), (.int .i64 0), (.str ⟨#[]⟩)])) := by kernel_rfl
@[go_sem] theorem ty_cells_50 : tcells Go.Proofs.Tryz.prog 50 = 3 := by kernel_rfl
@[go_sem] theorem ty_bytes_50 : tbytes Go.Proofs.Tryz.prog 50 = 32 := by kernel_rfl
@[go_sem] theorem ty_agg_50 : tagg Go.Proofs.Tryz.prog 50 = some true := by kernel_rfl
@[go_sem] theorem ty_elem_50 : elemT Go.Proofs.Tryz.prog 50 = none := by kernel_rfl
@[go_sem] theorem ty_str_50 : strT Go.Proofs.Tryz.prog 50 = false := by kernel_rfl
@[go_sem] theorem ty_f_50_0 : finfo Go.Proofs.Tryz.prog 50 0 = some (0, 3) := by kernel_rfl
@[go_sem] theorem ty_f_50_1 : finfo Go.Proofs.Tryz.prog 50 1 = some (1, 3) := by kernel_rfl
@[go_sem] theorem ty_f_50_2 : finfo Go.Proofs.Tryz.prog 50 2 = some (2, 9) := by kernel_rfl
@[go_sem] theorem ty_places_50 : placesT Go.Proofs.Tryz.prog 50 = some [(0, 1), (1, 1), (2, 1)] := by kernel_rfl
@[go_sem] theorem ty_eqg_50 : eqG Go.Proofs.Tryz.prog 50 = true := by kernel_rfl
@[go_sem] theorem ty_zone_50 : zone Go.Proofs.Tryz.prog 50 = true := by kernel_rfl
@[go_sem] theorem ty_zero_50 : tzero Go.Proofs.Tryz.prog 50 = some (.d (.agg [(.int .i64 0), (.int .i64 0), (.str ⟨#[]⟩)])) := by kernel_rfl
@[go_sem] theorem ty_cells_51 : tcells Go.Proofs.Tryz.prog 51 = 1 := by kernel_rfl
@[go_sem] theorem ty_bytes_51 : tbytes Go.Proofs.Tryz.prog 51 = 24 := by kernel_rfl
@[go_sem] theorem ty_agg_51 : tagg Go.Proofs.Tryz.prog 51 = some false := by kernel_rfl
@[go_sem] theorem ty_elem_51 : elemT Go.Proofs.Tryz.prog 51 = some 59 := by kernel_rfl
@[go_sem] theorem ty_elok_51 : elemOK Go.Proofs.Tryz.prog 51 = true := by kernel_rfl
@[go_sem] theorem ty_str_51 : strT Go.Proofs.Tryz.prog 51 = false := by kernel_rfl
@[go_sem] theorem ty_zero_51 : tzero Go.Proofs.Tryz.prog 51 = some (.nils) := by kernel_rfl
@[go_sem] theorem ty_cells_52 : tcells Go.Proofs.Tryz.prog 52 = 1 := by kernel_rfl
@[go_sem] theorem ty_bytes_52 : tbytes Go.Proofs.Tryz.prog 52 = 24 := by kernel_rfl
@[go_sem] theorem ty_agg_52 : tagg Go.Proofs.Tryz.prog 52 = some false := by kernel_rfl
@[go_sem] theorem ty_elem_52 : elemT Go.Proofs.Tryz.prog 52 = some 9 := by kernel_rfl
@[go_sem] theorem ty_elok_52 : elemOK Go.Proofs.Tryz.prog 52 = true := by kernel_rfl
@[go_sem] theorem ty_str_52 : strT Go.Proofs.Tryz.prog 52 = false := by kernel_rfl
@[go_sem] theorem ty_zero_52 : tzero Go.Proofs.Tryz.prog 52 = some (.nils) := by kernel_rfl
@[go_sem] theorem ty_cells_53 : tcells Go.Proofs.Tryz.prog 53 = 1 := by kernel_rfl
@[go_sem] theorem ty_bytes_53 : tbytes Go.Proofs.Tryz.prog 53 = 24 := by kernel_rfl
@[go_sem] theorem ty_agg_53 : tagg Go.Proofs.Tryz.prog 53 = some false := by kernel_rfl
@[go_sem] theorem ty_elem_53 : elemT Go.Proofs.Tryz.prog 53 = some 55 := by kernel_rfl
@[go_sem] theorem ty_elok_53 : elemOK Go.Proofs.Tryz.prog 53 = true := by kernel_rfl
@[go_sem] theorem ty_str_53 : strT Go.Proofs.Tryz.prog 53 = false := by kernel_rfl
@[go_sem] theorem ty_zero_53 : tzero Go.Proofs.Tryz.prog 53 = some (.nils) := by kernel_rfl
@[go_sem] theorem ty_cells_54 : tcells Go.Proofs.Tryz.prog 54 = 25 := by kernel_rfl
@[go_sem] theorem ty_bytes_54 : tbytes Go.Proofs.Tryz.prog 54 = 368 := by kernel_rfl
@[go_sem] theorem ty_agg_54 : tagg Go.Proofs.Tryz.prog 54 = some true := by kernel_rfl
@[go_sem] theorem ty_elem_54 : elemT Go.Proofs.Tryz.prog 54 = none := by kernel_rfl
@[go_sem] theorem ty_str_54 : strT Go.Proofs.Tryz.prog 54 = false := by kernel_rfl
@[go_sem] theorem ty_f_54_0 : finfo Go.Proofs.Tryz.prog 54 0 = some (0, 3) := by kernel_rfl
@[go_sem] theorem ty_f_54_1 : finfo Go.Proofs.Tryz.prog 54 1 = some (1, 51) := by kernel_rfl
@[go_sem] theorem ty_f_54_2 : finfo Go.Proofs.Tryz.prog 54 2 = some (2, 51) := by kernel_rfl
@[go_sem] theorem ty_f_54_3 : finfo Go.Proofs.Tryz.prog 54 3 = some (3, 3) := by kernel_rfl
@[go_sem] theorem ty_f_54_4 : finfo Go.Proofs.Tryz.prog 54 4 = some (4, 3) := by kernel_rfl
@[go_sem] theorem ty_f_54_5 : finfo Go.Proofs.Tryz.prog 54 5 = some (5, 30) := by kernel_rfl
@[go_sem] theorem ty_f_54_6 : finfo Go.Proofs.Tryz.prog 54 6 = some (13, 52) := by kernel_rfl
@[go_sem] theorem ty_f_54_7 : finfo Go.Proofs.Tryz.prog 54 7 = some (14, 52) := by kernel_rfl
@[go_sem] theorem ty_f_54_8 : finfo Go.Proofs.Tryz.prog 54 8 = some (15, 9) := by kernel_rfl
@[go_sem] theorem ty_f_54_9 : finfo Go.Proofs.Tryz.prog 54 9 = some (16, 9) := by kernel_rfl
@[go_sem] theorem ty_f_54_10 : finfo Go.Proofs.Tryz.prog 54 10 = some (17, 50) := by kernel_rfl
@[go_sem] theorem ty_f_54_11 : finfo Go.Proofs.Tryz.prog 54 11 = some (20, 3) := by kernel_rfl
@[go_sem] theorem ty_f_54_12 : finfo Go.Proofs.Tryz.prog 54 12 = some (21, 3) := by kernel_rfl
@[go_sem] theorem ty_f_54_13 : finfo Go.Proofs.Tryz.prog 54 13 = some (22, 3) := by kernel_rfl
@[go_sem] theorem ty_f_54_14 : finfo Go.Proofs.Tryz.prog 54 14 = some (23, 9) := by kernel_rfl
@[go_sem] theorem ty_f_54_15 : finfo Go.Proofs.Tryz.prog 54 15 = some (24, 53) := by kernel_rfl
@[go_sem] theorem ty_places_54 : placesT Go.Proofs.Tryz.prog 54 = some [(0, 1), (1, 1), (2, 1), (3, 1), (4, 1), (5, 8), (13, 1), (14, 1), (15, 1), (16, 1), (17, 3), (20, 1), (21, 1), (22, 1), (23, 1), (24, 1)] := by kernel_rfl
@[go_sem] theorem ty_zero_54 : tzero Go.Proofs.Tryz.prog 54 = some (.agg [.d (.int .i64 0), .nils, .nils, .d (.int .i64 0), .d (.int .i64 0), .d (.int .i64 0), .d (.int .i64 0), .d (.int .i64 0), .d (.int .i64 0), .d (.str ⟨#[]⟩), .nils, .nils, .nils, .nils, .nils, .d (.str ⟨#[]⟩), .d (.str ⟨#[]⟩), .d (.int .i64 0), .d (.int .i64 0), .d (.str ⟨#[]⟩), .d (.int .i64 0), .d (.int .i64 0), .d (.int .i64 0), .d (.str ⟨#[]⟩), .nils]) := by kernel_rfl
@[go_sem] theorem ty_cells_55 : tcells Go.Proofs.Tryz.prog 55 = 25 := by kernel_rfl
@[go_sem] theorem ty_bytes_55 : tbytes Go.Proofs.Tryz.prog 55 = 368 := by kernel_rfl
@[go_sem] theorem ty_agg_55 : tagg Go.Proofs.Tryz.prog 55 = some true := by kernel_rfl
@[go_sem] theorem ty_elem_55 : elemT Go.Proofs.Tryz.prog 55 = none := by kernel_rfl
@[go_sem] theorem ty_str_55 : strT Go.Proofs.Tryz.prog 55 = false := by kernel_rfl
@[go_sem] theorem ty_f_55_0 : finfo Go.Proofs.Tryz.prog 55 0 = some (0, 3) := by kernel_rfl
@[go_sem] theorem ty_f_55_1 : finfo Go.Proofs.Tryz.prog 55 1 = some (1, 51) := by kernel_rfl
@[go_sem] theorem ty_f_55_2 : finfo Go.Proofs.Tryz.prog 55 2 = some (2, 51) := by kernel_rfl
@[go_sem] theorem ty_f_55_3 : finfo Go.Proofs.Tryz.prog 55 3 = some (3, 3) := by kernel_rfl
@[go_sem] theorem ty_f_55_4 : finfo Go.Proofs.Tryz.prog 55 4 = some (4, 3) := by kernel_rfl
@[go_sem] theorem ty_f_55_5 : finfo Go.Proofs.Tryz.prog 55 5 = some (5, 30) := by kernel_rfl
@[go_sem] theorem ty_f_55_6 : finfo Go.Proofs.Tryz.prog 55 6 = some (13, 52) := by kernel_rfl
@[go_sem] theorem ty_f_55_7 : finfo Go.Proofs.Tryz.prog 55 7 = some (14, 52) := by kernel_rfl
@[go_sem] theorem ty_f_55_8 : finfo Go.Proofs.Tryz.prog 55 8 = some (15, 9) := by kernel_rfl
@[go_sem] theorem ty_f_55_9 : finfo Go.Proofs.Tryz.prog 55 9 = some (16, 9) := by kernel_rfl
@[go_sem] theorem ty_f_55_10 : finfo Go.Proofs.Tryz.prog 55 10 = some (17, 50) := by kernel_rfl
@[go_sem] theorem ty_f_55_11 : finfo Go.Proofs.Tryz.prog 55 11 = some (20, 3) := by kernel_rfl
@[go_sem] theorem ty_f_55_12 : finfo Go.Proofs.Tryz.prog 55 12 = some (21, 3) := by kernel_rfl
@[go_sem] theorem ty_f_55_13 : finfo Go.Proofs.Tryz.prog 55 13 = some (22, 3) := by kernel_rfl
@[go_sem] theorem ty_f_55_14 : finfo Go.Proofs.Tryz.prog 55 14 = some (23, 9) := by kernel_rfl
@[go_sem] theorem ty_f_55_15 : finfo Go.Proofs.Tryz.prog 55 15 = some (24, 53) := by kernel_rfl
@[go_sem] theorem ty_places_55 : placesT Go.Proofs.Tryz.prog 55 = some [(0, 1), (1, 1), (2, 1), (3, 1), (4, 1), (5, 8), (13, 1), (14, 1), (15, 1), (16, 1), (17, 3), (20, 1), (21, 1), (22, 1), (23, 1), (24, 1)] := by kernel_rfl
@[go_sem] theorem ty_zone_55 : zone Go.Proofs.Tryz.prog 55 = true := by kernel_rfl
@[go_sem] theorem ty_zero_55 : tzero Go.Proofs.Tryz.prog 55 = some (.agg [.d (.int .i64 0), .nils, .nils, .d (.int .i64 0), .d (.int .i64 0), .d (.int .i64 0), .d (.int .i64 0), .d (.int .i64 0), .d (.int .i64 0), .d (.str ⟨#[]⟩), .nils, .nils, .nils, .nils, .nils, .d (.str ⟨#[]⟩), .d (.str ⟨#[]⟩), .d (.int .i64 0), .d (.int .i64 0), .d (.str ⟨#[]⟩), .d (.int .i64 0), .d (.int .i64 0), .d (.int .i64 0), .d (.str ⟨#[]⟩), .nils]) := by kernel_rfl
@[go_sem] theorem ty_cells_56 : tcells Go.Proofs.Tryz.prog 56 = 7 := by kernel_rfl
@[go_sem] theorem ty_bytes_56 : tbytes Go.Proofs.Tryz.prog 56 = 88 := by kernel_rfl
@[go_sem] theorem ty_agg_56 : tagg Go.Proofs.Tryz.prog 56 = some true := by kernel_rfl
@[go_sem] theorem ty_elem_56 : elemT Go.Proofs.Tryz.prog 56 = none := by kernel_rfl
@[go_sem] theorem ty_str_56 : strT Go.Proofs.Tryz.prog 56 = false := by kernel_rfl
@[go_sem] theorem ty_f_56_0 : finfo Go.Proofs.Tryz.prog 56 0 = some (0, 3) := by kernel_rfl
@[go_sem] theorem ty_f_56_1 : finfo Go.Proofs.Tryz.prog 56 1 = some (1, 9) := by kernel_rfl
@[go_sem] theorem ty_f_56_2 : finfo Go.Proofs.Tryz.prog 56 2 = some (2, 3) := by kernel_rfl
@[go_sem] theorem ty_f_56_3 : finfo Go.Proofs.Tryz.prog 56 3 = some (3, 50) := by kernel_rfl
@[go_sem] theorem ty_f_56_4 : finfo Go.Proofs.Tryz.prog 56 4 = some (6, 53) := by kernel_rfl
@[go_sem] theorem ty_places_56 : placesT Go.Proofs.Tryz.prog 56 = some [(0, 1), (1, 1), (2, 1), (3, 3), (6, 1)] := by kernel_rfl
@[go_sem] theorem ty_zero_56 : tzero Go.Proofs.Tryz.prog 56 = some (.agg [.d (.int .i64 0), .d (.str ⟨#[]⟩), .d (.int .i64 0), .d (.int .i64 0), .d (.int .i64 0), .d (.str ⟨#[]⟩), .nils]) := by kernel_rfl
@[go_sem] theorem ty_cells_57 : tcells Go.Proofs.Tryz.prog 57 = 7 := by kernel_rfl
@[go_sem] theorem ty_bytes_57 : tbytes Go.Proofs.Tryz.prog 57 = 88 := by kernel_rfl
@[go_sem] theorem ty_agg_57 : tagg Go.Proofs.Tryz.prog 57 = some true := by kernel_rfl
@[go_sem] theorem ty_elem_57 : elemT Go.Proofs.Tryz.prog 57 = none := by kernel_rfl
@[go_sem] theorem ty_str_57 : strT Go.Proofs.Tryz.prog 57 = false := by kernel_rfl
@[go_sem] theorem ty_f_57_0 : finfo Go.Proofs.Tryz.prog 57 0 = some (0, 3) := by kernel_rfl
@[go_sem] theorem ty_f_57_1 : finfo Go.Proofs.Tryz.prog 57 1 = some (1, 9) := by kernel_rfl
@[go_sem] theorem ty_f_57_2 : finfo Go.Proofs.Tryz.prog 57 2 = some (2, 3) := by kernel_rfl
@[go_sem] theorem ty_f_57_3 : finfo Go.Proofs.Tryz.prog 57 3 = some (3, 50) := by kernel_rfl
@[go_sem] theorem ty_f_57_4 : finfo Go.Proofs.Tryz.prog 57 4 = some (6, 53) := by kernel_rfl
@[go_sem] theorem ty_places_57 : placesT Go.Proofs.Tryz.prog 57 = some [(0, 1), (1, 1), (2, 1), (3, 3), (6, 1)] := by kernel_rfl
@[go_sem] theorem ty_zero_57 : tzero Go.Proofs.Tryz.prog 57 = some (.agg [.d (.int .i64 0), .d (.str ⟨#[]⟩), .d (.int .i64 0), .d (.int .i64 0), .d (.int .i64 0), .d (.str ⟨#[]⟩), .nils]) := by kernel_rfl
@[go_sem] theorem ty_cells_58 : tcells Go.Proofs.Tryz.prog 58 = 2 := by kernel_rfl
@[go_sem] theorem ty_bytes_58 : tbytes Go.Proofs.Tryz.prog 58 = 24 := by kernel_rfl
@[go_sem] theorem ty_agg_58 : tagg Go.Proofs.Tryz.prog 58 = some true := by kernel_rfl
@[go_sem] theorem ty_elem_58 : elemT Go.Proofs.Tryz.prog 58 = none := by kernel_rfl
@[go_sem] theorem ty_str_58 : strT Go.Proofs.Tryz.prog 58 = false := by kernel_rfl
@[go_sem] theorem ty_f_58_0 : finfo Go.Proofs.Tryz.prog 58 0 = some (0, 3) := by kernel_rfl
@[go_sem] theorem ty_f_58_1 : finfo Go.Proofs.Tryz.prog 58 1 = some (1, 9) := by kernel_rfl
@[go_sem] theorem ty_places_58 : placesT Go.Proofs.Tryz.prog 58 = some [(0, 1), (1, 1)] := by kernel_rfl
@[go_sem] theorem ty_eqg_58 : eqG Go.Proofs.Tryz.prog 58 = true := by kernel_rfl
@[go_sem] theorem ty_zero_58 : tzero Go.Proofs.Tryz.prog 58 = some (.d (.agg [(.int .i64 0), (.str ⟨#[]⟩)])) := by kernel_rfl
@[go_sem] theorem ty_cells_59 : tcells Go.Proofs.Tryz.prog 59 = 2 := by kernel_rfl
@[go_sem] theorem ty_bytes_59 : tbytes Go.Proofs.Tryz.prog 59 = 24 := by kernel_rfl
@[go_sem] theorem ty_agg_59 : tagg Go.Proofs.Tryz.prog 59 = some true := by kernel_rfl
@[go_sem] theorem ty_elem_59 : elemT Go.Proofs.Tryz.prog 59 = none := by kernel_rfl
@[go_sem] theorem ty_str_59 : strT Go.Proofs.Tryz.prog 59 = false := by kernel_rfl
@[go_sem] theorem ty_f_59_0 : finfo Go.Proofs.Tryz.prog 59 0 = some (0, 3) := by kernel_rfl
@[go_sem] theorem ty_f_59_1 : finfo Go.Proofs.Tryz.prog 59 1 = some (1, 9) := by kernel_rfl
@[go_sem] theorem ty_places_59 : placesT Go.Proofs.Tryz.prog 59 = some [(0, 1), (1, 1)] := by kernel_rfl
@[go_sem] theorem ty_eqg_59 : eqG Go.Proofs.Tryz.prog 59 = true := by kernel_rfl
@[go_sem] theorem ty_zero_59 : tzero Go.Proofs.Tryz.prog 59 = some (.d (.agg [(.int .i64 0), (.str ⟨#[]⟩)])) := by kernel_rfl
@[go_sem] theorem ty_cells_60 : tcells Go.Proofs.Tryz.prog 60 = 1 := by kernel_rfl
@[go_sem] theorem ty_bytes_60 : tbytes Go.Proofs.Tryz.prog 60 = 24 := by kernel_rfl
@[go_sem] theorem ty_agg_60 : tagg Go.Proofs.Tryz.prog 60 = some false := by kernel_rfl
@[go_sem] theorem ty_elem_60 : elemT Go.Proofs.Tryz.prog 60 = some 57 := by kernel_rfl
@[go_sem] theorem ty_elok_60 : elemOK Go.Proofs.Tryz.prog 60 = true := by kernel_rfl
@[go_sem] theorem ty_str_60 : strT Go.Proofs.Tryz.prog 60 = false := by kernel_rfl
@[go_sem] theorem ty_zero_60 : tzero Go.Proofs.Tryz.prog 60 = some (.nils) := by kernel_rfl
@[go_sem] theorem ty_cells_61 : tcells Go.Proofs.Tryz.prog 61 = 4 := by kernel_rfl
@[go_sem] theorem ty_bytes_61 : tbytes Go.Proofs.Tryz.prog 61 = 56 := by kernel_rfl
@[go_sem] theorem ty_agg_61 : tagg Go.Proofs.Tryz.prog 61 = some true := by kernel_rfl
@[go_sem] theorem ty_elem_61 : elemT Go.Proofs.Tryz.prog 61 = none := by kernel_rfl
@[go_sem] theorem ty_str_61 : strT Go.Proofs.Tryz.prog 61 = false := by kernel_rfl
@[go_sem] theorem ty_f_61_0 : finfo Go.Proofs.Tryz.prog 61 0 = some (0, 3) := by kernel_rfl
@[go_sem] theorem ty_f_61_1 : finfo Go.Proofs.Tryz.prog 61 1 = some (1, 3) := by kernel_rfl
@[go_sem] theorem ty_f_61_2 : finfo Go.Proofs.Tryz.prog 61 2 = some (2, 9) := by kernel_rfl
@[go_sem] theorem ty_f_61_3 : finfo Go.Proofs.Tryz.prog 61 3 = some (3, 60) := by kernel_rfl
@[go_sem] theorem ty_places_61 : placesT Go.Proofs.Tryz.prog 61 = some [(0, 1), (1, 1), (2, 1), (3, 1)] := by kernel_rfl
@[go_sem] theorem ty_zero_61 : tzero Go.Proofs.Tryz.prog 61 = some (.agg [.d (.int .i64 0), .d (.int .i64 0), .d (.str ⟨#[]⟩), .nils]) := by kernel_rfl
@[go_sem] theorem ty_cells_62 : tcells Go.Proofs.Tryz.prog 62 = 4 := by kernel_rfl
@[go_sem] theorem ty_bytes_62 : tbytes Go.Proofs.Tryz.prog 62 = 56 := by kernel_rfl
@[go_sem] theorem ty_agg_62 : tagg Go.Proofs.Tryz.prog 62 = some true := by kernel_rfl
@[go_sem] theorem ty_elem_62 : elemT Go.Proofs.Tryz.prog 62 = none := by kernel_rfl
@[go_sem] theorem ty_str_62 : strT Go.Proofs.Tryz.prog 62 = false := by kernel_rfl
@[go_sem] theorem ty_f_62_0 : finfo Go.Proofs.Tryz.prog 62 0 = some (0, 3) := by kernel_rfl
@[go_sem] theorem ty_f_62_1 : finfo Go.Proofs.Tryz.prog 62 1 = some (1, 3) := by kernel_rfl
@[go_sem] theorem ty_f_62_2 : finfo Go.Proofs.Tryz.prog 62 2 = some (2, 9) := by kernel_rfl
@[go_sem] theorem ty_f_62_3 : finfo Go.Proofs.Tryz.prog 62 3 = some (3, 60) := by kernel_rfl
@[go_sem] theorem ty_places_62 : placesT Go.Proofs.Tryz.prog 62 = some [(0, 1), (1, 1), (2, 1), (3, 1)] := by kernel_rfl
@[go_sem] theorem ty_zero_62 : tzero Go.Proofs.Tryz.prog 62 = some (.agg [.d (.int .i64 0), .d (.int .i64 0), .d (.str ⟨#[]⟩), .nils]) := by kernel_rfl
@[go_sem] theorem ty_cells_63 : tcells Go.Proofs.Tryz.prog 63 = 28 := by kernel_rfl
@[go_sem] theorem ty_bytes_63 : tbytes Go.Proofs.Tryz.prog 63 = 392 := by kernel_rfl
@[go_sem] theorem ty_agg_63 : tagg Go.Proofs.Tryz.prog 63 = some true := by kernel_rfl
@[go_sem] theorem ty_elem_63 : elemT Go.Proofs.Tryz.prog 63 = none := by kernel_rfl
@[go_sem] theorem ty_str_63 : strT Go.Proofs.Tryz.prog 63 = false := by kernel_rfl
@[go_sem] theorem ty_f_63_0 : finfo Go.Proofs.Tryz.prog 63 0 = some (0, 3) := by kernel_rfl
@[go_sem] theorem ty_f_63_1 : finfo Go.Proofs.Tryz.prog 63 1 = some (1, 3) := by kernel_rfl
@[go_sem] theorem ty_f_63_2 : finfo Go.Proofs.Tryz.prog 63 2 = some (2, 3) := by kernel_rfl
@[go_sem] theorem ty_f_63_3 : finfo Go.Proofs.Tryz.prog 63 3 = some (3, 55) := by kernel_rfl
@[go_sem] theorem ty_places_63 : placesT Go.Proofs.Tryz.prog 63 = some [(0, 1), (1, 1), (2, 1), (3, 25)] := by kernel_rfl
@[go_sem] theorem ty_zero_63 : tzero Go.Proofs.Tryz.prog 63 = some (.agg [.d (.int .i64 0), .d (.int .i64 0), .d (.int .i64 0), .d (.int .i64 0), .nils, .nils, .d (.int .i64 0), .d (.int .i64 0), .d (.int .i64 0), .d (.int .i64 0), .d (.int .i64 0), .d (.int .i64 0), .d (.str ⟨#[]⟩), .nils, .nils, .nils, .nils, .nils, .d (.str ⟨#[]⟩), .d (.str ⟨#[]⟩), .d (.int .i64 0), .d (.int .i64 0), .d (.str ⟨#[]⟩), .d (.int .i64 0), .d (.int .i64 0), .d (.int .i64 0), .d (.str ⟨#[]⟩), .nils]) := by kernel_rfl
@[go_sem] theorem ty_cells_64 : tcells Go.Proofs.Tryz.prog 64 = 28 := by kernel_rfl
@[go_sem] theorem ty_bytes_64 : tbytes Go.Proofs.Tryz.prog 64 = 392 := by kernel_rfl
@[go_sem] theorem ty_agg_64 : tagg Go.Proofs.Tryz.prog 64 = some true := by kernel_rfl
@[go_sem] theorem ty_elem_64 : elemT Go.Proofs.Tryz.prog 64 = none := by kernel_rfl
@[go_sem] theorem ty_str_64 : strT Go.Proofs.Tryz.prog 64 = false := by kernel_rfl
@[go_sem] theorem ty_f_64_0 : finfo Go.Proofs.Tryz.prog 64 0 = some (0, 3) := by kernel_rfl
@[go_sem] theorem ty_f_64_1 : finfo Go.Proofs.Tryz.prog 64 1 = some (1, 3) := by kernel_rfl
@[go_sem] theorem ty_f_64_2 : finfo Go.Proofs.Tryz.prog 64 2 = some (2, 3) := by kernel_rfl
@[go_sem] theorem ty_f_64_3 : finfo Go.Proofs.Tryz.prog 64 3 = some (3, 55) := by kernel_rfl
@[go_sem] theorem ty_places_64 : placesT Go.Proofs.Tryz.prog 64 = some [(0, 1), (1, 1), (2, 1), (3, 25)] := by kernel_rfl
@[go_sem] theorem ty_zero_64 : tzero Go.Proofs.Tryz.prog 64 = some (.agg [.d (.int .i64 0), .d (.int .i64 0), .d (.int .i64 0), .d (.int .i64 0), .nils, .nils, .d (.int .i64 0), .d (.int .i64 0), .d (.int .i64 0), .d (.int .i64 0), .d (.int .i64 0), .d (.int .i64 0), .d (.str ⟨#[]⟩), .nils, .nils, .nils, .nils, .nils, .d (.str ⟨#[]⟩), .d (.str ⟨#[]⟩), .d (.int .i64 0), .d (.int .i64 0), .d (.str ⟨#[]⟩), .d (.int .i64 0), .d (.int .i64 0), .d (.int .i64 0), .d (.str ⟨#[]⟩), .nils]) := by kernel_rfl
@[go_sem] theorem ty_cells_65 : tcells Go.Proofs.Tryz.prog 65 = 1 := by kernel_rfl
@[go_sem] theorem ty_bytes_65 : tbytes Go.Proofs.Tryz.prog 65 = 8 := by kernel_rfl
@[go_sem] theorem ty_agg_65 : tagg Go.Proofs.Tryz.prog 65 = some false := by kernel_rfl
@[go_sem] theorem ty_elem_65 : elemT Go.Proofs.Tryz.prog 65 = none := by kernel_rfl
@[go_sem] theorem ty_str_65 : strT Go.Proofs.Tryz.prog 65 = false := by kernel_rfl
@[go_sem] theorem ty_zero_65 : tzero Go.Proofs.Tryz.prog 65 = some (.nf) := by kernel_rfl
@[go_sem] theorem ty_cells_66 : tcells Go.Proofs.Tryz.prog 66 = 1 := by kernel_rfl
@[go_sem] theorem ty_bytes_66 : tbytes Go.Proofs.Tryz.prog 66 = 8 := by kernel_rfl
@[go_sem] theorem ty_agg_66 : tagg Go.Proofs.Tryz.prog 66 = some false := by kernel_rfl
@[go_sem] theorem ty_elem_66 : elemT Go.Proofs.Tryz.prog 66 = none := by kernel_rfl
@[go_sem] theorem ty_str_66 : strT Go.Proofs.Tryz.prog 66 = false := by kernel_rfl
@[go_sem] theorem ty_int_66 : intT Go.Proofs.Tryz.prog 66 = some .i64 := by kernel_rfl
@[go_sem] theorem ty_zero_66 : tzero Go.Proofs.Tryz.prog 66 = some (.d (.int .i64 0)) := by kernel_rfl
@[go_sem] theorem ty_cells_67 : tcells Go.Proofs.Tryz.prog 67 = 3 := by kernel_rfl
@[go_sem] theorem ty_bytes_67 : tbytes Go.Proofs.Tryz.prog 67 = 24 := by kernel_rfl
@[go_sem] theorem ty_agg_67 : tagg Go.Proofs.Tryz.prog 67 = some true := by kernel_rfl
@[go_sem] theorem ty_elem_67 : elemT Go.Proofs.Tryz.prog 67 = none := by kernel_rfl
@[go_sem] theorem ty_str_67 : strT Go.Proofs.Tryz.prog 67 = false := by kernel_rfl
@[go_sem] theorem ty_f_67_0 : finfo Go.Proofs.Tryz.prog 67 0 = some (0, 3) := by kernel_rfl
@[go_sem] theorem ty_f_67_1 : finfo Go.Proofs.Tryz.prog 67 1 = some (1, 3) := by kernel_rfl
@[go_sem] theorem ty_f_67_2 : finfo Go.Proofs.Tryz.prog 67 2 = some (2, 66) := by kernel_rfl
@[go_sem] theorem ty_places_67 : placesT Go.Proofs.Tryz.prog 67 = some [(0, 1), (1, 1), (2, 1)] := by kernel_rfl
@[go_sem] theorem ty_eqg_67 : eqG Go.Proofs.Tryz.prog 67 = true := by kernel_rfl
@[go_sem] theorem ty_zero_67 : tzero Go.Proofs.Tryz.prog 67 = some (.d (.agg [(.int .i64 0), (.int .i64 0), (.int .i64 0)])) := by kernel_rfl
@[go_sem] theorem ty_cells_68 : tcells Go.Proofs.Tryz.prog 68 = 3 := by kernel_rfl
@[go_sem] theorem ty_bytes_68 : tbytes Go.Proofs.Tryz.prog 68 = 24 := by kernel_rfl
@[go_sem] theorem ty_agg_68 : tagg Go.Proofs.Tryz.prog 68 = some true := by kernel_rfl
@[go_sem] theorem ty_elem_68 : elemT Go.Proofs.Tryz.prog 68 = none := by kernel_rfl
@[go_sem] theorem ty_str_68 : strT Go.Proofs.Tryz.prog 68 = false := by kernel_rfl
@[go_sem] theorem ty_f_68_0 : finfo Go.Proofs.Tryz.prog 68 0 = some (0, 3) := by kernel_rfl
@[go_sem] theorem ty_f_68_1 : finfo Go.Proofs.Tryz.prog 68 1 = some (1, 3) := by kernel_rfl
@[go_sem] theorem ty_f_68_2 : finfo Go.Proofs.Tryz.prog 68 2 = some (2, 66) := by kernel_rfl
@[go_sem] theorem ty_places_68 : placesT Go.Proofs.Tryz.prog 68 = some [(0, 1), (1, 1), (2, 1)] := by kernel_rfl
@[go_sem] theorem ty_eqg_68 : eqG Go.Proofs.Tryz.prog 68 = true := by kernel_rfl
@[go_sem] theorem ty_zero_68 : tzero Go.Proofs.Tryz.prog 68 = some (.d (.agg [(.int .i64 0), (.int .i64 0), (.int .i64 0)])) := by kernel_rfl
@[go_sem] theorem ty_cells_69 : tcells Go.Proofs.Tryz.prog 69 = 1 := by kernel_rfl
@[go_sem] theorem ty_bytes_69 : tbytes Go.Proofs.Tryz.prog 69 = 8 := by kernel_rfl
@[go_sem] theorem ty_agg_69 : tagg Go.Proofs.Tryz.prog 69 = some false := by kernel_rfl
@[go_sem] theorem ty_elem_69 : elemT Go.Proofs.Tryz.prog 69 = none := by kernel_rfl
@[go_sem] theorem ty_str_69 : strT Go.Proofs.Tryz.prog 69 = false := by kernel_rfl
@[go_sem] theorem ty_zero_69 : tzero Go.Proofs.Tryz.prog 69 = some (.nf) := by kernel_rfl
@[go_sem] theorem ty_cells_70 : tcells Go.Proofs.Tryz.prog 70 = 1 := by kernel_rfl
@[go_sem] theorem ty_bytes_70 : tbytes Go.Proofs.Tryz.prog 70 = 8 := by kernel_rfl
@[go_sem] theorem ty_agg_70 : tagg Go.Proofs.Tryz.prog 70 = some false := by kernel_rfl
@[go_sem] theorem ty_elem_70 : elemT Go.Proofs.Tryz.prog 70 = none := by kernel_rfl
@[go_sem] theorem ty_str_70 : strT Go.Proofs.Tryz.prog 70 = false := by kernel_rfl
@[go_sem] theorem ty_zero_70 : tzero Go.Proofs.Tryz.prog 70 = some (.nf) := by kernel_rfl
@[go_sem] theorem ty_cells_71 : tcells Go.Proofs.Tryz.prog 71 = 1 := by kernel_rfl
@[go_sem] theorem ty_bytes_71 : tbytes Go.Proofs.Tryz.prog 71 = 8 := by kernel_rfl
@[go_sem] theorem ty_agg_71 : tagg Go.Proofs.Tryz.prog 71 = some false := by kernel_rfl
@[go_sem] theorem ty_elem_71 : elemT Go.Proofs.Tryz.prog 71 = none := by kernel_rfl
@[go_sem] theorem ty_str_71 : strT Go.Proofs.Tryz.prog 71 = false := by kernel_rfl
@[go_sem] theorem ty_zero_71 : tzero Go.Proofs.Tryz.prog 71 = some (.nf) := by kernel_rfl
@[go_sem] theorem ty_cells_72 : tcells Go.Proofs.Tryz.prog 72 = 1 := by kernel_rfl
@[go_sem] theorem ty_bytes_72 : tbytes Go.Proofs.Tryz.prog 72 = 8 := by kernel_rfl
@[go_sem] theorem ty_agg_72 : tagg Go.Proofs.Tryz.prog 72 = some false := by kernel_rfl
@[go_sem] theorem ty_elem_72 : elemT Go.Proofs.Tryz.prog 72 = none := by kernel_rfl
@[go_sem] theorem ty_str_72 : strT Go.Proofs.Tryz.prog 72 = false := by kernel_rfl
@[go_sem] theorem ty_zero_72 : tzero Go.Proofs.Tryz.prog 72 = some (.nf) := by kernel_rfl
@[go_sem] theorem ty_cells_73 : tcells Go.Proofs.Tryz.prog 73 = 1 := by kernel_rfl
@[go_sem] theorem ty_bytes_73 : tbytes Go.Proofs.Tryz.prog 73 = 8 := by kernel_rfl
@[go_sem] theorem ty_agg_73 : tagg Go.Proofs.Tryz.prog 73 = some false := by kernel_rfl
@[go_sem] theorem ty_elem_73 : elemT Go.Proofs.Tryz.prog 73 = none := by kernel_rfl
@[go_sem] theorem ty_str_73 : strT Go.Proofs.Tryz.prog 73 = false := by kernel_rfl
@[go_sem] theorem ty_zero_73 : tzero Go.Proofs.Tryz.prog 73 = some (.nf) := by kernel_rfl
@[go_sem] theorem ty_cells_74 : tcells Go.Proofs.Tryz.prog 74 = 1 := by kernel_rfl
@[go_sem] theorem ty_bytes_74 : tbytes Go.Proofs.Tryz.prog 74 = 8 := by kernel_rfl
@[go_sem] theorem ty_agg_74 : tagg Go.Proofs.Tryz.prog 74 = some false := by kernel_rfl
@[go_sem] theorem ty_elem_74 : elemT Go.Proofs.Tryz.prog 74 = none := by kernel_rfl
@[go_sem] theorem ty_str_74 : strT Go.Proofs.Tryz.prog 74 = false := by kernel_rfl
@[go_sem] theorem ty_zero_74 : tzero Go.Proofs.Tryz.prog 74 = some (.nf) := by kernel_rfl
@[go_sem] theorem ty_cells_75 : tcells Go.Proofs.Tryz.prog 75 = 1 := by kernel_rfl
@[go_sem] theorem ty_bytes_75 : tbytes Go.Proofs.Tryz.prog 75 = 8 := by kernel_rfl
@[go_sem] theorem ty_agg_75 : tagg Go.Proofs.Tryz.prog 75 = some false := by kernel_rfl
@[go_sem] theorem ty_elem_75 : elemT Go.Proofs.Tryz.prog 75 = none := by kernel_rfl
@[go_sem] theorem ty_str_75 : strT Go.Proofs.Tryz.prog 75 = false := by kernel_rfl
@[go_sem] theorem ty_zero_75 : tzero Go.Proofs.Tryz.prog 75 = some (.nf) := by kernel_rfl
@[go_sem] theorem ty_cells_76 : tcells Go.Proofs.Tryz.prog 76 = 1 := by kernel_rfl
@[go_sem] theorem ty_bytes_76 : tbytes Go.Proofs.Tryz.prog 76 = 8 := by kernel_rfl
@[go_sem] theorem ty_agg_76 : tagg Go.Proofs.Tryz.prog 76 = some false := by kernel_rfl
@[go_sem] theorem ty_elem_76 : elemT Go.Proofs.Tryz.prog 76 = none := by kernel_rfl
@[go_sem] theorem ty_str_76 : strT Go.Proofs.Tryz.prog 76 = false := by kernel_rfl
@[go_sem] theorem ty_zero_76 : tzero Go.Proofs.Tryz.prog 76 = some (.nf) := by kernel_rfl
@[go_sem] theorem ty_cells_77 : tcells Go.Proofs.Tryz.prog 77 = 1 := by kernel_rfl
@[go_sem] theorem ty_bytes_77 : tbytes Go.Proofs.Tryz.prog 77 = 8 := by kernel_rfl
@[go_sem] theorem ty_agg_77 : tagg Go.Proofs.Tryz.prog 77 = some false := by kernel_rfl
@[go_sem] theorem ty_elem_77 : elemT Go.Proofs.Tryz.prog 77 = none := by kernel_rfl
@[go_sem] theorem ty_str_77 : strT Go.Proofs.Tryz.prog 77 = false := by kernel_rfl
@[go_sem] theorem ty_zero_77 : tzero Go.Proofs.Tryz.prog 77 = some (.nf) := by kernel_rfl
@[go_sem] theorem ty_cells_78 : tcells Go.Proofs.Tryz.prog 78 = 3 := by kernel_rfl
@[go_sem] theorem ty_bytes_78 : tbytes Go.Proofs.Tryz.prog 78 = 24 := by kernel_rfl
@[go_sem] theorem ty_agg_78 : tagg Go.Proofs.Tryz.prog 78 = some true := by kernel_rfl
@[go_sem] theorem ty_elem_78 : elemT Go.Proofs.Tryz.prog 78 = none := by kernel_rfl
@[go_sem] theorem ty_str_78 : strT Go.Proofs.Tryz.prog 78 = false := by kernel_rfl
@[go_sem] theorem ty_f_78_0 : finfo Go.Proofs.Tryz.prog 78 0 = some (0, 3) := by kernel_rfl
@[go_sem] theorem ty_f_78_1 : finfo Go.Proofs.Tryz.prog 78 1 = some (1, 3) := by kernel_rfl
@[go_sem] theorem ty_f_78_2 : finfo Go.Proofs.Tryz.prog 78 2 = some (2, 3) := by kernel_rfl
@[go_sem] theorem ty_places_78 : placesT Go.Proofs.Tryz.prog 78 = some [(0, 1), (1, 1), (2, 1)] := by kernel_rfl
@[go_sem] theorem ty_eqg_78 : eqG Go.Proofs.Tryz.prog 78 = true := by kernel_rfl
@[go_sem] theorem ty_zero_78 : tzero Go.Proofs.Tryz.prog 78 = some (.d (.agg [(.int .i64 0), (.int .i64 0), (.int .i64 0)])) := by kernel_rfl
@[go_sem] theorem ty_cells_79 : tcells Go.Proofs.Tryz.prog 79 = 3 := by kernel_rfl
@[go_sem] theorem ty_bytes_79 : tbytes Go.Proofs.Tryz.prog 79 = 24 := by kernel_rfl
@[go_sem] theorem ty_agg_79 : tagg Go.Proofs.Tryz.prog 79 = some true := by kernel_rfl
@[go_sem] theorem ty_elem_79 : elemT Go.Proofs.Tryz.prog 79 = none := by kernel_rfl
@[go_sem] theorem ty_str_79 : strT Go.Proofs.Tryz.prog 79 = false := by kernel_rfl
@[go_sem] theorem ty_f_79_0 : finfo Go.Proofs.Tryz.prog 79 0 = some (0, 3) := by kernel_rfl
@[go_sem] theorem ty_f_79_1 : finfo Go.Proofs.Tryz.prog 79 1 = some (1, 3) := by kernel_rfl
@[go_sem] theorem ty_f_79_2 : finfo Go.Proofs.Tryz.prog 79 2 = some (2, 3) := by kernel_rfl
@[go_sem] theorem ty_places_79 : placesT Go.Proofs.Tryz.prog 79 = some [(0, 1), (1, 1), (2, 1)] := by kernel_rfl
@[go_sem] theorem ty_eqg_79 : eqG Go.Proofs.Tryz.prog 79 = true := by kernel_rfl
@[go_sem] theorem ty_zero_79 : tzero Go.Proofs.Tryz.prog 79 = some (.d (.agg [(.int .i64 0), (.int .i64 0), (.int .i64 0)])) := by kernel_rfl
@[go_sem] theorem ty_cells_80 : tcells Go.Proofs.Tryz.prog 80 = 4 := by kernel_rfl
@[go_sem] theorem ty_bytes_80 : tbytes Go.Proofs.Tryz.prog 80 = 40 := by kernel_rfl
@[go_sem] theorem ty_agg_80 : tagg Go.Proofs.Tryz.prog 80 = some true := by kernel_rfl
@[go_sem] theorem ty_elem_80 : elemT Go.Proofs.Tryz.prog 80 = none := by kernel_rfl
@[go_sem] theorem ty_str_80 : strT Go.Proofs.Tryz.prog 80 = false := by kernel_rfl
@[go_sem] theorem ty_f_80_0 : finfo Go.Proofs.Tryz.prog 80 0 = some (0, 9) := by kernel_rfl
@[go_sem] theorem ty_f_80_1 : finfo Go.Proofs.Tryz.prog 80 1 = some (1, 79) := by kernel_rfl
@[go_sem] theorem ty_places_80 : placesT Go.Proofs.Tryz.prog 80 = some [(0, 1), (1, 3)] := by kernel_rfl
@[go_sem] theorem ty_eqg_80 : eqG Go.Proofs.Tryz.prog 80 = true := by kernel_rfl
@[go_sem] theorem ty_zero_80 : tzero Go.Proofs.Tryz.prog 80 = some (.d (.agg [(.str ⟨#[]⟩), (.int .i64 0), (.int .i64 0), (.int .i64 0)])) := by kernel_rfl
@[go_sem] theorem ty_cells_81 : tcells Go.Proofs.Tryz.prog 81 = 4 := by kernel_rfl
@[go_sem] theorem ty_bytes_81 : tbytes Go.Proofs.Tryz.prog 81 = 40 := by kernel_rfl
@[go_sem] theorem ty_agg_81 : tagg Go.Proofs.Tryz.prog 81 = some true := by kernel_rfl
@[go_sem] theorem ty_elem_81 : elemT Go.Proofs.Tryz.prog 81 = none := by kernel_rfl
@[go_sem] theorem ty_str_81 : strT Go.Proofs.Tryz.prog 81 = false := by kernel_rfl
@[go_sem] theorem ty_f_81_0 : finfo Go.Proofs.Tryz.prog 81 0 = some (0, 9) := by kernel_rfl
@[go_sem] theorem ty_f_81_1 : finfo Go.Proofs.Tryz.prog 81 1 = some (1, 79) := by kernel_rfl
@[go_sem] theorem ty_places_81 : placesT Go.Proofs.Tryz.prog 81 = some [(0, 1), (1, 3)] := by kernel_rfl
@[go_sem] theorem ty_eqg_81 : eqG Go.Proofs.Tryz.prog 81 = true := by kernel_rfl
@[go_sem] theorem ty_zero_81 : tzero Go.Proofs.Tryz.prog 81 = some (.d (.agg [(.str ⟨#[]⟩), (.int .i64 0), (.int .i64 0), (.int .i64 0)])) := by kernel_rfl
@[go_sem] theorem ty_cells_82 : tcells Go.Proofs.Tryz.prog 82 = 1 := by kernel_rfl
@[go_sem] theorem ty_bytes_82 : tbytes Go.Proofs.Tryz.prog 82 = 8 := by kernel_rfl
@[go_sem] theorem ty_agg_82 : tagg Go.Proofs.Tryz.prog 82 = some false := by kernel_rfl
@[go_sem] theorem ty_elem_82 : elemT Go.Proofs.Tryz.prog 82 = none := by kernel_rfl
@[go_sem] theorem ty_str_82 : strT Go.Proofs.Tryz.prog 82 = false := by kernel_rfl
@[go_sem] theorem ty_zero_82 : tzero Go.Proofs.Tryz.prog 82 = some (.nf) := by kernel_rfl
@[go_sem] theorem ty_cells_83 : tcells Go.Proofs.Tryz.prog 83 = 1 := by kernel_rfl
@[go_sem] theorem ty_bytes_83 : tbytes Go.Proofs.Tryz.prog 83 = 8 := by kernel_rfl
@[go_sem] theorem ty_agg_83 : tagg Go.Proofs.Tryz.prog 83 = some false := by kernel_rfl
@[go_sem] theorem ty_elem_83 : elemT Go.Proofs.Tryz.prog 83 = none := by kernel_rfl
@[go_sem] theorem ty_str_83 : strT Go.Proofs.Tryz.prog 83 = false := by kernel_rfl
@[go_sem] theorem ty_zero_83 : tzero Go.Proofs.Tryz.prog 83 = some (.nf) := by kernel_rfl
@[go_sem] theorem ty_cells_85 : tcells Go.Proofs.Tryz.prog 85 = 1 := by kernel_rfl
@[go_sem] theorem ty_bytes_85 : tbytes Go.Proofs.Tryz.prog 85 = 8 := by kernel_rfl
@[go_sem] theorem ty_agg_85 : tagg Go.Proofs.Tryz.prog 85 = some false := by kernel_rfl
@[go_sem] theorem ty_elem_85 : elemT Go.Proofs.Tryz.prog 85 = none := by kernel_rfl
@[go_sem] theorem ty_str_85 : strT Go.Proofs.Tryz.prog 85 = false := by kernel_rfl
@[go_sem] theorem ty_zero_85 : tzero Go.Proofs.Tryz.prog 85 = some (.nf) := by kernel_rfl
@[go_sem] theorem ty_cells_86 : tcells Go.Proofs.Tryz.prog 86 = 1 := by kernel_rfl
@[go_sem] theorem ty_bytes_86 : tbytes Go.Proofs.Tryz.prog 86 = 8 := by kernel_rfl
@[go_sem] theorem ty_agg_86 : tagg Go.Proofs.Tryz.prog 86 = some false := by kernel_rfl
@[go_sem] theorem ty_elem_86 : elemT Go.Proofs.Tryz.prog 86 = none := by kernel_rfl
@[go_sem] theorem ty_str_86 : strT Go.Proofs.Tryz.prog 86 = false := by kernel_rfl
@[go_sem] theorem ty_zero_86 : tzero Go.Proofs.Tryz.prog 86 = some (.nf) := by kernel_rfl
@[go_sem] theorem ty_cells_87 : tcells Go.Proofs.Tryz.prog 87 = 1 := by kernel_rfl
@[go_sem] theorem ty_bytes_87 : tbytes Go.Proofs.Tryz.prog 87 = 8 := by kernel_rfl
@[go_sem] theorem ty_agg_87 : tagg Go.Proofs.Tryz.prog 87 = some false := by kernel_rfl
@[go_sem] theorem ty_elem_87 : elemT Go.Proofs.Tryz.prog 87 = none := by kernel_rfl
@[go_sem] theorem ty_str_87 : strT Go.Proofs.Tryz.prog 87 = false := by kernel_rfl
@[go_sem] theorem ty_zero_87 : tzero Go.Proofs.Tryz.prog 87 = some (.nf) := by kernel_rfl
@[go_sem] theorem ty_cells_88 : tcells Go.Proofs.Tryz.prog 88 = 1 := by kernel_rfl
@[go_sem] theorem ty_bytes_88 : tbytes Go.Proofs.Tryz.prog 88 = 8 := by kernel_rfl
@[go_sem] theorem ty_agg_88 : tagg Go.Proofs.Tryz.prog 88 = some false := by kernel_rfl
@[go_sem] theorem ty_elem_88 : elemT Go.Proofs.Tryz.prog 88 = none := by kernel_rfl
@[go_sem] theorem ty_str_88 : strT Go.Proofs.Tryz.prog 88 = false := by kernel_rfl
@[go_sem] theorem ty_zero_88 : tzero Go.Proofs.Tryz.prog 88 = some (.nf) := by kernel_rfl
@[go_sem] theorem ty_cells_89 : tcells Go.Proofs.Tryz.prog 89 = 1 := by kernel_rfl
@[go_sem] theorem ty_bytes_89 : tbytes Go.Proofs.Tryz.prog 89 = 24 := by kernel_rfl
@[go_sem] theorem ty_agg_89 : tagg Go.Proofs.Tryz.prog 89 = some false := by kernel_rfl
@[go_sem] theorem ty_elem_89 : elemT Go.Proofs.Tryz.prog 89 = some 136 := by kernel_rfl
@[go_sem] theorem ty_elok_89 : elemOK Go.Proofs.Tryz.prog 89 = true := by kernel_rfl
@[go_sem] theorem ty_str_89 : strT Go.Proofs.Tryz.prog 89 = false := by kernel_rfl
@[go_sem] theorem ty_zero_89 : tzero Go.Proofs.Tryz.prog 89 = some (.nils) := by kernel_rfl
@[go_sem] theorem ty_cells_90 : tcells Go.Proofs.Tryz.prog 90 = 1 := by kernel_rfl
@[go_sem] theorem ty_bytes_90 : tbytes Go.Proofs.Tryz.prog 90 = 8 := by kernel_rfl
@[go_sem] theorem ty_agg_90 : tagg Go.Proofs.Tryz.prog 90 = some false := by kernel_rfl
@[go_sem] theorem ty_elem_90 : elemT Go.Proofs.Tryz.prog 90 = none := by kernel_rfl
@[go_sem] theorem ty_str_90 : strT Go.Proofs.Tryz.prog 90 = false := by kernel_rfl
@[go_sem] theorem ty_zero_90 : tzero Go.Proofs.Tryz.prog 90 = some (.nf) := by kernel_rfl
@[go_sem] theorem ty_cells_91 : tcells Go.Proofs.Tryz.prog 91 = 1 := by kernel_rfl
@[go_sem] theorem ty_bytes_91 : tbytes Go.Proofs.Tryz.prog 91 = 8 := by kernel_rfl
@[go_sem] theorem ty_agg_91 : tagg Go.Proofs.Tryz.prog 91 = some false := by kernel_rfl
@[go_sem] theorem ty_elem_91 : elemT Go.Proofs.Tryz.prog 91 = none := by kernel_rfl
@[go_sem] theorem ty_str_91 : strT Go.Proofs.Tryz.prog 91 = false := by kernel_rfl
@[go_sem] theorem ty_zero_91 : tzero Go.Proofs.Tryz.prog 91 = some (.nf) := by kernel_rfl
@[go_sem] theorem ty_cells_93 : tcells Go.Proofs.Tryz.prog 93 = 1 := by kernel_rfl
@[go_sem] theorem ty_bytes_93 : tbytes Go.Proofs.Tryz.prog 93 = 8 := by kernel_rfl
@[go_sem] theorem ty_agg_93 : tagg Go.Proofs.Tryz.prog 93 = some false := by kernel_rfl
@[go_sem] theorem ty_elem_93 : elemT Go.Proofs.Tryz.prog 93 = none := by kernel_rfl
@[go_sem] theorem ty_str_93 : strT Go.Proofs.Tryz.prog 93 = false := by kernel_rfl
@[go_sem] theorem ty_zero_93 : tzero Go.Proofs.Tryz.prog 93 = some (.nf) := by kernel_rfl
@[go_sem] theorem ty_cells_94 : tcells Go.Proofs.Tryz.prog 94 = 1 := by kernel_rfl
@[go_sem] theorem ty_bytes_94 : tbytes Go.Proofs.Tryz.prog 94 = 8 := by kernel_rfl
@[go_sem] theorem ty_agg_94 : tagg Go.Proofs.Tryz.prog 94 = some false := by kernel_rfl
@[go_sem] theorem ty_elem_94 : elemT Go.Proofs.Tryz.prog 94 = none := by kernel_rfl
@[go_sem] theorem ty_str_94 : strT Go.Proofs.Tryz.prog 94 = false := by kernel_rfl
@[go_sem] theorem ty_zero_94 : tzero Go.Proofs.Tryz.prog 94 = some (.nf) := by kernel_rfl
@[go_sem] theorem ty_cells_95 : tcells Go.Proofs.Tryz.prog 95 = 1 := by kernel_rfl
@[go_sem] theorem ty_bytes_95 : tbytes Go.Proofs.Tryz.prog 95 = 8 := by kernel_rfl
@[go_sem] theorem ty_agg_95 : tagg Go.Proofs.Tryz.prog 95 = some false := by kernel_rfl
@[go_sem] theorem ty_elem_95 : elemT Go.Proofs.Tryz.prog 95 = none := by kernel_rfl
@[go_sem] theorem ty_str_95 : strT Go.Proofs.Tryz.prog 95 = false := by kernel_rfl
@[go_sem] theorem ty_zero_95 : tzero Go.Proofs.Tryz.prog 95 = some (.nf) := by kernel_rfl
@[go_sem] theorem ty_cells_96 : tcells Go.Proofs.Tryz.prog 96 = 1 := by kernel_rfl
@[go_sem] theorem ty_bytes_96 : tbytes Go.Proofs.Tryz.prog 96 = 8 := by kernel_rfl
@[go_sem] theorem ty_agg_96 : tagg Go.Proofs.Tryz.prog 96 = some false := by kernel_rfl
@[go_sem] theorem ty_elem_96 : elemT Go.Proofs.Tryz.prog 96 = none := by kernel_rfl
@[go_sem] theorem ty_str_96 : strT Go.Proofs.Tryz.prog 96 = false := by kernel_rfl
@[go_sem] theorem ty_zero_96 : tzero Go.Proofs.Tryz.prog 96 = some (.nf) := by kernel_rfl
@[go_sem] theorem ty_cells_97 : tcells Go.Proofs.Tryz.prog 97 = 1 := by kernel_rfl
@[go_sem] theorem ty_bytes_97 : tbytes Go.Proofs.Tryz.prog 97 = 8 := by kernel_rfl
@[go_sem] theorem ty_agg_97 : tagg Go.Proofs.Tryz.prog 97 = some false := by kernel_rfl
@[go_sem] theorem ty_elem_97 : elemT Go.Proofs.Tryz.prog 97 = none := by kernel_rfl
@[go_sem] theorem ty_str_97 : strT Go.Proofs.Tryz.prog 97 = false := by kernel_rfl
@[go_sem] theorem ty_zero_97 : tzero Go.Proofs.Tryz.prog 97 = some (.nf) := by kernel_rfl
@[go_sem] theorem ty_cells_98 : tcells Go.Proofs.Tryz.prog 98 = 1 := by kernel_rfl
@[go_sem] theorem ty_bytes_98 : tbytes Go.Proofs.Tryz.prog 98 = 8 := by kernel_rfl
@[go_sem] theorem ty_agg_98 : tagg Go.Proofs.Tryz.prog 98 = some false := by kernel_rfl
@[go_sem] theorem ty_elem_98 : elemT Go.Proofs.Tryz.prog 98 = none := by kernel_rfl
@[go_sem] theorem ty_str_98 : strT Go.Proofs.Tryz.prog 98 = false := by kernel_rfl
@[go_sem] theorem ty_zero_98 : tzero Go.Proofs.Tryz.prog 98 = some (.nf) := by kernel_rfl
@[go_sem] theorem ty_cells_99 : tcells Go.Proofs.Tryz.prog 99 = 1 := by kernel_rfl
@[go_sem] theorem ty_bytes_99 : tbytes Go.Proofs.Tryz.prog 99 = 8 := by kernel_rfl
@[go_sem] theorem ty_agg_99 : tagg Go.Proofs.Tryz.prog 99 = some false := by kernel_rfl
@[go_sem] theorem ty_elem_99 : elemT Go.Proofs.Tryz.prog 99 = none := by kernel_rfl
@[go_sem] theorem ty_str_99 : strT Go.Proofs.Tryz.prog 99 = false := by kernel_rfl
@[go_sem] theorem ty_zero_99 : tzero Go.Proofs.Tryz.prog 99 = some (.nf) := by kernel_rfl
@[go_sem] theorem ty_cells_100 : tcells Go.Proofs.Tryz.prog 100 = 1 := by kernel_rfl
@[go_sem] theorem ty_bytes_100 : tbytes Go.Proofs.Tryz.prog 100 = 8 := by kernel_rfl
@[go_sem] theorem ty_agg_100 : tagg Go.Proofs.Tryz.prog 100 = some false := by kernel_rfl
@[go_sem] theorem ty_elem_100 : elemT Go.Proofs.Tryz.prog 100 = none := by kernel_rfl
@[go_sem] theorem ty_map_100 : mapT Go.Proofs.Tryz.prog 100 = some (3, 50) := by kernel_rfl
@[go_sem] theorem ty_str_100 : strT Go.Proofs.Tryz.prog 100 = false := by kernel_rfl
@[go_sem] theorem ty_cells_101 : tcells Go.Proofs.Tryz.prog 101 = 1 := by kernel_rfl
@[go_sem] theorem ty_bytes_101 : tbytes Go.Proofs.Tryz.prog 101 = 8 := by kernel_rfl
@[go_sem] theorem ty_agg_101 : tagg Go.Proofs.Tryz.prog 101 = some false := by kernel_rfl
@[go_sem] theorem ty_elem_101 : elemT Go.Proofs.Tryz.prog 101 = none := by kernel_rfl
@[go_sem] theorem ty_str_101 : strT Go.Proofs.Tryz.prog 101 = false := by kernel_rfl
@[go_sem] theorem ty_zero_101 : tzero Go.Proofs.Tryz.prog 101 = some (.nf) := by kernel_rfl
@[go_sem] theorem ty_cells_102 : tcells Go.Proofs.Tryz.prog 102 = 1 := by kernel_rfl
@[go_sem] theorem ty_bytes_102 : tbytes Go.Proofs.Tryz.prog 102 = 8 := by kernel_rfl
@[go_sem] theorem ty_agg_102 : tagg Go.Proofs.Tryz.prog 102 = some false := by kernel_rfl
@[go_sem] theorem ty_elem_102 : elemT Go.Proofs.Tryz.prog 102 = none := by kernel_rfl
@[go_sem] theorem ty_str_102 : strT Go.Proofs.Tryz.prog 102 = false := by kernel_rfl
@[go_sem] theorem ty_zero_102 : tzero Go.Proofs.Tryz.prog 102 = some (.nf) := by kernel_rfl
@[go_sem] theorem ty_cells_103 : tcells Go.Proofs.Tryz.prog 103 = 1 := by kernel_rfl
@[go_sem] theorem ty_bytes_103 : tbytes Go.Proofs.Tryz.prog 103 = 8 := by kernel_rfl
@[go_sem] theorem ty_agg_103 : tagg Go.Proofs.Tryz.prog 103 = some false := by kernel_rfl
@[go_sem] theorem ty_elem_103 : elemT Go.Proofs.Tryz.prog 103 = none := by kernel_rfl
@[go_sem] theorem ty_str_103 : strT Go.Proofs.Tryz.prog 103 = false := by kernel_rfl
@[go_sem] theorem ty_zero_103 : tzero Go.Proofs.Tryz.prog 103 = some (.nf) := by kernel_rfl
@[go_sem] theorem ty_cells_104 : tcells Go.Proofs.Tryz.prog 104 = 1 := by kernel_rfl
@[go_sem] theorem ty_bytes_104 : tbytes Go.Proofs.Tryz.prog 104 = 8 := by kernel_rfl
@[go_sem] theorem ty_agg_104 : tagg Go.Proofs.Tryz.prog 104 = some false := by kernel_rfl
@[go_sem] theorem ty_elem_104 : elemT Go.Proofs.Tryz.prog 104 = none := by kernel_rfl
@[go_sem] theorem ty_str_104 : strT Go.Proofs.Tryz.prog 104 = false := by kernel_rfl
@[go_sem] theorem ty_zero_104 : tzero Go.Proofs.Tryz.prog 104 = some (.nf) := by kernel_rfl
@[go_sem] theorem ty_cells_105 : tcells Go.Proofs.Tryz.prog 105 = 1 := by kernel_rfl
@[go_sem] theorem ty_bytes_105 : tbytes Go.Proofs.Tryz.prog 105 = 8 := by kernel_rfl
@[go_sem] theorem ty_agg_105 : tagg Go.Proofs.Tryz.prog 105 = some false := by kernel_rfl
@[go_sem] theorem ty_elem_105 : elemT Go.Proofs.Tryz.prog 105 = none := by kernel_rfl
@[go_sem] theorem ty_str_105 : strT Go.Proofs.Tryz.prog 105 = false := by kernel_rfl
@[go_sem] theorem ty_zone_105 : zone Go.Proofs.Tryz.prog 105 = true := by kernel_rfl
@[go_sem] theorem ty_zero_105 : tzero Go.Proofs.Tryz.prog 105 = some (.nf) := by kernel_rfl
@[go_sem] theorem ty_cells_107 : tcells Go.Proofs.Tryz.prog 107 = 1 := by kernel_rfl
@[go_sem] theorem ty_bytes_107 : tbytes Go.Proofs.Tryz.prog 107 = 8 := by kernel_rfl
@[go_sem] theorem ty_agg_107 : tagg Go.Proofs.Tryz.prog 107 = some false := by kernel_rfl
@[go_sem] theorem ty_elem_107 : elemT Go.Proofs.Tryz.prog 107 = none := by kernel_rfl
@[go_sem] theorem ty_map_107 : mapT Go.Proofs.Tryz.prog 107 = some (3, 105) := by kernel_rfl
@[go_sem] theorem ty_str_107 : strT Go.Proofs.Tryz.prog 107 = false := by kernel_rfl
@[go_sem] theorem ty_cells_108 : tcells Go.Proofs.Tryz.prog 108 = 1 := by kernel_rfl
@[go_sem] theorem ty_bytes_108 : tbytes Go.Proofs.Tryz.prog 108 = 8 := by kernel_rfl
@[go_sem] theorem ty_agg_108 : tagg Go.Proofs.Tryz.prog 108 = some false := by kernel_rfl
@[go_sem] theorem ty_elem_108 : elemT Go.Proofs.Tryz.prog 108 = none := by kernel_rfl
@[go_sem] theorem ty_str_108 : strT Go.Proofs.Tryz.prog 108 = false := by kernel_rfl
@[go_sem] theorem ty_zero_108 : tzero Go.Proofs.Tryz.prog 108 = some (.nf) := by kernel_rfl
@[go_sem] theorem ty_cells_110 : tcells Go.Proofs.Tryz.prog 110 = 1 := by kernel_rfl
@[go_sem] theorem ty_bytes_110 : tbytes Go.Proofs.Tryz.prog 110 = 8 := by kernel_rfl
@[go_sem] theorem ty_agg_110 : tagg Go.Proofs.Tryz.prog 110 = some false := by kernel_rfl
@[go_sem] theorem ty_elem_110 : elemT Go.Proofs.Tryz.prog 110 = none := by kernel_rfl
@[go_sem] theorem ty_str_110 : strT Go.Proofs.Tryz.prog 110 = false := by kernel_rfl
@[go_sem] theorem ty_zero_110 : tzero Go.Proofs.Tryz.prog 110 = some (.nf) := by kernel_rfl
@[go_sem] theorem ty_cells_112 : tcells Go.Proofs.Tryz.prog 112 = 1 := by kernel_rfl
@[go_sem] theorem ty_bytes_112 : tbytes Go.Proofs.Tryz.prog 112 = 8 := by kernel_rfl
@[go_sem] theorem ty_agg_112 : tagg Go.Proofs.Tryz.prog 112 = some false := by kernel_rfl
@[go_sem] theorem ty_elem_112 : elemT Go.Proofs.Tryz.prog 112 = none := by kernel_rfl
@[go_sem] theorem ty_str_112 : strT Go.Proofs.Tryz.prog 112 = false := by kernel_rfl
@[go_sem] theorem ty_zero_112 : tzero Go.Proofs.Tryz.prog 112 = some (.nf) := by kernel_rfl
@[go_sem] theorem ty_cells_113 : tcells Go.Proofs.Tryz.prog 113 = 1 := by kernel_rfl
@[go_sem] theorem ty_bytes_113 : tbytes Go.Proofs.Tryz.prog 113 = 8 := by kernel_rfl
@[go_sem] theorem ty_agg_113 : tagg Go.Proofs.Tryz.prog 113 = some false := by kernel_rfl
@[go_sem] theorem ty_elem_113 : elemT Go.Proofs.Tryz.prog 113 = none := by kernel_rfl
@[go_sem] theorem ty_str_113 : strT Go.Proofs.Tryz.prog 113 = false := by kernel_rfl
@[go_sem] theorem ty_zero_113 : tzero Go.Proofs.Tryz.prog 113 = some (.nf) := by kernel_rfl
@[go_sem] theorem ty_cells_114 : tcells Go.Proofs.Tryz.prog 114 = 1 := by kernel_rfl
@[go_sem] theorem ty_bytes_114 : tbytes Go.Proofs.Tryz.prog 114 = 8 := by kernel_rfl
@[go_sem] theorem ty_agg_114 : tagg Go.Proofs.Tryz.prog 114 = some false := by kernel_rfl
@[go_sem] theorem ty_elem_114 : elemT Go.Proofs.Tryz.prog 114 = none := by kernel_rfl
@[go_sem] theorem ty_str_114 : strT Go.Proofs.Tryz.prog 114 = false := by kernel_rfl
@[go_sem] theorem ty_zero_114 : tzero Go.Proofs.Tryz.prog 114 = some (.nf) := by kernel_rfl
@[go_sem] theorem ty_cells_115 : tcells Go.Proofs.Tryz.prog 115 = 1 := by kernel_rfl
@[go_sem] theorem ty_bytes_115 : tbytes Go.Proofs.Tryz.prog 115 = 8 := by kernel_rfl
@[go_sem] theorem ty_agg_115 : tagg Go.Proofs.Tryz.prog 115 = some false := by kernel_rfl
@[go_sem] theorem ty_elem_115 : elemT Go.Proofs.Tryz.prog 115 = none := by kernel_rfl
@[go_sem] theorem ty_str_115 : strT Go.Proofs.Tryz.prog 115 = false := by kernel_rfl
@[go_sem] theorem ty_zero_115 : tzero Go.Proofs.Tryz.prog 115 = some (.nf) := by kernel_rfl
@[go_sem] theorem ty_cells_116 : tcells Go.Proofs.Tryz.prog 116 = 1 := by kernel_rfl
@[go_sem] theorem ty_bytes_116 : tbytes Go.Proofs.Tryz.prog 116 = 8 := by kernel_rfl
@[go_sem] theorem ty_agg_116 : tagg Go.Proofs.Tryz.prog 116 = some false := by kernel_rfl
@[go_sem] theorem ty_elem_116 : elemT Go.Proofs.Tryz.prog 116 = none := by kernel_rfl
@[go_sem] theorem ty_str_116 : strT Go.Proofs.Tryz.prog 116 = false := by kernel_rfl
@[go_sem] theorem ty_zero_116 : tzero Go.Proofs.Tryz.prog 116 = some (.nf) := by kernel_rfl
@[go_sem] theorem ty_cells_117 : tcells Go.Proofs.Tryz.prog 117 = 1 := by kernel_rfl
@[go_sem] theorem ty_bytes_117 : tbytes Go.Proofs.Tryz.prog 117 = 8 := by kernel_rfl
@[go_sem] theorem ty_agg_117 : tagg Go.Proofs.Tryz.prog 117 = some false := by kernel_rfl
@[go_sem] theorem ty_elem_117 : elemT Go.Proofs.Tryz.prog 117 = none := by kernel_rfl
@[go_sem] theorem ty_str_117 : strT Go.Proofs.Tryz.prog 117 = false := by kernel_rfl
@[go_sem] theorem ty_zero_117 : tzero Go.Proofs.Tryz.prog 117 = some (.nf) := by kernel_rfl
@[go_sem] theorem ty_cells_118 : tcells Go.Proofs.Tryz.prog 118 = 1 := by kernel_rfl
@[go_sem] theorem ty_bytes_118 : tbytes Go.Proofs.Tryz.prog 118 = 8 := by kernel_rfl
@[go_sem] theorem ty_agg_118 : tagg Go.Proofs.Tryz.prog 118 = some false := by kernel_rfl
@[go_sem] theorem ty_elem_118 : elemT Go.Proofs.Tryz.prog 118 = none := by kernel_rfl
@[go_sem] theorem ty_str_118 : strT Go.Proofs.Tryz.prog 118 = false := by kernel_rfl
@[go_sem] theorem ty_zero_118 : tzero Go.Proofs.Tryz.prog 118 = some (.nf) := by kernel_rfl
@[go_sem] theorem ty_cells_119 : tcells Go.Proofs.Tryz.prog 119 = 1 := by kernel_rfl
@[go_sem] theorem ty_bytes_119 : tbytes Go.Proofs.Tryz.prog 119 = 8 := by kernel_rfl
@[go_sem] theorem ty_agg_119 : tagg Go.Proofs.Tryz.prog 119 = some false := by kernel_rfl
@[go_sem] theorem ty_elem_119 : elemT Go.Proofs.Tryz.prog 119 = none := by kernel_rfl
@[go_sem] theorem ty_str_119 : strT Go.Proofs.Tryz.prog 119 = false := by kernel_rfl
@[go_sem] theorem ty_zero_119 : tzero Go.Proofs.Tryz.prog 119 = some (.nf) := by kernel_rfl
@[go_sem] theorem ty_cells_120 : tcells Go.Proofs.Tryz.prog 120 = 1 := by kernel_rfl
@[go_sem] theorem ty_bytes_120 : tbytes Go.Proofs.Tryz.prog 120 = 8 := by kernel_rfl
@[go_sem] theorem ty_agg_120 : tagg Go.Proofs.Tryz.prog 120 = some false := by kernel_rfl
@[go_sem] theorem ty_elem_120 : elemT Go.Proofs.Tryz.prog 120 = none := by kernel_rfl
@[go_sem] theorem ty_map_120 : mapT Go.Proofs.Tryz.prog 120 = some (125, 55) := by kernel_rfl
@[go_sem] theorem ty_str_120 : strT Go.Proofs.Tryz.prog 120 = false := by kernel_rfl
@[go_sem] theorem ty_cells_121 : tcells Go.Proofs.Tryz.prog 121 = 1 := by kernel_rfl
@[go_sem] theorem ty_bytes_121 : tbytes Go.Proofs.Tryz.prog 121 = 8 := by kernel_rfl
@[go_sem] theorem ty_agg_121 : tagg Go.Proofs.Tryz.prog 121 = some false := by kernel_rfl
@[go_sem] theorem ty_elem_121 : elemT Go.Proofs.Tryz.prog 121 = none := by kernel_rfl
@[go_sem] theorem ty_str_121 : strT Go.Proofs.Tryz.prog 121 = false := by kernel_rfl
@[go_sem] theorem ty_zero_121 : tzero Go.Proofs.Tryz.prog 121 = some (.nf) := by kernel_rfl
@[go_sem] theorem ty_cells_122 : tcells Go.Proofs.Tryz.prog 122 = 1 := by kernel_rfl
@[go_sem] theorem ty_bytes_122 : tbytes Go.Proofs.Tryz.prog 122 = 8 := by kernel_rfl
@[go_sem] theorem ty_agg_122 : tagg Go.Proofs.Tryz.prog 122 = some false := by kernel_rfl
@[go_sem] theorem ty_elem_122 : elemT Go.Proofs.Tryz.prog 122 = none := by kernel_rfl
@[go_sem] theorem ty_str_122 : strT Go.Proofs.Tryz.prog 122 = false := by kernel_rfl
@[go_sem] theorem ty_zero_122 : tzero Go.Proofs.Tryz.prog 122 = some (.nf) := by kernel_rfl
@[go_sem] theorem ty_cells_124 : tcells Go.Proofs.Tryz.prog 124 = 2 := by kernel_rfl
@[go_sem] theorem ty_bytes_124 : tbytes Go.Proofs.Tryz.prog 124 = 16 := by kernel_rfl
@[go_sem] theorem ty_agg_124 : tagg Go.Proofs.Tryz.prog 124 = some true := by kernel_rfl
@[go_sem] theorem ty_elem_124 : elemT Go.Proofs.Tryz.prog 124 = none := by kernel_rfl
@[go_sem] theorem ty_str_124 : strT Go.Proofs.Tryz.prog 124 = false := by kernel_rfl
@[go_sem] theorem ty_f_124_0 : finfo Go.Proofs.Tryz.prog 124 0 = some (0, 3) := by kernel_rfl
@[go_sem] theorem ty_f_124_1 : finfo Go.Proofs.Tryz.prog 124 1 = some (1, 3) := by kernel_rfl
@[go_sem] theorem ty_places_124 : placesT Go.Proofs.Tryz.prog 124 = some [(0, 1), (1, 1)] := by kernel_rfl
@[go_sem] theorem ty_eqg_124 : eqG Go.Proofs.Tryz.prog 124 = true := by kernel_rfl
@[go_sem] theorem ty_zero_124 : tzero Go.Proofs.Tryz.prog 124 = some (.d (.agg [(.int .i64 0), (.int .i64 0)])) := by kernel_rfl
@[go_sem] theorem ty_cells_125 : tcells Go.Proofs.Tryz.prog 125 = 2 := by kernel_rfl
@[go_sem] theorem ty_bytes_125 : tbytes Go.Proofs.Tryz.prog 125 = 16 := by kernel_rfl
@[go_sem] theorem ty_agg_125 : tagg Go.Proofs.Tryz.prog 125 = some true := by kernel_rfl
@[go_sem] theorem ty_elem_125 : elemT Go.Proofs.Tryz.prog 125 = none := by kernel_rfl
@[go_sem] theorem ty_str_125 : strT Go.Proofs.Tryz.prog 125 = false := by kernel_rfl
@[go_sem] theorem ty_f_125_0 : finfo Go.Proofs.Tryz.prog 125 0 = some (0, 3) := by kernel_rfl
@[go_sem] theorem ty_f_125_1 : finfo Go.Proofs.Tryz.prog 125 1 = some (1, 3) := by kernel_rfl
@[go_sem] theorem ty_places_125 : placesT Go.Proofs.Tryz.prog 125 = some [(0, 1), (1, 1)] := by kernel_rfl
@[go_sem] theorem ty_eqg_125 : eqG Go.Proofs.Tryz.prog 125 = true := by kernel_rfl
@[go_sem] theorem ty_zero_125 : tzero Go.Proofs.Tryz.prog 125 = some (.d (.agg [(.int .i64 0), (.int .i64 0)])) := by kernel_rfl
@[go_sem] theorem ty_cells_126 : tcells Go.Proofs.Tryz.prog 126 = 1 := by kernel_rfl
@[go_sem] theorem ty_bytes_126 : tbytes Go.Proofs.Tryz.prog 126 = 8 := by kernel_rfl
@[go_sem] theorem ty_agg_126 : tagg Go.Proofs.Tryz.prog 126 = some false := by kernel_rfl
@[go_sem] theorem ty_elem_126 : elemT Go.Proofs.Tryz.prog 126 = none := by kernel_rfl
@[go_sem] theorem ty_str_126 : strT Go.Proofs.Tryz.prog 126 = false := by kernel_rfl
@[go_sem] theorem ty_zero_126 : tzero Go.Proofs.Tryz.prog 126 = some (.nf) := by kernel_rfl
@[go_sem] theorem ty_cells_127 : tcells Go.Proofs.Tryz.prog 127 = 1 := by kernel_rfl
@[go_sem] theorem ty_bytes_127 : tbytes Go.Proofs.Tryz.prog 127 = 8 := by kernel_rfl
@[go_sem] theorem ty_agg_127 : tagg Go.Proofs.Tryz.prog 127 = some false := by kernel_rfl
@[go_sem] theorem ty_elem_127 : elemT Go.Proofs.Tryz.prog 127 = none := by kernel_rfl
@[go_sem] theorem ty_str_127 : strT Go.Proofs.Tryz.prog 127 = false := by kernel_rfl
@[go_sem] theorem ty_zero_127 : tzero Go.Proofs.Tryz.prog 127 = some (.nf) := by kernel_rfl
@[go_sem] theorem ty_cells_128 : tcells Go.Proofs.Tryz.prog 128 = 1 := by kernel_rfl
@[go_sem] theorem ty_bytes_128 : tbytes Go.Proofs.Tryz.prog 128 = 8 := by kernel_rfl
@[go_sem] theorem ty_agg_128 : tagg Go.Proofs.Tryz.prog 128 = some false := by kernel_rfl
@[go_sem] theorem ty_elem_128 : elemT Go.Proofs.Tryz.prog 128 = none := by kernel_rfl
@[go_sem] theorem ty_str_128 : strT Go.Proofs.Tryz.prog 128 = false := by kernel_rfl
@[go_sem] theorem ty_zone_128 : zone Go.Proofs.Tryz.prog 128 = true := by kernel_rfl
@[go_sem] theorem ty_zero_128 : tzero Go.Proofs.Tryz.prog 128 = some (.nf) := by kernel_rfl
@[go_sem] theorem ty_cells_130 : tcells Go.Proofs.Tryz.prog 130 = 1 := by kernel_rfl
@[go_sem] theorem ty_bytes_130 : tbytes Go.Proofs.Tryz.prog 130 = 8 := by kernel_rfl
@[go_sem] theorem ty_agg_130 : tagg Go.Proofs.Tryz.prog 130 = some false := by kernel_rfl
@[go_sem] theorem ty_elem_130 : elemT Go.Proofs.Tryz.prog 130 = none := by kernel_rfl
@[go_sem] theorem ty_map_130 : mapT Go.Proofs.Tryz.prog 130 = some (3, 128) := by kernel_rfl
@[go_sem] theorem ty_str_130 : strT Go.Proofs.Tryz.prog 130 = false := by kernel_rfl
@[go_sem] theorem ty_cells_131 : tcells Go.Proofs.Tryz.prog 131 = 1 := by kernel_rfl
@[go_sem] theorem ty_bytes_131 : tbytes Go.Proofs.Tryz.prog 131 = 8 := by kernel_rfl
@[go_sem] theorem ty_agg_131 : tagg Go.Proofs.Tryz.prog 131 = some false := by kernel_rfl
@[go_sem] theorem ty_elem_131 : elemT Go.Proofs.Tryz.prog 131 = none := by kernel_rfl
@[go_sem] theorem ty_str_131 : strT Go.Proofs.Tryz.prog 131 = false := by kernel_rfl
@[go_sem] theorem ty_zero_131 : tzero Go.Proofs.Tryz.prog 131 = some (.nf) := by kernel_rfl
@[go_sem] theorem ty_cells_132 : tcells Go.Proofs.Tryz.prog 132 = 1 := by kernel_rfl
@[go_sem] theorem ty_bytes_132 : tbytes Go.Proofs.Tryz.prog 132 = 8 := by kernel_rfl
@[go_sem] theorem ty_agg_132 : tagg Go.Proofs.Tryz.prog 132 = some false := by kernel_rfl
@[go_sem] theorem ty_elem_132 : elemT Go.Proofs.Tryz.prog 132 = none := by kernel_rfl
@[go_sem] theorem ty_str_132 : strT Go.Proofs.Tryz.prog 132 = false := by kernel_rfl
@[go_sem] theorem ty_zero_132 : tzero Go.Proofs.Tryz.prog 132 = some (.nf) := by kernel_rfl
@[go_sem] theorem ty_cells_134 : tcells Go.Proofs.Tryz.prog 134 = 1 := by kernel_rfl
@[go_sem] theorem ty_bytes_134 : tbytes Go.Proofs.Tryz.prog 134 = 8 := by kernel_rfl
@[go_sem] theorem ty_agg_134 : tagg Go.Proofs.Tryz.prog 134 = some false := by kernel_rfl
@[go_sem] theorem ty_elem_134 : elemT Go.Proofs.Tryz.prog 134 = none := by kernel_rfl
@[go_sem] theorem ty_str_134 : strT Go.Proofs.Tryz.prog 134 = false := by kernel_rfl
@[go_sem] theorem ty_zero_134 : tzero Go.Proofs.Tryz.prog 134 = some (.nf) := by kernel_rfl
@[go_sem] theorem ty_cells_135 : tcells Go.Proofs.Tryz.prog 135 = 2 := by kernel_rfl
@[go_sem] theorem ty_bytes_135 : tbytes Go.Proofs.Tryz.prog 135 = 16 := by kernel_rfl
@[go_sem] theorem ty_agg_135 : tagg Go.Proofs.Tryz.prog 135 = some true := by kernel_rfl
@[go_sem] theorem ty_elem_135 : elemT Go.Proofs.Tryz.prog 135 = none := by kernel_rfl
@[go_sem] theorem ty_str_135 : strT Go.Proofs.Tryz.prog 135 = false := by kernel_rfl
@[go_sem] theorem ty_f_135_0 : finfo Go.Proofs.Tryz.prog 135 0 = some (0, 3) := by kernel_rfl
@[go_sem] theorem ty_f_135_1 : finfo Go.Proofs.Tryz.prog 135 1 = some (1, 3) := by kernel_rfl
@[go_sem] theorem ty_places_135 : placesT Go.Proofs.Tryz.prog 135 = some [(0, 1), (1, 1)] := by kernel_rfl
@[go_sem] theorem ty_eqg_135 : eqG Go.Proofs.Tryz.prog 135 = true := by kernel_rfl
@[go_sem] theorem ty_zero_135 : tzero Go.Proofs.Tryz.prog 135 = some (.d (.agg [(.int .i64 0), (.int .i64 0)])) := by kernel_rfl
@[go_sem] theorem ty_cells_136 : tcells Go.Proofs.Tryz.prog 136 = 2 := by kernel_rfl
@[go_sem] theorem ty_bytes_136 : tbytes Go.Proofs.Tryz.prog 136 = 16 := by kernel_rfl
@[go_sem] theorem ty_agg_136 : tagg Go.Proofs.Tryz.prog 136 = some true := by kernel_rfl
@[go_sem] theorem ty_elem_136 : elemT Go.Proofs.Tryz.prog 136 = none := by kernel_rfl
@[go_sem] theorem ty_str_136 : strT Go.Proofs.Tryz.prog 136 = false := by kernel_rfl
@[go_sem] theorem ty_f_136_0 : finfo Go.Proofs.Tryz.prog 136 0 = some (0, 3) := by kernel_rfl
@[go_sem] theorem ty_f_136_1 : finfo Go.Proofs.Tryz.prog 136 1 = some (1, 3) := by kernel_rfl
@[go_sem] theorem ty_places_136 : placesT Go.Proofs.Tryz.prog 136 = some [(0, 1), (1, 1)] := by kernel_rfl
@[go_sem] theorem ty_eqg_136 : eqG Go.Proofs.Tryz.prog 136 = true := by kernel_rfl
@[go_sem] theorem ty_zero_136 : tzero Go.Proofs.Tryz.prog 136 = some (.d (.agg [(.int .i64 0), (.int .i64 0)])) := by kernel_rfl
@[go_sem] theorem ty_cells_137 : tcells Go.Proofs.Tryz.prog 137 = 1 := by kernel_rfl
@[go_sem] theorem ty_bytes_137 : tbytes Go.Proofs.Tryz.prog 137 = 8 := by kernel_rfl
@[go_sem] theorem ty_agg_137 : tagg Go.Proofs.Tryz.prog 137 = some false := by kernel_rfl
@[go_sem] theorem ty_elem_137 : elemT Go.Proofs.Tryz.prog 137 = none := by kernel_rfl
@[go_sem] theorem ty_str_137 : strT Go.Proofs.Tryz.prog 137 = false := by kernel_rfl
@[go_sem] theorem ty_zero_137 : tzero Go.Proofs.Tryz.prog 137 = some (.nf) := by kernel_rfl
@[go_sem] theorem ty_cells_138 : tcells Go.Proofs.Tryz.prog 138 = 1 := by kernel_rfl
@[go_sem] theorem ty_bytes_138 : tbytes Go.Proofs.Tryz.prog 138 = 8 := by kernel_rfl
@[go_sem] theorem ty_agg_138 : tagg Go.Proofs.Tryz.prog 138 = some false := by kernel_rfl
@[go_sem] theorem ty_elem_138 : elemT Go.Proofs.Tryz.prog 138 = none := by kernel_rfl
@[go_sem] theorem ty_str_138 : strT Go.Proofs.Tryz.prog 138 = false := by kernel_rfl
@[go_sem] theorem ty_zero_138 : tzero Go.Proofs.Tryz.prog 138 = some (.nf) := by kernel_rfl
@[go_sem] theorem ty_cells_139 : tcells Go.Proofs.Tryz.prog 139 = 1 := by kernel_rfl
@[go_sem] theorem ty_bytes_139 : tbytes Go.Proofs.Tryz.prog 139 = 8 := by kernel_rfl
@[go_sem] theorem ty_agg_139 : tagg Go.Proofs.Tryz.prog 139 = some false := by kernel_rfl
@[go_sem] theorem ty_elem_139 : elemT Go.Proofs.Tryz.prog 139 = none := by kernel_rfl
@[go_sem] theorem ty_str_139 : strT Go.Proofs.Tryz.prog 139 = false := by kernel_rfl
@[go_sem] theorem ty_zero_139 : tzero Go.Proofs.Tryz.prog 139 = some (.nf) := by kernel_rfl
@[go_sem] theorem ty_cells_140 : tcells Go.Proofs.Tryz.prog 140 = 1 := by kernel_rfl
@[go_sem] theorem ty_bytes_140 : tbytes Go.Proofs.Tryz.prog 140 = 8 := by kernel_rfl
@[go_sem] theorem ty_agg_140 : tagg Go.Proofs.Tryz.prog 140 = some false := by kernel_rfl
@[go_sem] theorem ty_elem_140 : elemT Go.Proofs.Tryz.prog 140 = none := by kernel_rfl
@[go_sem] theorem ty_str_140 : strT Go.Proofs.Tryz.prog 140 = false := by kernel_rfl
@[go_sem] theorem ty_zero_140 : tzero Go.Proofs.Tryz.prog 140 = some (.nf) := by kernel_rfl
@[go_sem] theorem ty_cells_141 : tcells Go.Proofs.Tryz.prog 141 = 2 := by kernel_rfl
@[go_sem] theorem ty_bytes_141 : tbytes Go.Proofs.Tryz.prog 141 = 16 := by kernel_rfl
@[go_sem] theorem ty_agg_141 : tagg Go.Proofs.Tryz.prog 141 = some true := by kernel_rfl
@[go_sem] theorem ty_elem_141 : elemT Go.Proofs.Tryz.prog 141 = none := by kernel_rfl
@[go_sem] theorem ty_str_141 : strT Go.Proofs.Tryz.prog 141 = false := by kernel_rfl
@[go_sem] theorem ty_f_141_0 : finfo Go.Proofs.Tryz.prog 141 0 = some (0, 140) := by kernel_rfl
@[go_sem] theorem ty_f_141_1 : finfo Go.Proofs.Tryz.prog 141 1 = some (1, 74) := by kernel_rfl
@[go_sem] theorem ty_places_141 : placesT Go.Proofs.Tryz.prog 141 = some [(0, 1), (1, 1)] := by kernel_rfl
@[go_sem] theorem ty_zero_141 : tzero Go.Proofs.Tryz.prog 141 = some (.agg [.nf, .nf]) := by kernel_rfl
@[go_sem] theorem ty_cells_142 : tcells Go.Proofs.Tryz.prog 142 = 2 := by kernel_rfl
@[go_sem] theorem ty_bytes_142 : tbytes Go.Proofs.Tryz.prog 142 = 16 := by kernel_rfl
@[go_sem] theorem ty_agg_142 : tagg Go.Proofs.Tryz.prog 142 = some true := by kernel_rfl
@[go_sem] theorem ty_elem_142 : elemT Go.Proofs.Tryz.prog 142 = none := by kernel_rfl
@[go_sem] theorem ty_str_142 : strT Go.Proofs.Tryz.prog 142 = false := by kernel_rfl
@[go_sem] theorem ty_f_142_0 : finfo Go.Proofs.Tryz.prog 142 0 = some (0, 140) := by kernel_rfl
@[go_sem] theorem ty_f_142_1 : finfo Go.Proofs.Tryz.prog 142 1 = some (1, 74) := by kernel_rfl
@[go_sem] theorem ty_places_142 : placesT Go.Proofs.Tryz.prog 142 = some [(0, 1), (1, 1)] := by kernel_rfl
@[go_sem] theorem ty_zone_142 : zone Go.Proofs.Tryz.prog 142 = true := by kernel_rfl
@[go_sem] theorem ty_zero_142 : tzero Go.Proofs.Tryz.prog 142 = some (.agg [.nf, .nf]) := by kernel_rfl
@[go_sem] theorem ty_cells_144 : tcells Go.Proofs.Tryz.prog 144 = 1 := by kernel_rfl
@[go_sem] theorem ty_bytes_144 : tbytes Go.Proofs.Tryz.prog 144 = 8 := by kernel_rfl
@[go_sem] theorem ty_agg_144 : tagg Go.Proofs.Tryz.prog 144 = some false := by kernel_rfl
@[go_sem] theorem ty_elem_144 : elemT Go.Proofs.Tryz.prog 144 = none := by kernel_rfl
@[go_sem] theorem ty_map_144 : mapT Go.Proofs.Tryz.prog 144 = some (3, 142) := by kernel_rfl
@[go_sem] theorem ty_str_144 : strT Go.Proofs.Tryz.prog 144 = false := by kernel_rfl
@[go_sem] theorem ty_cells_145 : tcells Go.Proofs.Tryz.prog 145 = 1 := by kernel_rfl
@[go_sem] theorem ty_bytes_145 : tbytes Go.Proofs.Tryz.prog 145 = 8 := by kernel_rfl
@[go_sem] theorem ty_agg_145 : tagg Go.Proofs.Tryz.prog 145 = some false := by kernel_rfl
@[go_sem] theorem ty_elem_145 : elemT Go.Proofs.Tryz.prog 145 = none := by kernel_rfl
@[go_sem] theorem ty_str_145 : strT Go.Proofs.Tryz.prog 145 = false := by kernel_rfl
@[go_sem] theorem ty_zero_145 : tzero Go.Proofs.Tryz.prog 145 = some (.nf) := by kernel_rfl
@[go_sem] theorem ty_cells_146 : tcells Go.Proofs.Tryz.prog 146 = 1 := by kernel_rfl
@[go_sem] theorem ty_bytes_146 : tbytes Go.Proofs.Tryz.prog 146 = 8 := by kernel_rfl
@[go_sem] theorem ty_agg_146 : tagg Go.Proofs.Tryz.prog 146 = some false := by kernel_rfl
@[go_sem] theorem ty_elem_146 : elemT Go.Proofs.Tryz.prog 146 = none := by kernel_rfl
@[go_sem] theorem ty_str_146 : strT Go.Proofs.Tryz.prog 146 = false := by kernel_rfl
@[go_sem] theorem ty_zero_146 : tzero Go.Proofs.Tryz.prog 146 = some (.nf) := by kernel_rfl
@[go_sem] theorem ty_cells_147 : tcells Go.Proofs.Tryz.prog 147 = 1 := by kernel_rfl
@[go_sem] theorem ty_bytes_147 : tbytes Go.Proofs.Tryz.prog 147 = 8 := by kernel_rfl
@[go_sem] theorem ty_agg_147 : tagg Go.Proofs.Tryz.prog 147 = some false := by kernel_rfl
@[go_sem] theorem ty_elem_147 : elemT Go.Proofs.Tryz.prog 147 = none := by kernel_rfl
@[go_sem] theorem ty_str_147 : strT Go.Proofs.Tryz.prog 147 = false := by kernel_rfl
@[go_sem] theorem ty_zero_147 : tzero Go.Proofs.Tryz.prog 147 = some (.nf) := by kernel_rfl
@[go_sem] theorem ty_cells_148 : tcells Go.Proofs.Tryz.prog 148 = 1 := by kernel_rfl
@[go_sem] theorem ty_bytes_148 : tbytes Go.Proofs.Tryz.prog 148 = 8 := by kernel_rfl
@[go_sem] theorem ty_agg_148 : tagg Go.Proofs.Tryz.prog 148 = some false := by kernel_rfl
@[go_sem] theorem ty_elem_148 : elemT Go.Proofs.Tryz.prog 148 = none := by kernel_rfl
@[go_sem] theorem ty_str_148 : strT Go.Proofs.Tryz.prog 148 = false := by kernel_rfl
@[go_sem] theorem ty_zero_148 : tzero Go.Proofs.Tryz.prog 148 = some (.nf) := by kernel_rfl
@[go_sem] theorem ty_cells_149 : tcells Go.Proofs.Tryz.prog 149 = 1 := by kernel_rfl
@[go_sem] theorem ty_bytes_149 : tbytes Go.Proofs.Tryz.prog 149 = 8 := by kernel_rfl
@[go_sem] theorem ty_agg_149 : tagg Go.Proofs.Tryz.prog 149 = some false := by kernel_rfl
@[go_sem] theorem ty_elem_149 : elemT Go.Proofs.Tryz.prog 149 = none := by kernel_rfl
@[go_sem] theorem ty_str_149 : strT Go.Proofs.Tryz.prog 149 = false := by kernel_rfl
@[go_sem] theorem ty_zero_149 : tzero Go.Proofs.Tryz.prog 149 = some (.nf) := by kernel_rfl
@[go_sem] theorem ty_cells_150 : tcells Go.Proofs.Tryz.prog 150 = 1 := by kernel_rfl
@[go_sem] theorem ty_bytes_150 : tbytes Go.Proofs.Tryz.prog 150 = 24 := by kernel_rfl
@[go_sem] theorem ty_agg_150 : tagg Go.Proofs.Tryz.prog 150 = some false := by kernel_rfl
@[go_sem] theorem ty_elem_150 : elemT Go.Proofs.Tryz.prog 150 = some 26 := by kernel_rfl
@[go_sem] theorem ty_elok_150 : elemOK Go.Proofs.Tryz.prog 150 = true := by kernel_rfl
@[go_sem] theorem ty_str_150 : strT Go.Proofs.Tryz.prog 150 = false := by kernel_rfl
@[go_sem] theorem ty_zero_150 : tzero Go.Proofs.Tryz.prog 150 = some (.nils) := by kernel_rfl
@[go_sem] theorem ty_cells_151 : tcells Go.Proofs.Tryz.prog 151 = 1 := by kernel_rfl
@[go_sem] theorem ty_bytes_151 : tbytes Go.Proofs.Tryz.prog 151 = 8 := by kernel_rfl
@[go_sem] theorem ty_agg_151 : tagg Go.Proofs.Tryz.prog 151 = some false := by kernel_rfl
@[go_sem] theorem ty_elem_151 : elemT Go.Proofs.Tryz.prog 151 = none := by kernel_rfl
@[go_sem] theorem ty_str_151 : strT Go.Proofs.Tryz.prog 151 = false := by kernel_rfl
@[go_sem] theorem ty_zero_151 : tzero Go.Proofs.Tryz.prog 151 = some (.nf) := by kernel_rfl
@[go_sem] theorem ty_cells_152 : tcells Go.Proofs.Tryz.prog 152 = 1 := by kernel_rfl
@[go_sem] theorem ty_bytes_152 : tbytes Go.Proofs.Tryz.prog 152 = 8 := by kernel_rfl
@[go_sem] theorem ty_agg_152 : tagg Go.Proofs.Tryz.prog 152 = some false := by kernel_rfl
@[go_sem] theorem ty_elem_152 : elemT Go.Proofs.Tryz.prog 152 = none := by kernel_rfl
@[go_sem] theorem ty_str_152 : strT Go.Proofs.Tryz.prog 152 = false := by kernel_rfl
@[go_sem] theorem ty_zero_152 : tzero Go.Proofs.Tryz.prog 152 = some (.nf) := by kernel_rfl
@[go_sem] theorem ty_cells_153 : tcells Go.Proofs.Tryz.prog 153 = 1 := by kernel_rfl
@[go_sem] theorem ty_bytes_153 : tbytes Go.Proofs.Tryz.prog 153 = 8 := by kernel_rfl
@[go_sem] theorem ty_agg_153 : tagg Go.Proofs.Tryz.prog 153 = some false := by kernel_rfl
@[go_sem] theorem ty_elem_153 : elemT Go.Proofs.Tryz.prog 153 = none := by kernel_rfl
@[go_sem] theorem ty_str_153 : strT Go.Proofs.Tryz.prog 153 = false := by kernel_rfl
@[go_sem] theorem ty_zero_153 : tzero Go.Proofs.Tryz.prog 153 = some (.nf) := by kernel_rfl
@[go_sem] theorem ty_cells_154 : tcells Go.Proofs.Tryz.prog 154 = 1 := by kernel_rfl
@[go_sem] theorem ty_bytes_154 : tbytes Go.Proofs.Tryz.prog 154 = 8 := by kernel_rfl
@[go_sem] theorem ty_agg_154 : tagg Go.Proofs.Tryz.prog 154 = some false := by kernel_rfl
@[go_sem] theorem ty_elem_154 : elemT Go.Proofs.Tryz.prog 154 = none := by kernel_rfl
@[go_sem] theorem ty_map_154 : mapT Go.Proofs.Tryz.prog 154 = some (3, 4) := by kernel_rfl
@[go_sem] theorem ty_str_154 : strT Go.Proofs.Tryz.prog 154 = false := by kernel_rfl
@[go_sem] theorem ty_cells_155 : tcells Go.Proofs.Tryz.prog 155 = 1 := by kernel_rfl
@[go_sem] theorem ty_bytes_155 : tbytes Go.Proofs.Tryz.prog 155 = 8 := by kernel_rfl
@[go_sem] theorem ty_agg_155 : tagg Go.Proofs.Tryz.prog 155 = some false := by kernel_rfl
@[go_sem] theorem ty_elem_155 : elemT Go.Proofs.Tryz.prog 155 = none := by kernel_rfl
@[go_sem] theorem ty_str_155 : strT Go.Proofs.Tryz.prog 155 = false := by kernel_rfl
@[go_sem] theorem ty_zero_155 : tzero Go.Proofs.Tryz.prog 155 = some (.nf) := by kernel_rfl
@[go_sem] theorem ty_cells_156 : tcells Go.Proofs.Tryz.prog 156 = 1 := by kernel_rfl
@[go_sem] theorem ty_bytes_156 : tbytes Go.Proofs.Tryz.prog 156 = 24 := by kernel_rfl
@[go_sem] theorem ty_agg_156 : tagg Go.Proofs.Tryz.prog 156 = some false := by kernel_rfl
@[go_sem] theorem ty_elem_156 : elemT Go.Proofs.Tryz.prog 156 = some 3 := by kernel_rfl
@[go_sem] theorem ty_elok_156 : elemOK Go.Proofs.Tryz.prog 156 = true := by kernel_rfl
@[go_sem] theorem ty_str_156 : strT Go.Proofs.Tryz.prog 156 = false := by kernel_rfl
@[go_sem] theorem ty_zero_156 : tzero Go.Proofs.Tryz.prog 156 = some (.nils) := by kernel_rfl
@[go_sem] theorem ty_cells_157 : tcells Go.Proofs.Tryz.prog 157 = 1 := by kernel_rfl
@[go_sem] theorem ty_bytes_157 : tbytes Go.Proofs.Tryz.prog 157 = 8 := by kernel_rfl
@[go_sem] theorem ty_agg_157 : tagg Go.Proofs.Tryz.prog 157 = some false := by kernel_rfl
@[go_sem] theorem ty_elem_157 : elemT Go.Proofs.Tryz.prog 157 = none := by kernel_rfl
@[go_sem] theorem ty_str_157 : strT Go.Proofs.Tryz.prog 157 = false := by kernel_rfl
@[go_sem] theorem ty_zero_157 : tzero Go.Proofs.Tryz.prog 157 = some (.nf) := by kernel_rfl
@[go_sem] theorem ty_cells_158 : tcells Go.Proofs.Tryz.prog 158 = 1 := by kernel_rfl
@[go_sem] theorem ty_bytes_158 : tbytes Go.Proofs.Tryz.prog 158 = 8 := by kernel_rfl
@[go_sem] theorem ty_agg_158 : tagg Go.Proofs.Tryz.prog 158 = some false := by kernel_rfl
@[go_sem] theorem ty_elem_158 : elemT Go.Proofs.Tryz.prog 158 = none := by kernel_rfl
@[go_sem] theorem ty_str_158 : strT Go.Proofs.Tryz.prog 158 = false := by kernel_rfl
@[go_sem] theorem ty_int_158 : intT Go.Proofs.Tryz.prog 158 = some .u64 := by kernel_rfl
@[go_sem] theorem ty_zero_158 : tzero Go.Proofs.Tryz.prog 158 = some (.d (.int .u64 0)) := by kernel_rfl
@[go_sem] theorem ty_cells_159 : tcells Go.Proofs.Tryz.prog 159 = 1 := by kernel_rfl
@[go_sem] theorem ty_bytes_159 : tbytes Go.Proofs.Tryz.prog 159 = 8 := by kernel_rfl
@[go_sem] theorem ty_agg_159 : tagg Go.Proofs.Tryz.prog 159 = some false := by kernel_rfl
@[go_sem] theorem ty_elem_159 : elemT Go.Proofs.Tryz.prog 159 = none := by kernel_rfl
@[go_sem] theorem ty_str_159 : strT Go.Proofs.Tryz.prog 159 = false := by kernel_rfl
@[go_sem] theorem ty_zero_159 : tzero Go.Proofs.Tryz.prog 159 = some (.nf) := by kernel_rfl
@[go_sem] theorem ty_cells_160 : tcells Go.Proofs.Tryz.prog 160 = 1 := by kernel_rfl
@[go_sem] theorem ty_bytes_160 : tbytes Go.Proofs.Tryz.prog 160 = 8 := by kernel_rfl
@[go_sem] theorem ty_agg_160 : tagg Go.Proofs.Tryz.prog 160 = some false := by kernel_rfl
@[go_sem] theorem ty_elem_160 : elemT Go.Proofs.Tryz.prog 160 = none := by kernel_rfl
@[go_sem] theorem ty_str_160 : strT Go.Proofs.Tryz.prog 160 = false := by kernel_rfl
@[go_sem] theorem ty_zero_160 : tzero Go.Proofs.Tryz.prog 160 = some (.nf) := by kernel_rfl
@[go_sem] theorem ty_cells_162 : tcells Go.Proofs.Tryz.prog 162 = 1 := by kernel_rfl
@[go_sem] theorem ty_bytes_162 : tbytes Go.Proofs.Tryz.prog 162 = 8 := by kernel_rfl
@[go_sem] theorem ty_agg_162 : tagg Go.Proofs.Tryz.prog 162 = some false := by kernel_rfl
@[go_sem] theorem ty_elem_162 : elemT Go.Proofs.Tryz.prog 162 = none := by kernel_rfl
@[go_sem] theorem ty_str_162 : strT Go.Proofs.Tryz.prog 162 = false := by kernel_rfl
@[go_sem] theorem ty_zero_162 : tzero Go.Proofs.Tryz.prog 162 = some (.nf) := by kernel_rfl
@[go_sem] theorem ty_cells_163 : tcells Go.Proofs.Tryz.prog 163 = 1 := by kernel_rfl
@[go_sem] theorem ty_bytes_163 : tbytes Go.Proofs.Tryz.prog 163 = 8 := by kernel_rfl
@[go_sem] theorem ty_agg_163 : tagg Go.Proofs.Tryz.prog 163 = some false := by kernel_rfl
@[go_sem] theorem ty_elem_163 : elemT Go.Proofs.Tryz.prog 163 = none := by kernel_rfl
@[go_sem] theorem ty_str_163 : strT Go.Proofs.Tryz.prog 163 = false := by kernel_rfl
@[go_sem] theorem ty_zero_163 : tzero Go.Proofs.Tryz.prog 163 = some (.nf) := by kernel_rfl
@[go_sem] theorem ty_cells_164 : tcells Go.Proofs.Tryz.prog 164 = 1 := by kernel_rfl
@[go_sem] theorem ty_bytes_164 : tbytes Go.Proofs.Tryz.prog 164 = 8 := by kernel_rfl
@[go_sem] theorem ty_agg_164 : tagg Go.Proofs.Tryz.prog 164 = some false := by kernel_rfl
@[go_sem] theorem ty_elem_164 : elemT Go.Proofs.Tryz.prog 164 = none := by kernel_rfl
@[go_sem] theorem ty_str_164 : strT Go.Proofs.Tryz.prog 164 = false := by kernel_rfl
@[go_sem] theorem ty_zero_164 : tzero Go.Proofs.Tryz.prog 164 = some (.nf) := by kernel_rfl
@[go_sem] theorem ty_cells_165 : tcells Go.Proofs.Tryz.prog 165 = 1 := by kernel_rfl
@[go_sem] theorem ty_bytes_165 : tbytes Go.Proofs.Tryz.prog 165 = 8 := by kernel_rfl
@[go_sem] theorem ty_agg_165 : tagg Go.Proofs.Tryz.prog 165 = some false := by kernel_rfl
@[go_sem] theorem ty_elem_165 : elemT Go.Proofs.Tryz.prog 165 = none := by kernel_rfl
@[go_sem] theorem ty_str_165 : strT Go.Proofs.Tryz.prog 165 = false := by kernel_rfl
@[go_sem] theorem ty_zero_165 : tzero Go.Proofs.Tryz.prog 165 = some (.nf) := by kernel_rfl
@[go_sem] theorem ty_cells_166 : tcells Go.Proofs.Tryz.prog 166 = 1 := by kernel_rfl
@[go_sem] theorem ty_bytes_166 : tbytes Go.Proofs.Tryz.prog 166 = 8 := by kernel_rfl
@[go_sem] theorem ty_agg_166 : tagg Go.Proofs.Tryz.prog 166 = some false := by kernel_rfl
@[go_sem] theorem ty_elem_166 : elemT Go.Proofs.Tryz.prog 166 = none := by kernel_rfl
@[go_sem] theorem ty_str_166 : strT Go.Proofs.Tryz.prog 166 = false := by kernel_rfl
@[go_sem] theorem ty_zero_166 : tzero Go.Proofs.Tryz.prog 166 = some (.nf) := by kernel_rfl
@[go_sem] theorem ty_cells_167 : tcells Go.Proofs.Tryz.prog 167 = 1 := by kernel_rfl
@[go_sem] theorem ty_bytes_167 : tbytes Go.Proofs.Tryz.prog 167 = 8 := by kernel_rfl
@[go_sem] theorem ty_agg_167 : tagg Go.Proofs.Tryz.prog 167 = some false := by kernel_rfl
@[go_sem] theorem ty_elem_167 : elemT Go.Proofs.Tryz.prog 167 = none := by kernel_rfl
@[go_sem] theorem ty_str_167 : strT Go.Proofs.Tryz.prog 167 = false := by kernel_rfl
@[go_sem] theorem ty_zero_167 : tzero Go.Proofs.Tryz.prog 167 = some (.nf) := by kernel_rfl
@[go_sem] theorem ty_cells_168 : tcells Go.Proofs.Tryz.prog 168 = 1 := by kernel_rfl
@[go_sem] theorem ty_bytes_168 : tbytes Go.Proofs.Tryz.prog 168 = 8 := by kernel_rfl
@[go_sem] theorem ty_agg_168 : tagg Go.Proofs.Tryz.prog 168 = some false := by kernel_rfl
@[go_sem] theorem ty_elem_168 : elemT Go.Proofs.Tryz.prog 168 = none := by kernel_rfl
@[go_sem] theorem ty_str_168 : strT Go.Proofs.Tryz.prog 168 = false := by kernel_rfl
@[go_sem] theorem ty_zero_168 : tzero Go.Proofs.Tryz.prog 168 = some (.nf) := by kernel_rfl
@[go_sem] theorem ty_cells_169 : tcells Go.Proofs.Tryz.prog 169 = 1 := by kernel_rfl
@[go_sem] theorem ty_bytes_169 : tbytes Go.Proofs.Tryz.prog 169 = 8 := by kernel_rfl
@[go_sem] theorem ty_agg_169 : tagg Go.Proofs.Tryz.prog 169 = some false := by kernel_rfl
@[go_sem] theorem ty_elem_169 : elemT Go.Proofs.Tryz.prog 169 = none := by kernel_rfl
@[go_sem] theorem ty_str_169 : strT Go.Proofs.Tryz.prog 169 = false := by kernel_rfl
@[go_sem] theorem ty_zero_169 : tzero Go.Proofs.Tryz.prog 169 = some (.nf) := by kernel_rfl
@[go_sem] theorem ty_cells_170 : tcells Go.Proofs.Tryz.prog 170 = 1 := by kernel_rfl
@[go_sem] theorem ty_bytes_170 : tbytes Go.Proofs.Tryz.prog 170 = 8 := by kernel_rfl
@[go_sem] theorem ty_agg_170 : tagg Go.Proofs.Tryz.prog 170 = some false := by kernel_rfl
@[go_sem] theorem ty_elem_170 : elemT Go.Proofs.Tryz.prog 170 = none := by kernel_rfl
@[go_sem] theorem ty_str_170 : strT Go.Proofs.Tryz.prog 170 = false := by kernel_rfl
@[go_sem] theorem ty_zero_170 : tzero Go.Proofs.Tryz.prog 170 = some (.nf) := by kernel_rfl
@[go_sem] theorem ty_cells_171 : tcells Go.Proofs.Tryz.prog 171 = 1 := by kernel_rfl
@[go_sem] theorem ty_bytes_171 : tbytes Go.Proofs.Tryz.prog 171 = 8 := by kernel_rfl
@[go_sem] theorem ty_agg_171 : tagg Go.Proofs.Tryz.prog 171 = some false := by kernel_rfl
@[go_sem] theorem ty_elem_171 : elemT Go.Proofs.Tryz.prog 171 = none := by kernel_rfl
@[go_sem] theorem ty_str_171 : strT Go.Proofs.Tryz.prog 171 = false := by kernel_rfl
@[go_sem] theorem ty_zero_171 : tzero Go.Proofs.Tryz.prog 171 = some (.nf) := by kernel_rfl
@[go_sem] theorem ty_cells_173 : tcells Go.Proofs.Tryz.prog 173 = 1 := by kernel_rfl
@[go_sem] theorem ty_bytes_173 : tbytes Go.Proofs.Tryz.prog 173 = 8 := by kernel_rfl
@[go_sem] theorem ty_agg_173 : tagg Go.Proofs.Tryz.prog 173 = some false := by kernel_rfl
@[go_sem] theorem ty_elem_173 : elemT Go.Proofs.Tryz.prog 173 = none := by kernel_rfl
@[go_sem] theorem ty_str_173 : strT Go.Proofs.Tryz.prog 173 = false := by kernel_rfl
@[go_sem] theorem ty_zero_173 : tzero Go.Proofs.Tryz.prog 173 = some (.nf) := by kernel_rfl
@[go_sem] theorem ty_cells_174 : tcells Go.Proofs.Tryz.prog 174 = 1 := by kernel_rfl
@[go_sem] theorem ty_bytes_174 : tbytes Go.Proofs.Tryz.prog 174 = 8 := by kernel_rfl
@[go_sem] theorem ty_agg_174 : tagg Go.Proofs.Tryz.prog 174 = some false := by kernel_rfl
@[go_sem] theorem ty_elem_174 : elemT Go.Proofs.Tryz.prog 174 = none := by kernel_rfl
@[go_sem] theorem ty_str_174 : strT Go.Proofs.Tryz.prog 174 = false := by kernel_rfl
@[go_sem] theorem ty_zero_174 : tzero Go.Proofs.Tryz.prog 174 = some (.nf) := by kernel_rfl
@[go_sem] theorem ty_cells_175 : tcells Go.Proofs.Tryz.prog 175 = 1 := by kernel_rfl
@[go_sem] theorem ty_bytes_175 : tbytes Go.Proofs.Tryz.prog 175 = 8 := by kernel_rfl
@[go_sem] theorem ty_agg_175 : tagg Go.Proofs.Tryz.prog 175 = some false := by kernel_rfl
@[go_sem] theorem ty_elem_175 : elemT Go.Proofs.Tryz.prog 175 = none := by kernel_rfl
@[go_sem] theorem ty_str_175 : strT Go.Proofs.Tryz.prog 175 = false := by kernel_rfl
@[go_sem] theorem ty_zero_175 : tzero Go.Proofs.Tryz.prog 175 = some (.nf) := by kernel_rfl
@[go_sem] theorem ty_cells_177 : tcells Go.Proofs.Tryz.prog 177 = 1 := by kernel_rfl
@[go_sem] theorem ty_bytes_177 : tbytes Go.Proofs.Tryz.prog 177 = 8 := by kernel_rfl
@[go_sem] theorem ty_agg_177 : tagg Go.Proofs.Tryz.prog 177 = some false := by kernel_rfl
@[go_sem] theorem ty_elem_177 : elemT Go.Proofs.Tryz.prog 177 = none := by kernel_rfl
@[go_sem] theorem ty_str_177 : strT Go.Proofs.Tryz.prog 177 = false := by kernel_rfl
@[go_sem] theorem ty_zero_177 : tzero Go.Proofs.Tryz.prog 177 = some (.nf) := by kernel_rfl
@[go_sem] theorem ty_cells_178 : tcells Go.Proofs.Tryz.prog 178 = 1 := by kernel_rfl
@[go_sem] theorem ty_bytes_178 : tbytes Go.Proofs.Tryz.prog 178 = 8 := by kernel_rfl
@[go_sem] theorem ty_agg_178 : tagg Go.Proofs.Tryz.prog 178 = some false := by kernel_rfl
@[go_sem] theorem ty_elem_178 : elemT Go.Proofs.Tryz.prog 178 = none := by kernel_rfl
@[go_sem] theorem ty_str_178 : strT Go.Proofs.Tryz.prog 178 = false := by kernel_rfl
@[go_sem] theorem ty_zero_178 : tzero Go.Proofs.Tryz.prog 178 = some (.nf) := by kernel_rfl
@[go_sem] theorem ty_cells_180 : tcells Go.Proofs.Tryz.prog 180 = 1 := by kernel_rfl
@[go_sem] theorem ty_bytes_180 : tbytes Go.Proofs.Tryz.prog 180 = 8 := by kernel_rfl
@[go_sem] theorem ty_agg_180 : tagg Go.Proofs.Tryz.prog 180 = some false := by kernel_rfl
@[go_sem] theorem ty_elem_180 : elemT Go.Proofs.Tryz.prog 180 = none := by kernel_rfl
@[go_sem] theorem ty_str_180 : strT Go.Proofs.Tryz.prog 180 = false := by kernel_rfl
@[go_sem] theorem ty_zero_180 : tzero Go.Proofs.Tryz.prog 180 = some (.nf) := by kernel_rfl
@[go_sem] theorem ty_cells_181 : tcells Go.Proofs.Tryz.prog 181 = 1 := by kernel_rfl
@[go_sem] theorem ty_bytes_181 : tbytes Go.Proofs.Tryz.prog 181 = 8 := by kernel_rfl
@[go_sem] theorem ty_agg_181 : tagg Go.Proofs.Tryz.prog 181 = some false := by kernel_rfl
@[go_sem] theorem ty_elem_181 : elemT Go.Proofs.Tryz.prog 181 = none := by kernel_rfl
@[go_sem] theorem ty_str_181 : strT Go.Proofs.Tryz.prog 181 = false := by kernel_rfl
@[go_sem] theorem ty_zero_181 : tzero Go.Proofs.Tryz.prog 181 = some (.nf) := by kernel_rfl
@[go_sem] theorem ty_cells_182 : tcells Go.Proofs.Tryz.prog 182 = 1 := by kernel_rfl
@[go_sem] theorem ty_bytes_182 : tbytes Go.Proofs.Tryz.prog 182 = 8 := by kernel_rfl
@[go_sem] theorem ty_agg_182 : tagg Go.Proofs.Tryz.prog 182 = some false := by kernel_rfl
@[go_sem] theorem ty_elem_182 : elemT Go.Proofs.Tryz.prog 182 = none := by kernel_rfl
@[go_sem] theorem ty_str_182 : strT Go.Proofs.Tryz.prog 182 = false := by kernel_rfl
@[go_sem] theorem ty_zero_182 : tzero Go.Proofs.Tryz.prog 182 = some (.nf) := by kernel_rfl
@[go_sem] theorem ty_cells_183 : tcells Go.Proofs.Tryz.prog 183 = 1 := by kernel_rfl
@[go_sem] theorem ty_bytes_183 : tbytes Go.Proofs.Tryz.prog 183 = 8 := by kernel_rfl
@[go_sem] theorem ty_agg_183 : tagg Go.Proofs.Tryz.prog 183 = some false := by kernel_rfl
@[go_sem] theorem ty_elem_183 : elemT Go.Proofs.Tryz.prog 183 = none := by kernel_rfl
@[go_sem] theorem ty_str_183 : strT Go.Proofs.Tryz.prog 183 = false := by kernel_rfl
@[go_sem] theorem ty_zero_183 : tzero Go.Proofs.Tryz.prog 183 = some (.nf) := by kernel_rfl
@[go_sem] theorem ty_cells_184 : tcells Go.Proofs.Tryz.prog 184 = 1 := by kernel_rfl
@[go_sem] theorem ty_bytes_184 : tbytes Go.Proofs.Tryz.prog 184 = 8 := by kernel_rfl
@[go_sem] theorem ty_agg_184 : tagg Go.Proofs.Tryz.prog 184 = some false := by kernel_rfl
@[go_sem] theorem ty_elem_184 : elemT Go.Proofs.Tryz.prog 184 = none := by kernel_rfl
@[go_sem] theorem ty_str_184 : strT Go.Proofs.Tryz.prog 184 = false := by kernel_rfl
@[go_sem] theorem ty_zero_184 : tzero Go.Proofs.Tryz.prog 184 = some (.nf) := by kernel_rfl
@[go_sem] theorem ty_cells_185 : tcells Go.Proofs.Tryz.prog 185 = 1 := by kernel_rfl
@[go_sem] theorem ty_bytes_185 : tbytes Go.Proofs.Tryz.prog 185 = 8 := by kernel_rfl
@[go_sem] theorem ty_agg_185 : tagg Go.Proofs.Tryz.prog 185 = some false := by kernel_rfl
@[go_sem] theorem ty_elem_185 : elemT Go.Proofs.Tryz.prog 185 = none := by kernel_rfl
@[go_sem] theorem ty_str_185 : strT Go.Proofs.Tryz.prog 185 = false := by kernel_rfl
@[go_sem] theorem ty_zero_185 : tzero Go.Proofs.Tryz.prog 185 = some (.nf) := by kernel_rfl
@[go_sem] theorem ty_cells_186 : tcells Go.Proofs.Tryz.prog 186 = 1 := by kernel_rfl
@[go_sem] theorem ty_bytes_186 : tbytes Go.Proofs.Tryz.prog 186 = 8 := by kernel_rfl
@[go_sem] theorem ty_agg_186 : tagg Go.Proofs.Tryz.prog 186 = some false := by kernel_rfl
@[go_sem] theorem ty_elem_186 : elemT Go.Proofs.Tryz.prog 186 = none := by kernel_rfl
@[go_sem] theorem ty_str_186 : strT Go.Proofs.Tryz.prog 186 = false := by kernel_rfl
@[go_sem] theorem ty_zero_186 : tzero Go.Proofs.Tryz.prog 186 = some (.nf) := by kernel_rfl
@[go_sem] theorem ty_cells_187 : tcells Go.Proofs.Tryz.prog 187 = 1 := by kernel_rfl
@[go_sem] theorem ty_bytes_187 : tbytes Go.Proofs.Tryz.prog 187 = 8 := by kernel_rfl
@[go_sem] theorem ty_agg_187 : tagg Go.Proofs.Tryz.prog 187 = some false := by kernel_rfl
@[go_sem] theorem ty_elem_187 : elemT Go.Proofs.Tryz.prog 187 = none := by kernel_rfl
@[go_sem] theorem ty_str_187 : strT Go.Proofs.Tryz.prog 187 = false := by kernel_rfl
@[go_sem] theorem ty_zero_187 : tzero Go.Proofs.Tryz.prog 187 = some (.nf) := by kernel_rfl
@[go_sem] theorem ty_cells_188 : tcells Go.Proofs.Tryz.prog 188 = 1 := by kernel_rfl
@[go_sem] theorem ty_bytes_188 : tbytes Go.Proofs.Tryz.prog 188 = 8 := by kernel_rfl
@[go_sem] theorem ty_agg_188 : tagg Go.Proofs.Tryz.prog 188 = some false := by kernel_rfl
@[go_sem] theorem ty_elem_188 : elemT Go.Proofs.Tryz.prog 188 = none := by kernel_rfl
@[go_sem] theorem ty_str_188 : strT Go.Proofs.Tryz.prog 188 = false := by kernel_rfl
@[go_sem] theorem ty_zero_188 : tzero Go.Proofs.Tryz.prog 188 = some (.nf) := by kernel_rfl
@[go_sem] theorem ty_cells_189 : tcells Go.Proofs.Tryz.prog 189 = 1 := by kernel_rfl
@[go_sem] theorem ty_bytes_189 : tbytes Go.Proofs.Tryz.prog 189 = 8 := by kernel_rfl
@[go_sem] theorem ty_agg_189 : tagg Go.Proofs.Tryz.prog 189 = some false := by kernel_rfl
@[go_sem] theorem ty_elem_189 : elemT Go.Proofs.Tryz.prog 189 = none := by kernel_rfl
@[go_sem] theorem ty_str_189 : strT Go.Proofs.Tryz.prog 189 = false := by kernel_rfl
@[go_sem] theorem ty_zero_189 : tzero Go.Proofs.Tryz.prog 189 = some (.nf) := by kernel_rfl
@[go_sem] theorem ty_cells_190 : tcells Go.Proofs.Tryz.prog 190 = 1 := by kernel_rfl
@[go_sem] theorem ty_bytes_190 : tbytes Go.Proofs.Tryz.prog 190 = 8 := by kernel_rfl
@[go_sem] theorem ty_agg_190 : tagg Go.Proofs.Tryz.prog 190 = some false := by kernel_rfl
@[go_sem] theorem ty_elem_190 : elemT Go.Proofs.Tryz.prog 190 = none := by kernel_rfl
@[go_sem] theorem ty_str_190 : strT Go.Proofs.Tryz.prog 190 = false := by kernel_rfl
@[go_sem] theorem ty_zero_190 : tzero Go.Proofs.Tryz.prog 190 = some (.nf) := by kernel_rfl
@[go_sem] theorem ty_cells_191 : tcells Go.Proofs.Tryz.prog 191 = 1 := by kernel_rfl
@[go_sem] theorem ty_bytes_191 : tbytes Go.Proofs.Tryz.prog 191 = 8 := by kernel_rfl
@[go_sem] theorem ty_agg_191 : tagg Go.Proofs.Tryz.prog 191 = some false := by kernel_rfl
@[go_sem] theorem ty_elem_191 : elemT Go.Proofs.Tryz.prog 191 = none := by kernel_rfl
@[go_sem] theorem ty_str_191 : strT Go.Proofs.Tryz.prog 191 = false := by kernel_rfl
@[go_sem] theorem ty_zero_191 : tzero Go.Proofs.Tryz.prog 191 = some (.nf) := by kernel_rfl
@[go_sem] theorem ty_cells_192 : tcells Go.Proofs.Tryz.prog 192 = 1 := by kernel_rfl
@[go_sem] theorem ty_bytes_192 : tbytes Go.Proofs.Tryz.prog 192 = 8 := by kernel_rfl
@[go_sem] theorem ty_agg_192 : tagg Go.Proofs.Tryz.prog 192 = some false := by kernel_rfl
@[go_sem] theorem ty_elem_192 : elemT Go.Proofs.Tryz.prog 192 = none := by kernel_rfl
@[go_sem] theorem ty_str_192 : strT Go.Proofs.Tryz.prog 192 = false := by kernel_rfl
@[go_sem] theorem ty_zero_192 : tzero Go.Proofs.Tryz.prog 192 = some (.nf) := by kernel_rfl
@[go_sem] theorem ty_cells_193 : tcells Go.Proofs.Tryz.prog 193 = 1 := by kernel_rfl
@[go_sem] theorem ty_bytes_193 : tbytes Go.Proofs.Tryz.prog 193 = 8 := by kernel_rfl
@[go_sem] theorem ty_agg_193 : tagg Go.Proofs.Tryz.prog 193 = some false := by kernel_rfl
@[go_sem] theorem ty_elem_193 : elemT Go.Proofs.Tryz.prog 193 = none := by kernel_rfl
@[go_sem] theorem ty_str_193 : strT Go.Proofs.Tryz.prog 193 = false := by kernel_rfl
@[go_sem] theorem ty_zero_193 : tzero Go.Proofs.Tryz.prog 193 = some (.nf) := by kernel_rfl
@[go_sem] theorem ty_cells_194 : tcells Go.Proofs.Tryz.prog 194 = 1 := by kernel_rfl
@[go_sem] theorem ty_bytes_194 : tbytes Go.Proofs.Tryz.prog 194 = 8 := by kernel_rfl
@[go_sem] theorem ty_agg_194 : tagg Go.Proofs.Tryz.prog 194 = some false := by kernel_rfl
@[go_sem] theorem ty_elem_194 : elemT Go.Proofs.Tryz.prog 194 = none := by kernel_rfl
@[go_sem] theorem ty_str_194 : strT Go.Proofs.Tryz.prog 194 = false := by kernel_rfl
@[go_sem] theorem ty_zero_194 : tzero Go.Proofs.Tryz.prog 194 = some (.nf) := by kernel_rfl
@[go_sem] theorem ty_cells_195 : tcells Go.Proofs.Tryz.prog 195 = 1 := by kernel_rfl
@[go_sem] theorem ty_bytes_195 : tbytes Go.Proofs.Tryz.prog 195 = 8 := by kernel_rfl
@[go_sem] theorem ty_agg_195 : tagg Go.Proofs.Tryz.prog 195 = some false := by kernel_rfl
@[go_sem] theorem ty_elem_195 : elemT Go.Proofs.Tryz.prog 195 = none := by kernel_rfl
@[go_sem] theorem ty_str_195 : strT Go.Proofs.Tryz.prog 195 = false := by kernel_rfl
@[go_sem] theorem ty_zero_195 : tzero Go.Proofs.Tryz.prog 195 = some (.nf) := by kernel_rfl
@[go_sem] theorem ty_cells_196 : tcells Go.Proofs.Tryz.prog 196 = 1 := by kernel_rfl
@[go_sem] theorem ty_bytes_196 : tbytes Go.Proofs.Tryz.prog 196 = 8 := by kernel_rfl
@[go_sem] theorem ty_agg_196 : tagg Go.Proofs.Tryz.prog 196 = some false := by kernel_rfl
@[go_sem] theorem ty_elem_196 : elemT Go.Proofs.Tryz.prog 196 = none := by kernel_rfl
@[go_sem] theorem ty_str_196 : strT Go.Proofs.Tryz.prog 196 = false := by kernel_rfl
@[go_sem] theorem ty_int_196 : intT Go.Proofs.Tryz.prog 196 = some .i64 := by kernel_rfl
@[go_sem] theorem ty_zero_196 : tzero Go.Proofs.Tryz.prog 196 = some (.d (.int .i64 0)) := by kernel_rfl
@[go_sem] theorem ty_cells_198 : tcells Go.Proofs.Tryz.prog 198 = 1 := by kernel_rfl
@[go_sem] theorem ty_bytes_198 : tbytes Go.Proofs.Tryz.prog 198 = 8 := by kernel_rfl
@[go_sem] theorem ty_agg_198 : tagg Go.Proofs.Tryz.prog 198 = some false := by kernel_rfl
@[go_sem] theorem ty_elem_198 : elemT Go.Proofs.Tryz.prog 198 = none := by kernel_rfl
@[go_sem] theorem ty_str_198 : strT Go.Proofs.Tryz.prog 198 = false := by kernel_rfl
@[go_sem] theorem ty_zero_198 : tzero Go.Proofs.Tryz.prog 198 = some (.nf) := by kernel_rfl
@[go_sem] theorem ty_cells_199 : tcells Go.Proofs.Tryz.prog 199 = 1 := by kernel_rfl
@[go_sem] theorem ty_bytes_199 : tbytes Go.Proofs.Tryz.prog 199 = 8 := by kernel_rfl
@[go_sem] theorem ty_agg_199 : tagg Go.Proofs.Tryz.prog 199 = some false := by kernel_rfl
@[go_sem] theorem ty_elem_199 : elemT Go.Proofs.Tryz.prog 199 = none := by kernel_rfl
@[go_sem] theorem ty_str_199 : strT Go.Proofs.Tryz.prog 199 = false := by kernel_rfl
@[go_sem] theorem ty_zero_199 : tzero Go.Proofs.Tryz.prog 199 = some (.nf) := by kernel_rfl
@[go_sem] theorem ty_cells_200 : tcells Go.Proofs.Tryz.prog 200 = 1 := by kernel_rfl
@[go_sem] theorem ty_bytes_200 : tbytes Go.Proofs.Tryz.prog 200 = 8 := by kernel_rfl
@[go_sem] theorem ty_agg_200 : tagg Go.Proofs.Tryz.prog 200 = some false := by kernel_rfl
@[go_sem] theorem ty_elem_200 : elemT Go.Proofs.Tryz.prog 200 = none := by kernel_rfl
@[go_sem] theorem ty_str_200 : strT Go.Proofs.Tryz.prog 200 = false := by kernel_rfl
@[go_sem] theorem ty_zero_200 : tzero Go.Proofs.Tryz.prog 200 = some (.nf) := by kernel_rfl
@[go_sem] theorem ty_cells_201 : tcells Go.Proofs.Tryz.prog 201 = 1 := by kernel_rfl
@[go_sem] theorem ty_bytes_201 : tbytes Go.Proofs.Tryz.prog 201 = 8 := by kernel_rfl
@[go_sem] theorem ty_agg_201 : tagg Go.Proofs.Tryz.prog 201 = some false := by kernel_rfl
@[go_sem] theorem ty_elem_201 : elemT Go.Proofs.Tryz.prog 201 = none := by kernel_rfl
@[go_sem] theorem ty_str_201 : strT Go.Proofs.Tryz.prog 201 = false := by kernel_rfl
@[go_sem] theorem ty_zero_201 : tzero Go.Proofs.Tryz.prog 201 = some (.nf) := by kernel_rfl
@[go_sem] theorem ty_cells_202 : tcells Go.Proofs.Tryz.prog 202 = 1 := by kernel_rfl
@[go_sem] theorem ty_bytes_202 : tbytes Go.Proofs.Tryz.prog 202 = 8 := by kernel_rfl
@[go_sem] theorem ty_agg_202 : tagg Go.Proofs.Tryz.prog 202 = some false := by kernel_rfl
@[go_sem] theorem ty_elem_202 : elemT Go.Proofs.Tryz.prog 202 = none := by kernel_rfl
@[go_sem] theorem ty_str_202 : strT Go.Proofs.Tryz.prog 202 = false := by kernel_rfl
@[go_sem] theorem ty_zero_202 : tzero Go.Proofs.Tryz.prog 202 = some (.nf) := by kernel_rfl
@[go_sem] theorem ty_cells_203 : tcells Go.Proofs.Tryz.prog 203 = 1 := by kernel_rfl
@[go_sem] theorem ty_bytes_203 : tbytes Go.Proofs.Tryz.prog 203 = 4 := by kernel_rfl
@[go_sem] theorem ty_agg_203 : tagg Go.Proofs.Tryz.prog 203 = some false := by kernel_rfl
@[go_sem] theorem ty_elem_203 : elemT Go.Proofs.Tryz.prog 203 = none := by kernel_rfl
@[go_sem] theorem ty_str_203 : strT Go.Proofs.Tryz.prog 203 = false := by kernel_rfl
@[go_sem] theorem ty_int_203 : intT Go.Proofs.Tryz.prog 203 = some .u32 := by kernel_rfl
@[go_sem] theorem ty_zero_203 : tzero Go.Proofs.Tryz.prog 203 = some (.d (.int .u32 0)) := by kernel_rfl
@[go_sem] theorem ty_cells_204 : tcells Go.Proofs.Tryz.prog 204 = 1 := by kernel_rfl
@[go_sem] theorem ty_bytes_204 : tbytes Go.Proofs.Tryz.prog 204 = 8 := by kernel_rfl
@[go_sem] theorem ty_agg_204 : tagg Go.Proofs.Tryz.prog 204 = some false := by kernel_rfl
@[go_sem] theorem ty_elem_204 : elemT Go.Proofs.Tryz.prog 204 = none := by kernel_rfl
@[go_sem] theorem ty_str_204 : strT Go.Proofs.Tryz.prog 204 = false := by kernel_rfl
@[go_sem] theorem ty_zero_204 : tzero Go.Proofs.Tryz.prog 204 = some (.nf) := by kernel_rfl
@[go_sem] theorem ty_cells_205 : tcells Go.Proofs.Tryz.prog 205 = 1 := by kernel_rfl
@[go_sem] theorem ty_bytes_205 : tbytes Go.Proofs.Tryz.prog 205 = 8 := by kernel_rfl
@[go_sem] theorem ty_agg_205 : tagg Go.Proofs.Tryz.prog 205 = some false := by kernel_rfl
@[go_sem] theorem ty_elem_205 : elemT Go.Proofs.Tryz.prog 205 = none := by kernel_rfl
@[go_sem] theorem ty_str_205 : strT Go.Proofs.Tryz.prog 205 = false := by kernel_rfl
@[go_sem] theorem ty_int_205 : intT Go.Proofs.Tryz.prog 205 = some .u64 := by kernel_rfl
@[go_sem] theorem ty_zero_205 : tzero Go.Proofs.Tryz.prog 205 = some (.d (.int .u64 0)) := by kernel_rfl
@[go_sem] theorem ty_cells_206 : tcells Go.Proofs.Tryz.prog 206 = 1 := by kernel_rfl
@[go_sem] theorem ty_bytes_206 : tbytes Go.Proofs.Tryz.prog 206 = 8 := by kernel_rfl
@[go_sem] theorem ty_agg_206 : tagg Go.Proofs.Tryz.prog 206 = some false := by kernel_rfl
@[go_sem] theorem ty_elem_206 : elemT Go.Proofs.Tryz.prog 206 = none := by kernel_rfl
@[go_sem] theorem ty_str_206 : strT Go.Proofs.Tryz.prog 206 = false := by kernel_rfl
@[go_sem] theorem ty_zero_206 : tzero Go.Proofs.Tryz.prog 206 = some (.nf) := by kernel_rfl
@[go_sem] theorem ty_cells_207 : tcells Go.Proofs.Tryz.prog 207 = 4 := by kernel_rfl
@[go_sem] theorem ty_bytes_207 : tbytes Go.Proofs.Tryz.prog 207 = 32 := by kernel_rfl
@[go_sem] theorem ty_agg_207 : tagg Go.Proofs.Tryz.prog 207 = some true := by kernel_rfl
@[go_sem] theorem ty_elem_207 : elemT Go.Proofs.Tryz.prog 207 = none := by kernel_rfl
@[go_sem] theorem ty_str_207 : strT Go.Proofs.Tryz.prog 207 = false := by kernel_rfl
@[go_sem] theorem ty_f_207_0 : finfo Go.Proofs.Tryz.prog 207 0 = some (0, 26) := by kernel_rfl
@[go_sem] theorem ty_f_207_1 : finfo Go.Proofs.Tryz.prog 207 1 = some (3, 3) := by kernel_rfl
@[go_sem] theorem ty_places_207 : placesT Go.Proofs.Tryz.prog 207 = some [(0, 3), (3, 1)] := by kernel_rfl
@[go_sem] theorem ty_eqg_207 : eqG Go.Proofs.Tryz.prog 207 = true := by kernel_rfl
@[go_sem] theorem ty_zero_207 : tzero Go.Proofs.Tryz.prog 207 = some (.d (.agg [(.int .i64 0), (.int .i64 0), (.int .i64 0), (.int .i64 0)])) := by kernel_rfl
@[go_sem] theorem ty_cells_208 : tcells Go.Proofs.Tryz.prog 208 = 4 := by kernel_rfl
@[go_sem] theorem ty_bytes_208 : tbytes Go.Proofs.Tryz.prog 208 = 32 := by kernel_rfl
@[go_sem] theorem ty_agg_208 : tagg Go.Proofs.Tryz.prog 208 = some true := by kernel_rfl
@[go_sem] theorem ty_elem_208 : elemT Go.Proofs.Tryz.prog 208 = none := by kernel_rfl
@[go_sem] theorem ty_str_208 : strT Go.Proofs.Tryz.prog 208 = false := by kernel_rfl
@[go_sem] theorem ty_f_208_0 : finfo Go.Proofs.Tryz.prog 208 0 = some (0, 26) := by kernel_rfl
@[go_sem] theorem ty_f_208_1 : finfo Go.Proofs.Tryz.prog 208 1 = some (3, 3) := by kernel_rfl
@[go_sem] theorem ty_places_208 : placesT Go.Proofs.Tryz.prog 208 = some [(0, 3), (3, 1)] := by kernel_rfl
@[go_sem] theorem ty_eqg_208 : eqG Go.Proofs.Tryz.prog 208 = true := by kernel_rfl
@[go_sem] theorem ty_zero_208 : tzero Go.Proofs.Tryz.prog 208 = some (.d (.agg [(.int .i64 0), (.int .i64 0), (.int .i64 0), (.int .i64 0)])) := by kernel_rfl
@[go_sem] theorem ty_cells_210 : tcells Go.Proofs.Tryz.prog 210 = 1 := by kernel_rfl
@[go_sem] theorem ty_bytes_210 : tbytes Go.Proofs.Tryz.prog 210 = 8 := by kernel_rfl
@[go_sem] theorem ty_agg_210 : tagg Go.Proofs.Tryz.prog 210 = some false := by kernel_rfl
@[go_sem] theorem ty_elem_210 : elemT Go.Proofs.Tryz.prog 210 = none := by kernel_rfl
@[go_sem] theorem ty_str_210 : strT Go.Proofs.Tryz.prog 210 = false := by kernel_rfl
@[go_sem] theorem ty_zero_210 : tzero Go.Proofs.Tryz.prog 210 = some (.nf) := by kernel_rfl
@[go_sem] theorem ty_cells_211 : tcells Go.Proofs.Tryz.prog 211 = 4 := by kernel_rfl
@[go_sem] theorem ty_bytes_211 : tbytes Go.Proofs.Tryz.prog 211 = 32 := by kernel_rfl
@[go_sem] theorem ty_agg_211 : tagg Go.Proofs.Tryz.prog 211 = some true := by kernel_rfl
@[go_sem] theorem ty_elem_211 : elemT Go.Proofs.Tryz.prog 211 = none := by kernel_rfl
@[go_sem] theorem ty_str_211 : strT Go.Proofs.Tryz.prog 211 = false := by kernel_rfl
@[go_sem] theorem ty_f_211_0 : finfo Go.Proofs.Tryz.prog 211 0 = some (0, 3) := by kernel_rfl
@[go_sem] theorem ty_f_211_1 : finfo Go.Proofs.Tryz.prog 211 1 = some (1, 3) := by kernel_rfl
@[go_sem] theorem ty_f_211_2 : finfo Go.Proofs.Tryz.prog 211 2 = some (2, 3) := by kernel_rfl
@[go_sem] theorem ty_f_211_3 : finfo Go.Proofs.Tryz.prog 211 3 = some (3, 3) := by kernel_rfl
@[go_sem] theorem ty_places_211 : placesT Go.Proofs.Tryz.prog 211 = some [(0, 1), (1, 1), (2, 1), (3, 1)] := by kernel_rfl
@[go_sem] theorem ty_eqg_211 : eqG Go.Proofs.Tryz.prog 211 = true := by kernel_rfl
@[go_sem] theorem ty_zero_211 : tzero Go.Proofs.Tryz.prog 211 = some (.d (.agg [(.int .i64 0), (.int .i64 0), (.int .i64 0), (.int .i64 0)])) := by kernel_rfl
@[go_sem] theorem ty_cells_212 : tcells Go.Proofs.Tryz.prog 212 = 4 := by kernel_rfl
@[go_sem] theorem ty_bytes_212 : tbytes Go.Proofs.Tryz.prog 212 = 32 := by kernel_rfl
@[go_sem] theorem ty_agg_212 : tagg Go.Proofs.Tryz.prog 212 = some true := by kernel_rfl
@[go_sem] theorem ty_elem_212 : elemT Go.Proofs.Tryz.prog 212 = none := by kernel_rfl
@[go_sem] theorem ty_str_212 : strT Go.Proofs.Tryz.prog 212 = false := by kernel_rfl
@[go_sem] theorem ty_f_212_0 : finfo Go.Proofs.Tryz.prog 212 0 = some (0, 3) := by kernel_rfl
@[go_sem] theorem ty_f_212_1 : finfo Go.Proofs.Tryz.prog 212 1 = some (1, 3) := by kernel_rfl
@[go_sem] theorem ty_f_212_2 : finfo Go.Proofs.Tryz.prog 212 2 = some (2, 3) := by kernel_rfl
@[go_sem] theorem ty_f_212_3 : finfo Go.Proofs.Tryz.prog 212 3 = some (3, 3) := by kernel_rfl
@[go_sem] theorem ty_places_212 : placesT Go.Proofs.Tryz.prog 212 = some [(0, 1), (1, 1), (2, 1), (3, 1)] := by kernel_rfl
@[go_sem] theorem ty_eqg_212 : eqG Go.Proofs.Tryz.prog 212 = true := by kernel_rfl
@[go_sem] theorem ty_zero_212 : tzero Go.Proofs.Tryz.prog 212 = some (.d (.agg [(.int .i64 0), (.int .i64 0), (.int .i64 0), (.int .i64 0)])) := by kernel_rfl
@[go_sem] theorem ty_cells_213 : tcells Go.Proofs.Tryz.prog 213 = 1 := by kernel_rfl
@[go_sem] theorem ty_bytes_213 : tbytes Go.Proofs.Tryz.prog 213 = 8 := by kernel_rfl
@[go_sem] theorem ty_agg_213 : tagg Go.Proofs.Tryz.prog 213 = some false := by kernel_rfl
@[go_sem] theorem ty_elem_213 : elemT Go.Proofs.Tryz.prog 213 = none := by kernel_rfl
@[go_sem] theorem ty_str_213 : strT Go.Proofs.Tryz.prog 213 = false := by kernel_rfl
@[go_sem] theorem ty_zero_213 : tzero Go.Proofs.Tryz.prog 213 = some (.nf) := by kernel_rfl
@[go_sem] theorem ty_cells_214 : tcells Go.Proofs.Tryz.prog 214 = 1 := by kernel_rfl
@[go_sem] theorem ty_bytes_214 : tbytes Go.Proofs.Tryz.prog 214 = 8 := by kernel_rfl
@[go_sem] theorem ty_agg_214 : tagg Go.Proofs.Tryz.prog 214 = some false := by kernel_rfl
@[go_sem] theorem ty_elem_214 : elemT Go.Proofs.Tryz.prog 214 = none := by kernel_rfl
@[go_sem] theorem ty_str_214 : strT Go.Proofs.Tryz.prog 214 = false := by kernel_rfl
@[go_sem] theorem ty_zero_214 : tzero Go.Proofs.Tryz.prog 214 = some (.nf) := by kernel_rfl
@[go_sem] theorem ty_cells_215 : tcells Go.Proofs.Tryz.prog 215 = 1 := by kernel_rfl
@[go_sem] theorem ty_bytes_215 : tbytes Go.Proofs.Tryz.prog 215 = 8 := by kernel_rfl
@[go_sem] theorem ty_agg_215 : tagg Go.Proofs.Tryz.prog 215 = some false := by kernel_rfl
@[go_sem] theorem ty_elem_215 : elemT Go.Proofs.Tryz.prog 215 = none := by kernel_rfl
@[go_sem] theorem ty_str_215 : strT Go.Proofs.Tryz.prog 215 = false := by kernel_rfl
@[go_sem] theorem ty_zero_215 : tzero Go.Proofs.Tryz.prog 215 = some (.nf) := by kernel_rfl
@[go_sem] theorem ty_cells_216 : tcells Go.Proofs.Tryz.prog 216 = 1 := by kernel_rfl
@[go_sem] theorem ty_bytes_216 : tbytes Go.Proofs.Tryz.prog 216 = 8 := by kernel_rfl
@[go_sem] theorem ty_agg_216 : tagg Go.Proofs.Tryz.prog 216 = some false := by kernel_rfl
@[go_sem] theorem ty_elem_216 : elemT Go.Proofs.Tryz.prog 216 = none := by kernel_rfl
@[go_sem] theorem ty_str_216 : strT Go.Proofs.Tryz.prog 216 = false := by kernel_rfl
@[go_sem] theorem ty_zero_216 : tzero Go.Proofs.Tryz.prog 216 = some (.nf) := by kernel_rfl
@[go_sem] theorem ty_cells_217 : tcells Go.Proofs.Tryz.prog 217 = 1 := by kernel_rfl
@[go_sem] theorem ty_bytes_217 : tbytes Go.Proofs.Tryz.prog 217 = 8 := by kernel_rfl
@[go_sem] theorem ty_agg_217 : tagg Go.Proofs.Tryz.prog 217 = some false := by kernel_rfl
@[go_sem] theorem ty_elem_217 : elemT Go.Proofs.Tryz.prog 217 = none := by kernel_rfl
@[go_sem] theorem ty_str_217 : strT Go.Proofs.Tryz.prog 217 = false := by kernel_rfl
@[go_sem] theorem ty_zero_217 : tzero Go.Proofs.Tryz.prog 217 = some (.nf) := by kernel_rfl
@[go_sem] theorem ty_cells_218 : tcells Go.Proofs.Tryz.prog 218 = 1 := by kernel_rfl
@[go_sem] theorem ty_bytes_218 : tbytes Go.Proofs.Tryz.prog 218 = 8 := by kernel_rfl
@[go_sem] theorem ty_agg_218 : tagg Go.Proofs.Tryz.prog 218 = some false := by kernel_rfl
@[go_sem] theorem ty_elem_218 : elemT Go.Proofs.Tryz.prog 218 = none := by kernel_rfl
@[go_sem] theorem ty_str_218 : strT Go.Proofs.Tryz.prog 218 = false := by kernel_rfl
@[go_sem] theorem ty_zero_218 : tzero Go.Proofs.Tryz.prog 218 = some (.nf) := by kernel_rfl
@[go_sem] theorem ty_cells_219 : tcells Go.Proofs.Tryz.prog 219 = 1 := by kernel_rfl
@[go_sem] theorem ty_bytes_219 : tbytes Go.Proofs.Tryz.prog 219 = 8 := by kernel_rfl
@[go_sem] theorem ty_agg_219 : tagg Go.Proofs.Tryz.prog 219 = some false := by kernel_rfl
@[go_sem] theorem ty_elem_219 : elemT Go.Proofs.Tryz.prog 219 = none := by kernel_rfl
@[go_sem] theorem ty_str_219 : strT Go.Proofs.Tryz.prog 219 = false := by kernel_rfl
@[go_sem] theorem ty_zero_219 : tzero Go.Proofs.Tryz.prog 219 = some (.nf) := by kernel_rfl
@[go_sem] theorem ty_cells_220 : tcells Go.Proofs.Tryz.prog 220 = 1 := by kernel_rfl
@[go_sem] theorem ty_bytes_220 : tbytes Go.Proofs.Tryz.prog 220 = 8 := by kernel_rfl
@[go_sem] theorem ty_agg_220 : tagg Go.Proofs.Tryz.prog 220 = some false := by kernel_rfl
@[go_sem] theorem ty_elem_220 : elemT Go.Proofs.Tryz.prog 220 = none := by kernel_rfl
@[go_sem] theorem ty_str_220 : strT Go.Proofs.Tryz.prog 220 = false := by kernel_rfl
@[go_sem] theorem ty_zero_220 : tzero Go.Proofs.Tryz.prog 220 = some (.nf) := by kernel_rfl
@[go_sem] theorem ty_cells_221 : tcells Go.Proofs.Tryz.prog 221 = 1 := by kernel_rfl
@[go_sem] theorem ty_bytes_221 : tbytes Go.Proofs.Tryz.prog 221 = 8 := by kernel_rfl
@[go_sem] theorem ty_agg_221 : tagg Go.Proofs.Tryz.prog 221 = some false := by kernel_rfl
@[go_sem] theorem ty_elem_221 : elemT Go.Proofs.Tryz.prog 221 = none := by kernel_rfl
@[go_sem] theorem ty_str_221 : strT Go.Proofs.Tryz.prog 221 = false := by kernel_rfl
@[go_sem] theorem ty_zero_221 : tzero Go.Proofs.Tryz.prog 221 = some (.nf) := by kernel_rfl
@[go_sem] theorem ty_cells_222 : tcells Go.Proofs.Tryz.prog 222 = 1 := by kernel_rfl
@[go_sem] theorem ty_bytes_222 : tbytes Go.Proofs.Tryz.prog 222 = 8 := by kernel_rfl
@[go_sem] theorem ty_agg_222 : tagg Go.Proofs.Tryz.prog 222 = some false := by kernel_rfl
@[go_sem] theorem ty_elem_222 : elemT Go.Proofs.Tryz.prog 222 = none := by kernel_rfl
@[go_sem] theorem ty_str_222 : strT Go.Proofs.Tryz.prog 222 = false := by kernel_rfl
@[go_sem] theorem ty_zero_222 : tzero Go.Proofs.Tryz.prog 222 = some (.nf) := by kernel_rfl
@[go_sem] theorem ty_cells_223 : tcells Go.Proofs.Tryz.prog 223 = 1 := by kernel_rfl
@[go_sem] theorem ty_bytes_223 : tbytes Go.Proofs.Tryz.prog 223 = 8 := by kernel_rfl
@[go_sem] theorem ty_agg_223 : tagg Go.Proofs.Tryz.prog 223 = some false := by kernel_rfl
@[go_sem] theorem ty_elem_223 : elemT Go.Proofs.Tryz.prog 223 = none := by kernel_rfl
@[go_sem] theorem ty_str_223 : strT Go.Proofs.Tryz.prog 223 = false := by kernel_rfl
@[go_sem] theorem ty_zero_223 : tzero Go.Proofs.Tryz.prog 223 = some (.nf) := by kernel_rfl
@[go_sem] theorem ty_cells_224 : tcells Go.Proofs.Tryz.prog 224 = 1 := by kernel_rfl
@[go_sem] theorem ty_bytes_224 : tbytes Go.Proofs.Tryz.prog 224 = 8 := by kernel_rfl
@[go_sem] theorem ty_agg_224 : tagg Go.Proofs.Tryz.prog 224 = some false := by kernel_rfl
@[go_sem] theorem ty_elem_224 : elemT Go.Proofs.Tryz.prog 224 = none := by kernel_rfl
@[go_sem] theorem ty_str_224 : strT Go.Proofs.Tryz.prog 224 = false := by kernel_rfl
@[go_sem] theorem ty_zero_224 : tzero Go.Proofs.Tryz.prog 224 = some (.nf) := by kernel_rfl
@[go_sem] theorem ty_cells_225 : tcells Go.Proofs.Tryz.prog 225 = 1 := by kernel_rfl
@[go_sem] theorem ty_bytes_225 : tbytes Go.Proofs.Tryz.prog 225 = 8 := by kernel_rfl
@[go_sem] theorem ty_agg_225 : tagg Go.Proofs.Tryz.prog 225 = some false := by kernel_rfl
@[go_sem] theorem ty_elem_225 : elemT Go.Proofs.Tryz.prog 225 = none := by kernel_rfl
@[go_sem] theorem ty_str_225 : strT Go.Proofs.Tryz.prog 225 = false := by kernel_rfl
@[go_sem] theorem ty_zero_225 : tzero Go.Proofs.Tryz.prog 225 = some (.nf) := by kernel_rfl
@[go_sem] theorem ty_cells_226 : tcells Go.Proofs.Tryz.prog 226 = 1 := by kernel_rfl
@[go_sem] theorem ty_bytes_226 : tbytes Go.Proofs.Tryz.prog 226 = 8 := by kernel_rfl
@[go_sem] theorem ty_agg_226 : tagg Go.Proofs.Tryz.prog 226 = some false := by kernel_rfl
@[go_sem] theorem ty_elem_226 : elemT Go.Proofs.Tryz.prog 226 = none := by kernel_rfl
@[go_sem] theorem ty_str_226 : strT Go.Proofs.Tryz.prog 226 = false := by kernel_rfl
@[go_sem] theorem ty_zero_226 : tzero Go.Proofs.Tryz.prog 226 = some (.nf) := by kernel_rfl
@[go_sem] theorem ty_cells_228 : tcells Go.Proofs.Tryz.prog 228 = 1 := by kernel_rfl
@[go_sem] theorem ty_bytes_228 : tbytes Go.Proofs.Tryz.prog 228 = 8 := by kernel_rfl
@[go_sem] theorem ty_agg_228 : tagg Go.Proofs.Tryz.prog 228 = some false := by kernel_rfl
@[go_sem] theorem ty_elem_228 : elemT Go.Proofs.Tryz.prog 228 = none := by kernel_rfl
@[go_sem] theorem ty_str_228 : strT Go.Proofs.Tryz.prog 228 = false := by kernel_rfl
@[go_sem] theorem ty_zero_228 : tzero Go.Proofs.Tryz.prog 228 = some (.nf) := by kernel_rfl
@[go_sem] theorem ty_cells_229 : tcells Go.Proofs.Tryz.prog 229 = 1 := by kernel_rfl
@[go_sem] theorem ty_bytes_229 : tbytes Go.Proofs.Tryz.prog 229 = 8 := by kernel_rfl
@[go_sem] theorem ty_agg_229 : tagg Go.Proofs.Tryz.prog 229 = some false := by kernel_rfl
@[go_sem] theorem ty_elem_229 : elemT Go.Proofs.Tryz.prog 229 = none := by kernel_rfl
@[go_sem] theorem ty_str_229 : strT Go.Proofs.Tryz.prog 229 = false := by kernel_rfl
@[go_sem] theorem ty_zero_229 : tzero Go.Proofs.Tryz.prog 229 = some (.nf) := by kernel_rfl
@[go_sem] theorem ty_cells_231 : tcells Go.Proofs.Tryz.prog 231 = 1 := by kernel_rfl
@[go_sem] theorem ty_bytes_231 : tbytes Go.Proofs.Tryz.prog 231 = 8 := by kernel_rfl
@[go_sem] theorem ty_agg_231 : tagg Go.Proofs.Tryz.prog 231 = some false := by kernel_rfl
@[go_sem] theorem ty_elem_231 : elemT Go.Proofs.Tryz.prog 231 = none := by kernel_rfl
@[go_sem] theorem ty_str_231 : strT Go.Proofs.Tryz.prog 231 = false := by kernel_rfl
@[go_sem] theorem ty_zero_231 : tzero Go.Proofs.Tryz.prog 231 = some (.nf) := by kernel_rfl
@[go_sem] theorem ty_cells_232 : tcells Go.Proofs.Tryz.prog 232 = 1 := by kernel_rfl
@[go_sem] theorem ty_bytes_232 : tbytes Go.Proofs.Tryz.prog 232 = 8 := by kernel_rfl
@[go_sem] theorem ty_agg_232 : tagg Go.Proofs.Tryz.prog 232 = some false := by kernel_rfl
@[go_sem] theorem ty_elem_232 : elemT Go.Proofs.Tryz.prog 232 = none := by kernel_rfl
@[go_sem] theorem ty_str_232 : strT Go.Proofs.Tryz.prog 232 = false := by kernel_rfl
@[go_sem] theorem ty_zero_232 : tzero Go.Proofs.Tryz.prog 232 = some (.nf) := by kernel_rfl
@[go_sem] theorem ty_cells_233 : tcells Go.Proofs.Tryz.prog 233 = 1 := by kernel_rfl
@[go_sem] theorem ty_bytes_233 : tbytes Go.Proofs.Tryz.prog 233 = 8 := by kernel_rfl
@[go_sem] theorem ty_agg_233 : tagg Go.Proofs.Tryz.prog 233 = some false := by kernel_rfl
@[go_sem] theorem ty_elem_233 : elemT Go.Proofs.Tryz.prog 233 = none := by kernel_rfl
@[go_sem] theorem ty_str_233 : strT Go.Proofs.Tryz.prog 233 = false := by kernel_rfl
@[go_sem] theorem ty_zero_233 : tzero Go.Proofs.Tryz.prog 233 = some (.nf) := by kernel_rfl
@[go_sem] theorem ty_cells_234 : tcells Go.Proofs.Tryz.prog 234 = 1 := by kernel_rfl
@[go_sem] theorem ty_bytes_234 : tbytes Go.Proofs.Tryz.prog 234 = 8 := by kernel_rfl
@[go_sem] theorem ty_agg_234 : tagg Go.Proofs.Tryz.prog 234 = some false := by kernel_rfl
@[go_sem] theorem ty_elem_234 : elemT Go.Proofs.Tryz.prog 234 = none := by kernel_rfl
@[go_sem] theorem ty_str_234 : strT Go.Proofs.Tryz.prog 234 = false := by kernel_rfl
@[go_sem] theorem ty_zero_234 : tzero Go.Proofs.Tryz.prog 234 = some (.nf) := by kernel_rfl
@[go_sem] theorem ty_cells_235 : tcells Go.Proofs.Tryz.prog 235 = 256 := by kernel_rfl
@[go_sem] theorem ty_bytes_235 : tbytes Go.Proofs.Tryz.prog 235 = 256 := by kernel_rfl
@[go_sem] theorem ty_agg_235 : tagg Go.Proofs.Tryz.prog 235 = some true := by kernel_rfl
@[go_sem] theorem ty_elem_235 : elemT Go.Proofs.Tryz.prog 235 = none := by kernel_rfl
@[go_sem] theorem ty_elok_235 : elemOK Go.Proofs.Tryz.prog 235 = true := by kernel_rfl
@[go_sem] theorem ty_arr_235 : arrT Go.Proofs.Tryz.prog 235 = some (256, 4) := by kernel_rfl
@[go_sem] theorem ty_str_235 : strT Go.Proofs.Tryz.prog 235 = false := by kernel_rfl
@[go_sem] theorem ty_cells_236 : tcells Go.Proofs.Tryz.prog 236 = 256 := by kernel_rfl
@[go_sem] theorem ty_bytes_236 : tbytes Go.Proofs.Tryz.prog 236 = 256 := by kernel_rfl
@[go_sem] theorem ty_agg_236 : tagg Go.Proofs.Tryz.prog 236 = some true := by kernel_rfl
@[go_sem] theorem ty_elem_236 : elemT Go.Proofs.Tryz.prog 236 = none := by kernel_rfl
@[go_sem] theorem ty_elok_236 : elemOK Go.Proofs.Tryz.prog 236 = true := by kernel_rfl
@[go_sem] theorem ty_arr_236 : arrT Go.Proofs.Tryz.prog 236 = some (256, 4) := by kernel_rfl
@[go_sem] theorem ty_str_236 : strT Go.Proofs.Tryz.prog 236 = false := by kernel_rfl
@[go_sem] theorem ty_cells_238 : tcells Go.Proofs.Tryz.prog 238 = 1 := by kernel_rfl
@[go_sem] theorem ty_bytes_238 : tbytes Go.Proofs.Tryz.prog 238 = 8 := by kernel_rfl
@[go_sem] theorem ty_agg_238 : tagg Go.Proofs.Tryz.prog 238 = some false := by kernel_rfl
@[go_sem] theorem ty_elem_238 : elemT Go.Proofs.Tryz.prog 238 = none := by kernel_rfl
@[go_sem] theorem ty_str_238 : strT Go.Proofs.Tryz.prog 238 = false := by kernel_rfl
@[go_sem] theorem ty_zero_238 : tzero Go.Proofs.Tryz.prog 238 = some (.nf) := by kernel_rfl
@[go_sem] theorem ty_cells_239 : tcells Go.Proofs.Tryz.prog 239 = 1 := by kernel_rfl
@[go_sem] theorem ty_bytes_239 : tbytes Go.Proofs.Tryz.prog 239 = 8 := by kernel_rfl
@[go_sem] theorem ty_agg_239 : tagg Go.Proofs.Tryz.prog 239 = some false := by kernel_rfl
@[go_sem] theorem ty_elem_239 : elemT Go.Proofs.Tryz.prog 239 = none := by kernel_rfl
@[go_sem] theorem ty_str_239 : strT Go.Proofs.Tryz.prog 239 = false := by kernel_rfl
@[go_sem] theorem ty_zero_239 : tzero Go.Proofs.Tryz.prog 239 = some (.nf) := by kernel_rfl
@[go_sem] theorem ty_cells_241 : tcells Go.Proofs.Tryz.prog 241 = 1 := by kernel_rfl
@[go_sem] theorem ty_bytes_241 : tbytes Go.Proofs.Tryz.prog 241 = 8 := by kernel_rfl
@[go_sem] theorem ty_agg_241 : tagg Go.Proofs.Tryz.prog 241 = some false := by kernel_rfl
@[go_sem] theorem ty_elem_241 : elemT Go.Proofs.Tryz.prog 241 = none := by kernel_rfl
@[go_sem] theorem ty_str_241 : strT Go.Proofs.Tryz.prog 241 = false := by kernel_rfl
@[go_sem] theorem ty_zero_241 : tzero Go.Proofs.Tryz.prog 241 = some (.nf) := by kernel_rfl
@[go_sem] theorem ty_cells_242 : tcells Go.Proofs.Tryz.prog 242 = 1 := by kernel_rfl
@[go_sem] theorem ty_bytes_242 : tbytes Go.Proofs.Tryz.prog 242 = 8 := by kernel_rfl
@[go_sem] theorem ty_agg_242 : tagg Go.Proofs.Tryz.prog 242 = some false := by kernel_rfl
@[go_sem] theorem ty_elem_242 : elemT Go.Proofs.Tryz.prog 242 = none := by kernel_rfl
@[go_sem] theorem ty_str_242 : strT Go.Proofs.Tryz.prog 242 = false := by kernel_rfl
@[go_sem] theorem ty_zero_242 : tzero Go.Proofs.Tryz.prog 242 = some (.nf) := by kernel_rfl
@[go_sem] theorem ty_cells_243 : tcells Go.Proofs.Tryz.prog 243 = 1 := by kernel_rfl
@[go_sem] theorem ty_bytes_243 : tbytes Go.Proofs.Tryz.prog 243 = 8 := by kernel_rfl
@[go_sem] theorem ty_agg_243 : tagg Go.Proofs.Tryz.prog 243 = some false := by kernel_rfl
@[go_sem] theorem ty_elem_243 : elemT Go.Proofs.Tryz.prog 243 = none := by kernel_rfl
@[go_sem] theorem ty_str_243 : strT Go.Proofs.Tryz.prog 243 = false := by kernel_rfl
@[go_sem] theorem ty_zero_243 : tzero Go.Proofs.Tryz.prog 243 = some (.nf) := by kernel_rfl
@[go_sem] theorem ty_cells_244 : tcells Go.Proofs.Tryz.prog 244 = 1 := by kernel_rfl
@[go_sem] theorem ty_bytes_244 : tbytes Go.Proofs.Tryz.prog 244 = 8 := by kernel_rfl
@[go_sem] theorem ty_agg_244 : tagg Go.Proofs.Tryz.prog 244 = some false := by kernel_rfl
@[go_sem] theorem ty_elem_244 : elemT Go.Proofs.Tryz.prog 244 = none := by kernel_rfl
@[go_sem] theorem ty_str_244 : strT Go.Proofs.Tryz.prog 244 = false := by kernel_rfl
@[go_sem] theorem ty_zero_244 : tzero Go.Proofs.Tryz.prog 244 = some (.nf) := by kernel_rfl
@[go_sem] theorem ty_cells_245 : tcells Go.Proofs.Tryz.prog 245 = 1 := by kernel_rfl
@[go_sem] theorem ty_bytes_245 : tbytes Go.Proofs.Tryz.prog 245 = 8 := by kernel_rfl
@[go_sem] theorem ty_agg_245 : tagg Go.Proofs.Tryz.prog 245 = some false := by kernel_rfl
@[go_sem] theorem ty_elem_245 : elemT Go.Proofs.Tryz.prog 245 = none := by kernel_rfl
@[go_sem] theorem ty_str_245 : strT Go.Proofs.Tryz.prog 245 = false := by kernel_rfl
@[go_sem] theorem ty_zero_245 : tzero Go.Proofs.Tryz.prog 245 = some (.nf) := by kernel_rfl
@[go_sem] theorem ty_cells_246 : tcells Go.Proofs.Tryz.prog 246 = 1 := by kernel_rfl
@[go_sem] theorem ty_bytes_246 : tbytes Go.Proofs.Tryz.prog 246 = 8 := by kernel_rfl
@[go_sem] theorem ty_agg_246 : tagg Go.Proofs.Tryz.prog 246 = some false := by kernel_rfl
@[go_sem] theorem ty_elem_246 : elemT Go.Proofs.Tryz.prog 246 = none := by kernel_rfl
@[go_sem] theorem ty_str_246 : strT Go.Proofs.Tryz.prog 246 = false := by kernel_rfl
@[go_sem] theorem ty_zero_246 : tzero Go.Proofs.Tryz.prog 246 = some (.nf) := by kernel_rfl
@[go_sem] theorem ty_cells_247 : tcells Go.Proofs.Tryz.prog 247 = 1 := by kernel_rfl
@[go_sem] theorem ty_bytes_247 : tbytes Go.Proofs.Tryz.prog 247 = 8 := by kernel_rfl
@[go_sem] theorem ty_agg_247 : tagg Go.Proofs.Tryz.prog 247 = some false := by kernel_rfl
@[go_sem] theorem ty_elem_247 : elemT Go.Proofs.Tryz.prog 247 = none := by kernel_rfl
@[go_sem] theorem ty_str_247 : strT Go.Proofs.Tryz.prog 247 = false := by kernel_rfl
@[go_sem] theorem ty_int_247 : intT Go.Proofs.Tryz.prog 247 = some .u64 := by kernel_rfl
@[go_sem] theorem ty_zero_247 : tzero Go.Proofs.Tryz.prog 247 = some (.d (.int .u64 0)) := by kernel_rfl
@[go_sem] theorem ty_cells_248 : tcells Go.Proofs.Tryz.prog 248 = 1 := by kernel_rfl
@[go_sem] theorem ty_bytes_248 : tbytes Go.Proofs.Tryz.prog 248 = 8 := by kernel_rfl
@[go_sem] theorem ty_agg_248 : tagg Go.Proofs.Tryz.prog 248 = some false := by kernel_rfl
@[go_sem] theorem ty_elem_248 : elemT Go.Proofs.Tryz.prog 248 = none := by kernel_rfl
@[go_sem] theorem ty_str_248 : strT Go.Proofs.Tryz.prog 248 = false := by kernel_rfl
@[go_sem] theorem ty_zero_248 : tzero Go.Proofs.Tryz.prog 248 = some (.nf) := by kernel_rfl
@[go_sem] theorem ty_cells_249 : tcells Go.Proofs.Tryz.prog 249 = 1 := by kernel_rfl
@[go_sem] theorem ty_bytes_249 : tbytes Go.Proofs.Tryz.prog 249 = 8 := by kernel_rfl
@[go_sem] theorem ty_agg_249 : tagg Go.Proofs.Tryz.prog 249 = some false := by kernel_rfl
@[go_sem] theorem ty_elem_249 : elemT Go.Proofs.Tryz.prog 249 = none := by kernel_rfl
@[go_sem] theorem ty_str_249 : strT Go.Proofs.Tryz.prog 249 = false := by kernel_rfl
@[go_sem] theorem ty_zero_249 : tzero Go.Proofs.Tryz.prog 249 = some (.nf) := by kernel_rfl
@[go_sem] theorem ty_cells_250 : tcells Go.Proofs.Tryz.prog 250 = 1 := by kernel_rfl
@[go_sem] theorem ty_bytes_250 : tbytes Go.Proofs.Tryz.prog 250 = 8 := by kernel_rfl
@[go_sem] theorem ty_agg_250 : tagg Go.Proofs.Tryz.prog 250 = some false := by kernel_rfl
@[go_sem] theorem ty_elem_250 : elemT Go.Proofs.Tryz.prog 250 = none := by kernel_rfl
@[go_sem] theorem ty_str_250 : strT Go.Proofs.Tryz.prog 250 = false := by kernel_rfl
@[go_sem] theorem ty_zero_250 : tzero Go.Proofs.Tryz.prog 250 = some (.nf) := by kernel_rfl
@[go_sem] theorem ty_cells_252 : tcells Go.Proofs.Tryz.prog 252 = 1 := by kernel_rfl
@[go_sem] theorem ty_bytes_252 : tbytes Go.Proofs.Tryz.prog 252 = 8 := by kernel_rfl
@[go_sem] theorem ty_agg_252 : tagg Go.Proofs.Tryz.prog 252 = some false := by kernel_rfl
@[go_sem] theorem ty_elem_252 : elemT Go.Proofs.Tryz.prog 252 = none := by kernel_rfl
@[go_sem] theorem ty_str_252 : strT Go.Proofs.Tryz.prog 252 = false := by kernel_rfl
@[go_sem] theorem ty_zero_252 : tzero Go.Proofs.Tryz.prog 252 = some (.nf) := by kernel_rfl
@[go_sem] theorem ty_cells_253 : tcells Go.Proofs.Tryz.prog 253 = 1 := by kernel_rfl
@[go_sem] theorem ty_bytes_253 : tbytes Go.Proofs.Tryz.prog 253 = 8 := by kernel_rfl
@[go_sem] theorem ty_agg_253 : tagg Go.Proofs.Tryz.prog 253 = some false := by kernel_rfl
@[go_sem] theorem ty_elem_253 : elemT Go.Proofs.Tryz.prog 253 = none := by kernel_rfl
@[go_sem] theorem ty_str_253 : strT Go.Proofs.Tryz.prog 253 = false := by kernel_rfl
@[go_sem] theorem ty_zero_253 : tzero Go.Proofs.Tryz.prog 253 = some (.nf) := by kernel_rfl
@[go_sem] theorem ty_cells_254 : tcells Go.Proofs.Tryz.prog 254 = 4 := by kernel_rfl
@[go_sem] theorem ty_bytes_254 : tbytes Go.Proofs.Tryz.prog 254 = 32 := by kernel_rfl
@[go_sem] theorem ty_agg_254 : tagg Go.Proofs.Tryz.prog 254 = some true := by kernel_rfl
@[go_sem] theorem ty_elem_254 : elemT Go.Proofs.Tryz.prog 254 = none := by kernel_rfl
@[go_sem] theorem ty_elok_254 : elemOK Go.Proofs.Tryz.prog 254 = true := by kernel_rfl
@[go_sem] theorem ty_arr_254 : arrT Go.Proofs.Tryz.prog 254 = some (4, 253) := by kernel_rfl
@[go_sem] theorem ty_str_254 : strT Go.Proofs.Tryz.prog 254 = false := by kernel_rfl
@[go_sem] theorem ty_cells_255 : tcells Go.Proofs.Tryz.prog 255 = 1 := by kernel_rfl
@[go_sem] theorem ty_bytes_255 : tbytes Go.Proofs.Tryz.prog 255 = 8 := by kernel_rfl
@[go_sem] theorem ty_agg_255 : tagg Go.Proofs.Tryz.prog 255 = some false := by kernel_rfl
@[go_sem] theorem ty_elem_255 : elemT Go.Proofs.Tryz.prog 255 = none := by kernel_rfl
@[go_sem] theorem ty_str_255 : strT Go.Proofs.Tryz.prog 255 = false := by kernel_rfl
@[go_sem] theorem ty_zero_255 : tzero Go.Proofs.Tryz.prog 255 = some (.nf) := by kernel_rfl
@[go_sem] theorem ty_cells_257 : tcells Go.Proofs.Tryz.prog 257 = 1 := by kernel_rfl
@[go_sem] theorem ty_bytes_257 : tbytes Go.Proofs.Tryz.prog 257 = 8 := by kernel_rfl
@[go_sem] theorem ty_agg_257 : tagg Go.Proofs.Tryz.prog 257 = some false := by kernel_rfl
@[go_sem] theorem ty_elem_257 : elemT Go.Proofs.Tryz.prog 257 = none := by kernel_rfl
@[go_sem] theorem ty_str_257 : strT Go.Proofs.Tryz.prog 257 = false := by kernel_rfl
@[go_sem] theorem ty_zero_257 : tzero Go.Proofs.Tryz.prog 257 = some (.nf) := by kernel_rfl
@[go_sem] theorem ty_cells_258 : tcells Go.Proofs.Tryz.prog 258 = 8 := by kernel_rfl
@[go_sem] theorem ty_bytes_258 : tbytes Go.Proofs.Tryz.prog 258 = 192 := by kernel_rfl
@[go_sem] theorem ty_agg_258 : tagg Go.Proofs.Tryz.prog 258 = some true := by kernel_rfl
@[go_sem] theorem ty_elem_258 : elemT Go.Proofs.Tryz.prog 258 = none := by kernel_rfl
@[go_sem] theorem ty_elok_258 : elemOK Go.Proofs.Tryz.prog 258 = true := by kernel_rfl
@[go_sem] theorem ty_arr_258 : arrT Go.Proofs.Tryz.prog 258 = some (8, 156) := by kernel_rfl
@[go_sem] theorem ty_str_258 : strT Go.Proofs.Tryz.prog 258 = false := by kernel_rfl
@[go_sem] theorem ty_cells_259 : tcells Go.Proofs.Tryz.prog 259 = 1 := by kernel_rfl
@[go_sem] theorem ty_bytes_259 : tbytes Go.Proofs.Tryz.prog 259 = 8 := by kernel_rfl
@[go_sem] theorem ty_agg_259 : tagg Go.Proofs.Tryz.prog 259 = some false := by kernel_rfl
@[go_sem] theorem ty_elem_259 : elemT Go.Proofs.Tryz.prog 259 = none := by kernel_rfl
@[go_sem] theorem ty_str_259 : strT Go.Proofs.Tryz.prog 259 = false := by kernel_rfl
@[go_sem] theorem ty_zero_259 : tzero Go.Proofs.Tryz.prog 259 = some (.nf) := by kernel_rfl
@[go_sem] theorem ty_cells_260 : tcells Go.Proofs.Tryz.prog 260 = 1 := by kernel_rfl
@[go_sem] theorem ty_bytes_260 : tbytes Go.Proofs.Tryz.prog 260 = 8 := by kernel_rfl
@[go_sem] theorem ty_agg_260 : tagg Go.Proofs.Tryz.prog 260 = some false := by kernel_rfl
@[go_sem] theorem ty_elem_260 : elemT Go.Proofs.Tryz.prog 260 = none := by kernel_rfl
@[go_sem] theorem ty_str_260 : strT Go.Proofs.Tryz.prog 260 = false := by kernel_rfl
@[go_sem] theorem ty_zero_260 : tzero Go.Proofs.Tryz.prog 260 = some (.nf) := by kernel_rfl
@[go_sem] theorem ty_cells_261 : tcells Go.Proofs.Tryz.prog 261 = 1 := by kernel_rfl
@[go_sem] theorem ty_bytes_261 : tbytes Go.Proofs.Tryz.prog 261 = 8 := by kernel_rfl
@[go_sem] theorem ty_agg_261 : tagg Go.Proofs.Tryz.prog 261 = some false := by kernel_rfl
@[go_sem] theorem ty_elem_261 : elemT Go.Proofs.Tryz.prog 261 = none := by kernel_rfl
@[go_sem] theorem ty_str_261 : strT Go.Proofs.Tryz.prog 261 = false := by kernel_rfl
@[go_sem] theorem ty_zero_261 : tzero Go.Proofs.Tryz.prog 261 = some (.nf) := by kernel_rfl
@[go_sem] theorem ty_cells_262 : tcells Go.Proofs.Tryz.prog 262 = 1 := by kernel_rfl
@[go_sem] theorem ty_bytes_262 : tbytes Go.Proofs.Tryz.prog 262 = 8 := by kernel_rfl
@[go_sem] theorem ty_agg_262 : tagg Go.Proofs.Tryz.prog 262 = some false := by kernel_rfl
@[go_sem] theorem ty_elem_262 : elemT Go.Proofs.Tryz.prog 262 = none := by kernel_rfl
@[go_sem] theorem ty_str_262 : strT Go.Proofs.Tryz.prog 262 = false := by kernel_rfl
@[go_sem] theorem ty_zero_262 : tzero Go.Proofs.Tryz.prog 262 = some (.nf) := by kernel_rfl
@[go_sem] theorem ty_cells_263 : tcells Go.Proofs.Tryz.prog 263 = 1 := by kernel_rfl
@[go_sem] theorem ty_bytes_263 : tbytes Go.Proofs.Tryz.prog 263 = 8 := by kernel_rfl
@[go_sem] theorem ty_agg_263 : tagg Go.Proofs.Tryz.prog 263 = some false := by kernel_rfl
@[go_sem] theorem ty_elem_263 : elemT Go.Proofs.Tryz.prog 263 = none := by kernel_rfl
@[go_sem] theorem ty_str_263 : strT Go.Proofs.Tryz.prog 263 = false := by kernel_rfl
@[go_sem] theorem ty_zero_263 : tzero Go.Proofs.Tryz.prog 263 = some (.nf) := by kernel_rfl
@[go_sem] theorem ty_cells_264 : tcells Go.Proofs.Tryz.prog 264 = 1 := by kernel_rfl
@[go_sem] theorem ty_bytes_264 : tbytes Go.Proofs.Tryz.prog 264 = 8 := by kernel_rfl
@[go_sem] theorem ty_agg_264 : tagg Go.Proofs.Tryz.prog 264 = some false := by kernel_rfl
@[go_sem] theorem ty_elem_264 : elemT Go.Proofs.Tryz.prog 264 = none := by kernel_rfl
@[go_sem] theorem ty_str_264 : strT Go.Proofs.Tryz.prog 264 = false := by kernel_rfl
@[go_sem] theorem ty_zero_264 : tzero Go.Proofs.Tryz.prog 264 = some (.nf) := by kernel_rfl
@[go_sem] theorem ty_cells_265 : tcells Go.Proofs.Tryz.prog 265 = 1 := by kernel_rfl
@[go_sem] theorem ty_bytes_265 : tbytes Go.Proofs.Tryz.prog 265 = 8 := by kernel_rfl
@[go_sem] theorem ty_agg_265 : tagg Go.Proofs.Tryz.prog 265 = some false := by kernel_rfl
@[go_sem] theorem ty_elem_265 : elemT Go.Proofs.Tryz.prog 265 = none := by kernel_rfl
@[go_sem] theorem ty_str_265 : strT Go.Proofs.Tryz.prog 265 = false := by kernel_rfl
@[go_sem] theorem ty_zero_265 : tzero Go.Proofs.Tryz.prog 265 = some (.nf) := by kernel_rfl
@[go_sem] theorem ty_cells_266 : tcells Go.Proofs.Tryz.prog 266 = 1 := by kernel_rfl
@[go_sem] theorem ty_bytes_266 : tbytes Go.Proofs.Tryz.prog 266 = 8 := by kernel_rfl
@[go_sem] theorem ty_agg_266 : tagg Go.Proofs.Tryz.prog 266 = some false := by kernel_rfl
@[go_sem] theorem ty_elem_266 : elemT Go.Proofs.Tryz.prog 266 = none := by kernel_rfl
@[go_sem] theorem ty_str_266 : strT Go.Proofs.Tryz.prog 266 = false := by kernel_rfl
@[go_sem] theorem ty_zero_266 : tzero Go.Proofs.Tryz.prog 266 = some (.nf) := by kernel_rfl
@[go_sem] theorem ty_cells_267 : tcells Go.Proofs.Tryz.prog 267 = 1 := by kernel_rfl
@[go_sem] theorem ty_bytes_267 : tbytes Go.Proofs.Tryz.prog 267 = 8 := by kernel_rfl
@[go_sem] theorem ty_agg_267 : tagg Go.Proofs.Tryz.prog 267 = some false := by kernel_rfl
@[go_sem] theorem ty_elem_267 : elemT Go.Proofs.Tryz.prog 267 = none := by kernel_rfl
@[go_sem] theorem ty_str_267 : strT Go.Proofs.Tryz.prog 267 = false := by kernel_rfl
@[go_sem] theorem ty_zero_267 : tzero Go.Proofs.Tryz.prog 267 = some (.nf) := by kernel_rfl
@[go_sem] theorem ty_cells_269 : tcells Go.Proofs.Tryz.prog 269 = 1 := by kernel_rfl
@[go_sem] theorem ty_bytes_269 : tbytes Go.Proofs.Tryz.prog 269 = 8 := by kernel_rfl
@[go_sem] theorem ty_agg_269 : tagg Go.Proofs.Tryz.prog 269 = some false := by kernel_rfl
@[go_sem] theorem ty_elem_269 : elemT Go.Proofs.Tryz.prog 269 = none := by kernel_rfl
@[go_sem] theorem ty_str_269 : strT Go.Proofs.Tryz.prog 269 = false := by kernel_rfl
@[go_sem] theorem ty_zero_269 : tzero Go.Proofs.Tryz.prog 269 = some (.nf) := by kernel_rfl
@[go_sem] theorem ty_cells_270 : tcells Go.Proofs.Tryz.prog 270 = 1 := by kernel_rfl
@[go_sem] theorem ty_bytes_270 : tbytes Go.Proofs.Tryz.prog 270 = 8 := by kernel_rfl
@[go_sem] theorem ty_agg_270 : tagg Go.Proofs.Tryz.prog 270 = some false := by kernel_rfl
@[go_sem] theorem ty_elem_270 : elemT Go.Proofs.Tryz.prog 270 = none := by kernel_rfl
@[go_sem] theorem ty_str_270 : strT Go.Proofs.Tryz.prog 270 = false := by kernel_rfl
@[go_sem] theorem ty_zero_270 : tzero Go.Proofs.Tryz.prog 270 = some (.nf) := by kernel_rfl
@[go_sem] theorem ty_cells_271 : tcells Go.Proofs.Tryz.prog 271 = 1 := by kernel_rfl
@[go_sem] theorem ty_bytes_271 : tbytes Go.Proofs.Tryz.prog 271 = 8 := by kernel_rfl
@[go_sem] theorem ty_agg_271 : tagg Go.Proofs.Tryz.prog 271 = some false := by kernel_rfl
@[go_sem] theorem ty_elem_271 : elemT Go.Proofs.Tryz.prog 271 = none := by kernel_rfl
@[go_sem] theorem ty_str_271 : strT Go.Proofs.Tryz.prog 271 = false := by kernel_rfl
@[go_sem] theorem ty_zero_271 : tzero Go.Proofs.Tryz.prog 271 = some (.nf) := by kernel_rfl
@[go_sem] theorem ty_cells_272 : tcells Go.Proofs.Tryz.prog 272 = 1 := by kernel_rfl
@[go_sem] theorem ty_bytes_272 : tbytes Go.Proofs.Tryz.prog 272 = 8 := by kernel_rfl
@[go_sem] theorem ty_agg_272 : tagg Go.Proofs.Tryz.prog 272 = some false := by kernel_rfl
@[go_sem] theorem ty_elem_272 : elemT Go.Proofs.Tryz.prog 272 = none := by kernel_rfl
@[go_sem] theorem ty_str_272 : strT Go.Proofs.Tryz.prog 272 = false := by kernel_rfl
@[go_sem] theorem ty_zero_272 : tzero Go.Proofs.Tryz.prog 272 = some (.nf) := by kernel_rfl
@[go_sem] theorem ty_cells_275 : tcells Go.Proofs.Tryz.prog 275 = 1 := by kernel_rfl
@[go_sem] theorem ty_bytes_275 : tbytes Go.Proofs.Tryz.prog 275 = 8 := by kernel_rfl
@[go_sem] theorem ty_agg_275 : tagg Go.Proofs.Tryz.prog 275 = some false := by kernel_rfl
@[go_sem] theorem ty_elem_275 : elemT Go.Proofs.Tryz.prog 275 = none := by kernel_rfl
@[go_sem] theorem ty_str_275 : strT Go.Proofs.Tryz.prog 275 = false := by kernel_rfl
@[go_sem] theorem ty_zero_275 : tzero Go.Proofs.Tryz.prog 275 = some (.nf) := by kernel_rfl
@[go_sem] theorem ty_cells_276 : tcells Go.Proofs.Tryz.prog 276 = 1 := by kernel_rfl
@[go_sem] theorem ty_bytes_276 : tbytes Go.Proofs.Tryz.prog 276 = 8 := by kernel_rfl
@[go_sem] theorem ty_agg_276 : tagg Go.Proofs.Tryz.prog 276 = some false := by kernel_rfl
@[go_sem] theorem ty_elem_276 : elemT Go.Proofs.Tryz.prog 276 = none := by kernel_rfl
@[go_sem] theorem ty_str_276 : strT Go.Proofs.Tryz.prog 276 = false := by kernel_rfl
@[go_sem] theorem ty_zero_276 : tzero Go.Proofs.Tryz.prog 276 = some (.nf) := by kernel_rfl
@[go_sem] theorem ty_cells_277 : tcells Go.Proofs.Tryz.prog 277 = 1 := by kernel_rfl
@[go_sem] theorem ty_bytes_277 : tbytes Go.Proofs.Tryz.prog 277 = 8 := by kernel_rfl
@[go_sem] theorem ty_agg_277 : tagg Go.Proofs.Tryz.prog 277 = some false := by kernel_rfl
@[go_sem] theorem ty_elem_277 : elemT Go.Proofs.Tryz.prog 277 = none := by kernel_rfl
@[go_sem] theorem ty_str_277 : strT Go.Proofs.Tryz.prog 277 = false := by kernel_rfl
@[go_sem] theorem ty_zero_277 : tzero Go.Proofs.Tryz.prog 277 = some (.nf) := by kernel_rfl
@[go_sem] theorem ty_cells_278 : tcells Go.Proofs.Tryz.prog 278 = 1 := by kernel_rfl
@[go_sem] theorem ty_bytes_278 : tbytes Go.Proofs.Tryz.prog 278 = 8 := by kernel_rfl
@[go_sem] theorem ty_agg_278 : tagg Go.Proofs.Tryz.prog 278 = some false := by kernel_rfl
@[go_sem] theorem ty_elem_278 : elemT Go.Proofs.Tryz.prog 278 = none := by kernel_rfl
@[go_sem] theorem ty_str_278 : strT Go.Proofs.Tryz.prog 278 = false := by kernel_rfl
@[go_sem] theorem ty_zero_278 : tzero Go.Proofs.Tryz.prog 278 = some (.nf) := by kernel_rfl
@[go_sem] theorem ty_cells_279 : tcells Go.Proofs.Tryz.prog 279 = 1 := by kernel_rfl
@[go_sem] theorem ty_bytes_279 : tbytes Go.Proofs.Tryz.prog 279 = 8 := by kernel_rfl
@[go_sem] theorem ty_agg_279 : tagg Go.Proofs.Tryz.prog 279 = some false := by kernel_rfl
@[go_sem] theorem ty_elem_279 : elemT Go.Proofs.Tryz.prog 279 = none := by kernel_rfl
@[go_sem] theorem ty_str_279 : strT Go.Proofs.Tryz.prog 279 = false := by kernel_rfl
@[go_sem] theorem ty_zero_279 : tzero Go.Proofs.Tryz.prog 279 = some (.nf) := by kernel_rfl
@[go_sem] theorem ty_cells_280 : tcells Go.Proofs.Tryz.prog 280 = 1 := by kernel_rfl
@[go_sem] theorem ty_bytes_280 : tbytes Go.Proofs.Tryz.prog 280 = 8 := by kernel_rfl
@[go_sem] theorem ty_agg_280 : tagg Go.Proofs.Tryz.prog 280 = some false := by kernel_rfl
@[go_sem] theorem ty_elem_280 : elemT Go.Proofs.Tryz.prog 280 = none := by kernel_rfl
@[go_sem] theorem ty_str_280 : strT Go.Proofs.Tryz.prog 280 = false := by kernel_rfl
@[go_sem] theorem ty_zero_280 : tzero Go.Proofs.Tryz.prog 280 = some (.nf) := by kernel_rfl
@[go_sem] theorem ty_cells_281 : tcells Go.Proofs.Tryz.prog 281 = 1 := by kernel_rfl
@[go_sem] theorem ty_bytes_281 : tbytes Go.Proofs.Tryz.prog 281 = 8 := by kernel_rfl
@[go_sem] theorem ty_agg_281 : tagg Go.Proofs.Tryz.prog 281 = some false := by kernel_rfl
@[go_sem] theorem ty_elem_281 : elemT Go.Proofs.Tryz.prog 281 = none := by kernel_rfl
@[go_sem] theorem ty_str_281 : strT Go.Proofs.Tryz.prog 281 = false := by kernel_rfl
@[go_sem] theorem ty_zero_281 : tzero Go.Proofs.Tryz.prog 281 = some (.nf) := by kernel_rfl
@[go_sem] theorem ty_cells_283 : tcells Go.Proofs.Tryz.prog 283 = 1 := by kernel_rfl
@[go_sem] theorem ty_bytes_283 : tbytes Go.Proofs.Tryz.prog 283 = 24 := by kernel_rfl
@[go_sem] theorem ty_agg_283 : tagg Go.Proofs.Tryz.prog 283 = some false := by kernel_rfl
@[go_sem] theorem ty_elem_283 : elemT Go.Proofs.Tryz.prog 283 = some 5 := by kernel_rfl
@[go_sem] theorem ty_elok_283 : elemOK Go.Proofs.Tryz.prog 283 = true := by kernel_rfl
@[go_sem] theorem ty_str_283 : strT Go.Proofs.Tryz.prog 283 = false := by kernel_rfl
@[go_sem] theorem ty_zero_283 : tzero Go.Proofs.Tryz.prog 283 = some (.nils) := by kernel_rfl
@[go_sem] theorem ty_cells_284 : tcells Go.Proofs.Tryz.prog 284 = 2 := by kernel_rfl
@[go_sem] theorem ty_bytes_284 : tbytes Go.Proofs.Tryz.prog 284 = 32 := by kernel_rfl
@[go_sem] theorem ty_agg_284 : tagg Go.Proofs.Tryz.prog 284 = some true := by kernel_rfl
@[go_sem] theorem ty_elem_284 : elemT Go.Proofs.Tryz.prog 284 = none := by kernel_rfl
@[go_sem] theorem ty_str_284 : strT Go.Proofs.Tryz.prog 284 = false := by kernel_rfl
@[go_sem] theorem ty_f_284_0 : finfo Go.Proofs.Tryz.prog 284 0 = some (0, 282) := by kernel_rfl
@[go_sem] theorem ty_f_284_1 : finfo Go.Proofs.Tryz.prog 284 1 = some (1, 283) := by kernel_rfl
@[go_sem] theorem ty_places_284 : placesT Go.Proofs.Tryz.prog 284 = some [(0, 1), (1, 1)] := by kernel_rfl
@[go_sem] theorem ty_zero_284 : tzero Go.Proofs.Tryz.prog 284 = some (.agg [.np, .nils]) := by kernel_rfl
@[go_sem] theorem ty_cells_285 : tcells Go.Proofs.Tryz.prog 285 = 2 := by kernel_rfl
@[go_sem] theorem ty_bytes_285 : tbytes Go.Proofs.Tryz.prog 285 = 32 := by kernel_rfl
@[go_sem] theorem ty_agg_285 : tagg Go.Proofs.Tryz.prog 285 = some true := by kernel_rfl
@[go_sem] theorem ty_elem_285 : elemT Go.Proofs.Tryz.prog 285 = none := by kernel_rfl
@[go_sem] theorem ty_str_285 : strT Go.Proofs.Tryz.prog 285 = false := by kernel_rfl
@[go_sem] theorem ty_f_285_0 : finfo Go.Proofs.Tryz.prog 285 0 = some (0, 282) := by kernel_rfl
@[go_sem] theorem ty_f_285_1 : finfo Go.Proofs.Tryz.prog 285 1 = some (1, 283) := by kernel_rfl
@[go_sem] theorem ty_places_285 : placesT Go.Proofs.Tryz.prog 285 = some [(0, 1), (1, 1)] := by kernel_rfl
@[go_sem] theorem ty_zero_285 : tzero Go.Proofs.Tryz.prog 285 = some (.agg [.np, .nils]) := by kernel_rfl
@[go_sem] theorem ty_cells_286 : tcells Go.Proofs.Tryz.prog 286 = 1 := by kernel_rfl
@[go_sem] theorem ty_bytes_286 : tbytes Go.Proofs.Tryz.prog 286 = 8 := by kernel_rfl
@[go_sem] theorem ty_agg_286 : tagg Go.Proofs.Tryz.prog 286 = some false := by kernel_rfl
@[go_sem] theorem ty_elem_286 : elemT Go.Proofs.Tryz.prog 286 = none := by kernel_rfl
@[go_sem] theorem ty_str_286 : strT Go.Proofs.Tryz.prog 286 = false := by kernel_rfl
@[go_sem] theorem ty_zero_286 : tzero Go.Proofs.Tryz.prog 286 = some (.nf) := by kernel_rfl
@[go_sem] theorem ty_cells_290 : tcells Go.Proofs.Tryz.prog 290 = 1 := by kernel_rfl
@[go_sem] theorem ty_bytes_290 : tbytes Go.Proofs.Tryz.prog 290 = 8 := by kernel_rfl
@[go_sem] theorem ty_agg_290 : tagg Go.Proofs.Tryz.prog 290 = some false := by kernel_rfl
@[go_sem] theorem ty_elem_290 : elemT Go.Proofs.Tryz.prog 290 = none := by kernel_rfl
@[go_sem] theorem ty_str_290 : strT Go.Proofs.Tryz.prog 290 = false := by kernel_rfl
@[go_sem] theorem ty_zero_290 : tzero Go.Proofs.Tryz.prog 290 = some (.nf) := by kernel_rfl
@[go_sem] theorem ty_cells_291 : tcells Go.Proofs.Tryz.prog 291 = 1 := by kernel_rfl
@[go_sem] theorem ty_bytes_291 : tbytes Go.Proofs.Tryz.prog 291 = 8 := by kernel_rfl
@[go_sem] theorem ty_agg_291 : tagg Go.Proofs.Tryz.prog 291 = some false := by kernel_rfl
@[go_sem] theorem ty_elem_291 : elemT Go.Proofs.Tryz.prog 291 = none := by kernel_rfl
@[go_sem] theorem ty_str_291 : strT Go.Proofs.Tryz.prog 291 = false := by kernel_rfl
@[go_sem] theorem ty_zero_291 : tzero Go.Proofs.Tryz.prog 291 = some (.nf) := by kernel_rfl
@[go_sem] theorem ty_cells_292 : tcells Go.Proofs.Tryz.prog 292 = 1 := by kernel_rfl
@[go_sem] theorem ty_bytes_292 : tbytes Go.Proofs.Tryz.prog 292 = 8 := by kernel_rfl
@[go_sem] theorem ty_agg_292 : tagg Go.Proofs.Tryz.prog 292 = some false := by kernel_rfl
@[go_sem] theorem ty_elem_292 : elemT Go.Proofs.Tryz.prog 292 = none := by kernel_rfl
@[go_sem] theorem ty_str_292 : strT Go.Proofs.Tryz.prog 292 = false := by kernel_rfl
@[go_sem] theorem ty_zero_292 : tzero Go.Proofs.Tryz.prog 292 = some (.nf) := by kernel_rfl
@[go_sem] theorem ty_cells_293 : tcells Go.Proofs.Tryz.prog 293 = 1 := by kernel_rfl
@[go_sem] theorem ty_bytes_293 : tbytes Go.Proofs.Tryz.prog 293 = 8 := by kernel_rfl
@[go_sem] theorem ty_agg_293 : tagg Go.Proofs.Tryz.prog 293 = some false := by kernel_rfl
@[go_sem] theorem ty_elem_293 : elemT Go.Proofs.Tryz.prog 293 = none := by kernel_rfl
@[go_sem] theorem ty_str_293 : strT Go.Proofs.Tryz.prog 293 = false := by kernel_rfl
@[go_sem] theorem ty_zero_293 : tzero Go.Proofs.Tryz.prog 293 = some (.nf) := by kernel_rfl
@[go_sem] theorem ty_cells_294 : tcells Go.Proofs.Tryz.prog 294 = 1 := by kernel_rfl
@[go_sem] theorem ty_bytes_294 : tbytes Go.Proofs.Tryz.prog 294 = 8 := by kernel_rfl
@[go_sem] theorem ty_agg_294 : tagg Go.Proofs.Tryz.prog 294 = some false := by kernel_rfl
@[go_sem] theorem ty_elem_294 : elemT Go.Proofs.Tryz.prog 294 = none := by kernel_rfl
@[go_sem] theorem ty_str_294 : strT Go.Proofs.Tryz.prog 294 = false := by kernel_rfl
@[go_sem] theorem ty_zero_294 : tzero Go.Proofs.Tryz.prog 294 = some (.nf) := by kernel_rfl
@[go_sem] theorem ty_cells_295 : tcells Go.Proofs.Tryz.prog 295 = 1 := by kernel_rfl
@[go_sem] theorem ty_bytes_295 : tbytes Go.Proofs.Tryz.prog 295 = 8 := by kernel_rfl
@[go_sem] theorem ty_agg_295 : tagg Go.Proofs.Tryz.prog 295 = some false := by kernel_rfl
@[go_sem] theorem ty_elem_295 : elemT Go.Proofs.Tryz.prog 295 = none := by kernel_rfl
@[go_sem] theorem ty_str_295 : strT Go.Proofs.Tryz.prog 295 = false := by kernel_rfl
@[go_sem] theorem ty_zero_295 : tzero Go.Proofs.Tryz.prog 295 = some (.nf) := by kernel_rfl
@[go_sem] theorem ty_cells_296 : tcells Go.Proofs.Tryz.prog 296 = 1 := by kernel_rfl
@[go_sem] theorem ty_bytes_296 : tbytes Go.Proofs.Tryz.prog 296 = 8 := by kernel_rfl
@[go_sem] theorem ty_agg_296 : tagg Go.Proofs.Tryz.prog 296 = some false := by kernel_rfl
@[go_sem] theorem ty_elem_296 : elemT Go.Proofs.Tryz.prog 296 = none := by kernel_rfl
@[go_sem] theorem ty_str_296 : strT Go.Proofs.Tryz.prog 296 = false := by kernel_rfl
@[go_sem] theorem ty_zero_296 : tzero Go.Proofs.Tryz.prog 296 = some (.nf) := by kernel_rfl
@[go_sem] theorem ty_cells_297 : tcells Go.Proofs.Tryz.prog 297 = 1 := by kernel_rfl
@[go_sem] theorem ty_bytes_297 : tbytes Go.Proofs.Tryz.prog 297 = 8 := by kernel_rfl
@[go_sem] theorem ty_agg_297 : tagg Go.Proofs.Tryz.prog 297 = some false := by kernel_rfl
@[go_sem] theorem ty_elem_297 : elemT Go.Proofs.Tryz.prog 297 = none := by kernel_rfl
@[go_sem] theorem ty_str_297 : strT Go.Proofs.Tryz.prog 297 = false := by kernel_rfl
@[go_sem] theorem ty_zero_297 : tzero Go.Proofs.Tryz.prog 297 = some (.nf) := by kernel_rfl
@[go_sem] theorem ty_cells_298 : tcells Go.Proofs.Tryz.prog 298 = 1 := by kernel_rfl
@[go_sem] theorem ty_bytes_298 : tbytes Go.Proofs.Tryz.prog 298 = 24 := by kernel_rfl
@[go_sem] theorem ty_agg_298 : tagg Go.Proofs.Tryz.prog 298 = some false := by kernel_rfl
@[go_sem] theorem ty_elem_298 : elemT Go.Proofs.Tryz.prog 298 = some 27 := by kernel_rfl
@[go_sem] theorem ty_elok_298 : elemOK Go.Proofs.Tryz.prog 298 = true := by kernel_rfl
@[go_sem] theorem ty_str_298 : strT Go.Proofs.Tryz.prog 298 = false := by kernel_rfl
@[go_sem] theorem ty_zero_298 : tzero Go.Proofs.Tryz.prog 298 = some (.nils) := by kernel_rfl
@[go_sem] theorem ty_cells_299 : tcells Go.Proofs.Tryz.prog 299 = 1 := by kernel_rfl
@[go_sem] theorem ty_bytes_299 : tbytes Go.Proofs.Tryz.prog 299 = 8 := by kernel_rfl
@[go_sem] theorem ty_agg_299 : tagg Go.Proofs.Tryz.prog 299 = some false := by kernel_rfl
@[go_sem] theorem ty_elem_299 : elemT Go.Proofs.Tryz.prog 299 = none := by kernel_rfl
@[go_sem] theorem ty_str_299 : strT Go.Proofs.Tryz.prog 299 = false := by kernel_rfl
@[go_sem] theorem ty_zero_299 : tzero Go.Proofs.Tryz.prog 299 = some (.nf) := by kernel_rfl
@[go_sem] theorem ty_cells_300 : tcells Go.Proofs.Tryz.prog 300 = 1 := by kernel_rfl
@[go_sem] theorem ty_bytes_300 : tbytes Go.Proofs.Tryz.prog 300 = 8 := by kernel_rfl
@[go_sem] theorem ty_agg_300 : tagg Go.Proofs.Tryz.prog 300 = some false := by kernel_rfl
@[go_sem] theorem ty_elem_300 : elemT Go.Proofs.Tryz.prog 300 = none := by kernel_rfl
@[go_sem] theorem ty_str_300 : strT Go.Proofs.Tryz.prog 300 = false := by kernel_rfl
@[go_sem] theorem ty_zero_300 : tzero Go.Proofs.Tryz.prog 300 = some (.nf) := by kernel_rfl
@[go_sem] theorem ty_cells_301 : tcells Go.Proofs.Tryz.prog 301 = 1 := by kernel_rfl
@[go_sem] theorem ty_bytes_301 : tbytes Go.Proofs.Tryz.prog 301 = 8 := by kernel_rfl
@[go_sem] theorem ty_agg_301 : tagg Go.Proofs.Tryz.prog 301 = some false := by kernel_rfl
@[go_sem] theorem ty_elem_301 : elemT Go.Proofs.Tryz.prog 301 = none := by kernel_rfl
@[go_sem] theorem ty_str_301 : strT Go.Proofs.Tryz.prog 301 = false := by kernel_rfl
@[go_sem] theorem ty_zero_301 : tzero Go.Proofs.Tryz.prog 301 = some (.nf) := by kernel_rfl
@[go_sem] theorem ty_cells_303 : tcells Go.Proofs.Tryz.prog 303 = 1 := by kernel_rfl
@[go_sem] theorem ty_bytes_303 : tbytes Go.Proofs.Tryz.prog 303 = 8 := by kernel_rfl
@[go_sem] theorem ty_agg_303 : tagg Go.Proofs.Tryz.prog 303 = some false := by kernel_rfl
@[go_sem] theorem ty_elem_303 : elemT Go.Proofs.Tryz.prog 303 = none := by kernel_rfl
@[go_sem] theorem ty_map_303 : mapT Go.Proofs.Tryz.prog 303 = some (305, 4) := by kernel_rfl
@[go_sem] theorem ty_str_303 : strT Go.Proofs.Tryz.prog 303 = false := by kernel_rfl
@[go_sem] theorem ty_cells_304 : tcells Go.Proofs.Tryz.prog 304 = 2 := by kernel_rfl
@[go_sem] theorem ty_bytes_304 : tbytes Go.Proofs.Tryz.prog 304 = 24 := by kernel_rfl
@[go_sem] theorem ty_agg_304 : tagg Go.Proofs.Tryz.prog 304 = some true := by kernel_rfl
@[go_sem] theorem ty_elem_304 : elemT Go.Proofs.Tryz.prog 304 = none := by kernel_rfl
@[go_sem] theorem ty_str_304 : strT Go.Proofs.Tryz.prog 304 = false := by kernel_rfl
@[go_sem] theorem ty_f_304_0 : finfo Go.Proofs.Tryz.prog 304 0 = some (0, 3) := by kernel_rfl
@[go_sem] theorem ty_f_304_1 : finfo Go.Proofs.Tryz.prog 304 1 = some (1, 9) := by kernel_rfl
@[go_sem] theorem ty_places_304 : placesT Go.Proofs.Tryz.prog 304 = some [(0, 1), (1, 1)] := by kernel_rfl
@[go_sem] theorem ty_eqg_304 : eqG Go.Proofs.Tryz.prog 304 = true := by kernel_rfl
@[go_sem] theorem ty_zero_304 : tzero Go.Proofs.Tryz.prog 304 = some (.d (.agg [(.int .i64 0), (.str ⟨#[]⟩)])) := by kernel_rfl
@[go_sem] theorem ty_cells_305 : tcells Go.Proofs.Tryz.prog 305 = 2 := by kernel_rfl
@[go_sem] theorem ty_bytes_305 : tbytes Go.Proofs.Tryz.prog 305 = 24 := by kernel_rfl
@[go_sem] theorem ty_agg_305 : tagg Go.Proofs.Tryz.prog 305 = some true := by kernel_rfl
@[go_sem] theorem ty_elem_305 : elemT Go.Proofs.Tryz.prog 305 = none := by kernel_rfl
@[go_sem] theorem ty_str_305 : strT Go.Proofs.Tryz.prog 305 = false := by kernel_rfl
@[go_sem] theorem ty_f_305_0 : finfo Go.Proofs.Tryz.prog 305 0 = some (0, 3) := by kernel_rfl
@[go_sem] theorem ty_f_305_1 : finfo Go.Proofs.Tryz.prog 305 1 = some (1, 9) := by kernel_rfl
@[go_sem] theorem ty_places_305 : placesT Go.Proofs.Tryz.prog 305 = some [(0, 1), (1, 1)] := by kernel_rfl
@[go_sem] theorem ty_eqg_305 : eqG Go.Proofs.Tryz.prog 305 = true := by kernel_rfl
@[go_sem] theorem ty_zero_305 : tzero Go.Proofs.Tryz.prog 305 = some (.d (.agg [(.int .i64 0), (.str ⟨#[]⟩)])) := by kernel_rfl
@[go_sem] theorem ty_cells_306 : tcells Go.Proofs.Tryz.prog 306 = 1 := by kernel_rfl
@[go_sem] theorem ty_bytes_306 : tbytes Go.Proofs.Tryz.prog 306 = 8 := by kernel_rfl
@[go_sem] theorem ty_agg_306 : tagg Go.Proofs.Tryz.prog 306 = some false := by kernel_rfl
@[go_sem] theorem ty_elem_306 : elemT Go.Proofs.Tryz.prog 306 = none := by kernel_rfl
@[go_sem] theorem ty_map_306 : mapT Go.Proofs.Tryz.prog 306 = some (26, 4) := by kernel_rfl
@[go_sem] theorem ty_str_306 : strT Go.Proofs.Tryz.prog 306 = false := by kernel_rfl
@[go_sem] theorem ty_cells_307 : tcells Go.Proofs.Tryz.prog 307 = 1 := by kernel_rfl
@[go_sem] theorem ty_bytes_307 : tbytes Go.Proofs.Tryz.prog 307 = 8 := by kernel_rfl
@[go_sem] theorem ty_agg_307 : tagg Go.Proofs.Tryz.prog 307 = some false := by kernel_rfl
@[go_sem] theorem ty_elem_307 : elemT Go.Proofs.Tryz.prog 307 = none := by kernel_rfl
@[go_sem] theorem ty_str_307 : strT Go.Proofs.Tryz.prog 307 = false := by kernel_rfl
@[go_sem] theorem ty_zero_307 : tzero Go.Proofs.Tryz.prog 307 = some (.nf) := by kernel_rfl
@[go_sem] theorem ty_cells_308 : tcells Go.Proofs.Tryz.prog 308 = 256 := by kernel_rfl
@[go_sem] theorem ty_bytes_308 : tbytes Go.Proofs.Tryz.prog 308 = 256 := by kernel_rfl
@[go_sem] theorem ty_agg_308 : tagg Go.Proofs.Tryz.prog 308 = some true := by kernel_rfl
@[go_sem] theorem ty_elem_308 : elemT Go.Proofs.Tryz.prog 308 = none := by kernel_rfl
@[go_sem] theorem ty_elok_308 : elemOK Go.Proofs.Tryz.prog 308 = true := by kernel_rfl
@[go_sem] theorem ty_arr_308 : arrT Go.Proofs.Tryz.prog 308 = some (256, 5) := by kernel_rfl
@[go_sem] theorem ty_str_308 : strT Go.Proofs.Tryz.prog 308 = false := by kernel_rfl
@[go_sem] theorem ty_cells_309 : tcells Go.Proofs.Tryz.prog 309 = 2 := by kernel_rfl
@[go_sem] theorem ty_bytes_309 : tbytes Go.Proofs.Tryz.prog 309 = 2 := by kernel_rfl
@[go_sem] theorem ty_agg_309 : tagg Go.Proofs.Tryz.prog 309 = some true := by kernel_rfl
@[go_sem] theorem ty_elem_309 : elemT Go.Proofs.Tryz.prog 309 = none := by kernel_rfl
@[go_sem] theorem ty_str_309 : strT Go.Proofs.Tryz.prog 309 = false := by kernel_rfl
@[go_sem] theorem ty_f_309_0 : finfo Go.Proofs.Tryz.prog 309 0 = some (0, 5) := by kernel_rfl
@[go_sem] theorem ty_f_309_1 : finfo Go.Proofs.Tryz.prog 309 1 = some (1, 5) := by kernel_rfl
@[go_sem] theorem ty_places_309 : placesT Go.Proofs.Tryz.prog 309 = some [(0, 1), (1, 1)] := by kernel_rfl
@[go_sem] theorem ty_eqg_309 : eqG Go.Proofs.Tryz.prog 309 = true := by kernel_rfl
@[go_sem] theorem ty_zero_309 : tzero Go.Proofs.Tryz.prog 309 = some (.d (.agg [(.int .u8 0), (.int .u8 0)])) := by kernel_rfl
@[go_sem] theorem ty_cells_310 : tcells Go.Proofs.Tryz.prog 310 = 2 := by kernel_rfl
@[go_sem] theorem ty_bytes_310 : tbytes Go.Proofs.Tryz.prog 310 = 2 := by kernel_rfl
@[go_sem] theorem ty_agg_310 : tagg Go.Proofs.Tryz.prog 310 = some true := by kernel_rfl
@[go_sem] theorem ty_elem_310 : elemT Go.Proofs.Tryz.prog 310 = none := by kernel_rfl
@[go_sem] theorem ty_str_310 : strT Go.Proofs.Tryz.prog 310 = false := by kernel_rfl
@[go_sem] theorem ty_f_310_0 : finfo Go.Proofs.Tryz.prog 310 0 = some (0, 5) := by kernel_rfl
@[go_sem] theorem ty_f_310_1 : finfo Go.Proofs.Tryz.prog 310 1 = some (1, 5) := by kernel_rfl
@[go_sem] theorem ty_places_310 : placesT Go.Proofs.Tryz.prog 310 = some [(0, 1), (1, 1)] := by kernel_rfl
@[go_sem] theorem ty_eqg_310 : eqG Go.Proofs.Tryz.prog 310 = true := by kernel_rfl
@[go_sem] theorem ty_zero_310 : tzero Go.Proofs.Tryz.prog 310 = some (.d (.agg [(.int .u8 0), (.int .u8 0)])) := by kernel_rfl
@[go_sem] theorem ty_cells_311 : tcells Go.Proofs.Tryz.prog 311 = 32 := by kernel_rfl
@[go_sem] theorem ty_bytes_311 : tbytes Go.Proofs.Tryz.prog 311 = 32 := by kernel_rfl
@[go_sem] theorem ty_agg_311 : tagg Go.Proofs.Tryz.prog 311 = some true := by kernel_rfl
@[go_sem] theorem ty_elem_311 : elemT Go.Proofs.Tryz.prog 311 = none := by kernel_rfl
@[go_sem] theorem ty_elok_311 : elemOK Go.Proofs.Tryz.prog 311 = true := by kernel_rfl
@[go_sem] theorem ty_arr_311 : arrT Go.Proofs.Tryz.prog 311 = some (16, 310) := by kernel_rfl
@[go_sem] theorem ty_str_311 : strT Go.Proofs.Tryz.prog 311 = false := by kernel_rfl
@[go_sem] theorem ty_cells_312 : tcells Go.Proofs.Tryz.prog 312 = 1 := by kernel_rfl
@[go_sem] theorem ty_bytes_312 : tbytes Go.Proofs.Tryz.prog 312 = 8 := by kernel_rfl
@[go_sem] theorem ty_agg_312 : tagg Go.Proofs.Tryz.prog 312 = some false := by kernel_rfl
@[go_sem] theorem ty_elem_312 : elemT Go.Proofs.Tryz.prog 312 = none := by kernel_rfl
@[go_sem] theorem ty_str_312 : strT Go.Proofs.Tryz.prog 312 = false := by kernel_rfl
@[go_sem] theorem ty_zero_312 : tzero Go.Proofs.Tryz.prog 312 = some (.nf) := by kernel_rfl
@[go_sem] theorem ty_cells_313 : tcells Go.Proofs.Tryz.prog 313 = 1 := by kernel_rfl
@[go_sem] theorem ty_bytes_313 : tbytes Go.Proofs.Tryz.prog 313 = 8 := by kernel_rfl
@[go_sem] theorem ty_agg_313 : tagg Go.Proofs.Tryz.prog 313 = some false := by kernel_rfl
@[go_sem] theorem ty_elem_313 : elemT Go.Proofs.Tryz.prog 313 = none := by kernel_rfl
@[go_sem] theorem ty_str_313 : strT Go.Proofs.Tryz.prog 313 = false := by kernel_rfl
@[go_sem] theorem ty_zero_313 : tzero Go.Proofs.Tryz.prog 313 = some (.nf) := by kernel_rfl
@[go_sem] theorem ty_cells_314 : tcells Go.Proofs.Tryz.prog 314 = 1 := by kernel_rfl
@[go_sem] theorem ty_bytes_314 : tbytes Go.Proofs.Tryz.prog 314 = 8 := by kernel_rfl
@[go_sem] theorem ty_agg_314 : tagg Go.Proofs.Tryz.prog 314 = some false := by kernel_rfl
@[go_sem] theorem ty_elem_314 : elemT Go.Proofs.Tryz.prog 314 = none := by kernel_rfl
@[go_sem] theorem ty_str_314 : strT Go.Proofs.Tryz.prog 314 = false := by kernel_rfl
@[go_sem] theorem ty_zero_314 : tzero Go.Proofs.Tryz.prog 314 = some (.nf) := by kernel_rfl
@[go_sem] theorem ty_cells_315 : tcells Go.Proofs.Tryz.prog 315 = 1 := by kernel_rfl
@[go_sem] theorem ty_bytes_315 : tbytes Go.Proofs.Tryz.prog 315 = 8 := by kernel_rfl
@[go_sem] theorem ty_agg_315 : tagg Go.Proofs.Tryz.prog 315 = some false := by kernel_rfl
@[go_sem] theorem ty_elem_315 : elemT Go.Proofs.Tryz.prog 315 = none := by kernel_rfl
@[go_sem] theorem ty_str_315 : strT Go.Proofs.Tryz.prog 315 = false := by kernel_rfl
@[go_sem] theorem ty_zero_315 : tzero Go.Proofs.Tryz.prog 315 = some (.nf) := by kernel_rfl
@[go_sem] theorem ty_cells_316 : tcells Go.Proofs.Tryz.prog 316 = 1 := by kernel_rfl
@[go_sem] theorem ty_bytes_316 : tbytes Go.Proofs.Tryz.prog 316 = 8 := by kernel_rfl
@[go_sem] theorem ty_agg_316 : tagg Go.Proofs.Tryz.prog 316 = some false := by kernel_rfl
@[go_sem] theorem ty_elem_316 : elemT Go.Proofs.Tryz.prog 316 = none := by kernel_rfl
@[go_sem] theorem ty_str_316 : strT Go.Proofs.Tryz.prog 316 = false := by kernel_rfl
@[go_sem] theorem ty_zero_316 : tzero Go.Proofs.Tryz.prog 316 = some (.nf) := by kernel_rfl
@[go_sem] theorem ty_cells_317 : tcells Go.Proofs.Tryz.prog 317 = 1 := by kernel_rfl
@[go_sem] theorem ty_bytes_317 : tbytes Go.Proofs.Tryz.prog 317 = 8 := by kernel_rfl
@[go_sem] theorem ty_agg_317 : tagg Go.Proofs.Tryz.prog 317 = some false := by kernel_rfl
@[go_sem] theorem ty_elem_317 : elemT Go.Proofs.Tryz.prog 317 = none := by kernel_rfl
@[go_sem] theorem ty_str_317 : strT Go.Proofs.Tryz.prog 317 = false := by kernel_rfl
@[go_sem] theorem ty_zero_317 : tzero Go.Proofs.Tryz.prog 317 = some (.nf) := by kernel_rfl
@[go_sem] theorem ty_cells_318 : tcells Go.Proofs.Tryz.prog 318 = 1 := by kernel_rfl
@[go_sem] theorem ty_bytes_318 : tbytes Go.Proofs.Tryz.prog 318 = 8 := by kernel_rfl
@[go_sem] theorem ty_agg_318 : tagg Go.Proofs.Tryz.prog 318 = some false := by kernel_rfl
@[go_sem] theorem ty_elem_318 : elemT Go.Proofs.Tryz.prog 318 = none := by kernel_rfl
@[go_sem] theorem ty_str_318 : strT Go.Proofs.Tryz.prog 318 = false := by kernel_rfl
@[go_sem] theorem ty_zero_318 : tzero Go.Proofs.Tryz.prog 318 = some (.nf) := by kernel_rfl
@[go_sem] theorem ty_cells_320 : tcells Go.Proofs.Tryz.prog 320 = 1 := by kernel_rfl
@[go_sem] theorem ty_bytes_320 : tbytes Go.Proofs.Tryz.prog 320 = 8 := by kernel_rfl
@[go_sem] theorem ty_agg_320 : tagg Go.Proofs.Tryz.prog 320 = some false := by kernel_rfl
@[go_sem] theorem ty_elem_320 : elemT Go.Proofs.Tryz.prog 320 = none := by kernel_rfl
@[go_sem] theorem ty_str_320 : strT Go.Proofs.Tryz.prog 320 = false := by kernel_rfl
@[go_sem] theorem ty_zero_320 : tzero Go.Proofs.Tryz.prog 320 = some (.nf) := by kernel_rfl
@[go_sem] theorem ty_cells_321 : tcells Go.Proofs.Tryz.prog 321 = 1 := by kernel_rfl
@[go_sem] theorem ty_bytes_321 : tbytes Go.Proofs.Tryz.prog 321 = 8 := by kernel_rfl
@[go_sem] theorem ty_agg_321 : tagg Go.Proofs.Tryz.prog 321 = some false := by kernel_rfl
@[go_sem] theorem ty_elem_321 : elemT Go.Proofs.Tryz.prog 321 = none := by kernel_rfl
@[go_sem] theorem ty_str_321 : strT Go.Proofs.Tryz.prog 321 = false := by kernel_rfl
@[go_sem] theorem ty_zero_321 : tzero Go.Proofs.Tryz.prog 321 = some (.nf) := by kernel_rfl
@[go_sem] theorem ty_cells_322 : tcells Go.Proofs.Tryz.prog 322 = 1 := by kernel_rfl
@[go_sem] theorem ty_bytes_322 : tbytes Go.Proofs.Tryz.prog 322 = 8 := by kernel_rfl
@[go_sem] theorem ty_agg_322 : tagg Go.Proofs.Tryz.prog 322 = some false := by kernel_rfl
@[go_sem] theorem ty_elem_322 : elemT Go.Proofs.Tryz.prog 322 = none := by kernel_rfl
@[go_sem] theorem ty_str_322 : strT Go.Proofs.Tryz.prog 322 = false := by kernel_rfl
@[go_sem] theorem ty_zero_322 : tzero Go.Proofs.Tryz.prog 322 = some (.nf) := by kernel_rfl
@[go_sem] theorem ty_cells_323 : tcells Go.Proofs.Tryz.prog 323 = 8 := by kernel_rfl
@[go_sem] theorem ty_bytes_323 : tbytes Go.Proofs.Tryz.prog 323 = 128 := by kernel_rfl
@[go_sem] theorem ty_agg_323 : tagg Go.Proofs.Tryz.prog 323 = some true := by kernel_rfl
@[go_sem] theorem ty_elem_323 : elemT Go.Proofs.Tryz.prog 323 = none := by kernel_rfl
@[go_sem] theorem ty_elok_323 : elemOK Go.Proofs.Tryz.prog 323 = true := by kernel_rfl
@[go_sem] theorem ty_arr_323 : arrT Go.Proofs.Tryz.prog 323 = some (8, 9) := by kernel_rfl
@[go_sem] theorem ty_str_323 : strT Go.Proofs.Tryz.prog 323 = false := by kernel_rfl
@[go_sem] theorem ty_cells_325 : tcells Go.Proofs.Tryz.prog 325 = 1 := by kernel_rfl
@[go_sem] theorem ty_bytes_325 : tbytes Go.Proofs.Tryz.prog 325 = 8 := by kernel_rfl
@[go_sem] theorem ty_agg_325 : tagg Go.Proofs.Tryz.prog 325 = some false := by kernel_rfl
@[go_sem] theorem ty_elem_325 : elemT Go.Proofs.Tryz.prog 325 = none := by kernel_rfl
@[go_sem] theorem ty_str_325 : strT Go.Proofs.Tryz.prog 325 = false := by kernel_rfl
@[go_sem] theorem ty_zero_325 : tzero Go.Proofs.Tryz.prog 325 = some (.nf) := by kernel_rfl
@[go_sem] theorem ty_cells_326 : tcells Go.Proofs.Tryz.prog 326 = 1 := by kernel_rfl
@[go_sem] theorem ty_bytes_326 : tbytes Go.Proofs.Tryz.prog 326 = 8 := by kernel_rfl
@[go_sem] theorem ty_agg_326 : tagg Go.Proofs.Tryz.prog 326 = some false := by kernel_rfl
@[go_sem] theorem ty_elem_326 : elemT Go.Proofs.Tryz.prog 326 = none := by kernel_rfl
@[go_sem] theorem ty_str_326 : strT Go.Proofs.Tryz.prog 326 = false := by kernel_rfl
@[go_sem] theorem ty_zero_326 : tzero Go.Proofs.Tryz.prog 326 = some (.nf) := by kernel_rfl
@[go_sem] theorem ty_cells_327 : tcells Go.Proofs.Tryz.prog 327 = 1 := by kernel_rfl
@[go_sem] theorem ty_bytes_327 : tbytes Go.Proofs.Tryz.prog 327 = 8 := by kernel_rfl
@[go_sem] theorem ty_agg_327 : tagg Go.Proofs.Tryz.prog 327 = some false := by kernel_rfl
@[go_sem] theorem ty_elem_327 : elemT Go.Proofs.Tryz.prog 327 = none := by kernel_rfl
@[go_sem] theorem ty_str_327 : strT Go.Proofs.Tryz.prog 327 = false := by kernel_rfl
@[go_sem] theorem ty_zero_327 : tzero Go.Proofs.Tryz.prog 327 = some (.nf) := by kernel_rfl
@[go_sem] theorem ty_cells_328 : tcells Go.Proofs.Tryz.prog 328 = 1 := by kernel_rfl
@[go_sem] theorem ty_bytes_328 : tbytes Go.Proofs.Tryz.prog 328 = 8 := by kernel_rfl
@[go_sem] theorem ty_agg_328 : tagg Go.Proofs.Tryz.prog 328 = some false := by kernel_rfl
@[go_sem] theorem ty_elem_328 : elemT Go.Proofs.Tryz.prog 328 = none := by kernel_rfl
@[go_sem] theorem ty_str_328 : strT Go.Proofs.Tryz.prog 328 = false := by kernel_rfl
@[go_sem] theorem ty_zero_328 : tzero Go.Proofs.Tryz.prog 328 = some (.nf) := by kernel_rfl
@[go_sem] theorem ty_cells_330 : tcells Go.Proofs.Tryz.prog 330 = 1 := by kernel_rfl
@[go_sem] theorem ty_bytes_330 : tbytes Go.Proofs.Tryz.prog 330 = 8 := by kernel_rfl
@[go_sem] theorem ty_agg_330 : tagg Go.Proofs.Tryz.prog 330 = some false := by kernel_rfl
@[go_sem] theorem ty_elem_330 : elemT Go.Proofs.Tryz.prog 330 = none := by kernel_rfl
@[go_sem] theorem ty_str_330 : strT Go.Proofs.Tryz.prog 330 = false := by kernel_rfl
@[go_sem] theorem ty_zero_330 : tzero Go.Proofs.Tryz.prog 330 = some (.nf) := by kernel_rfl
@[go_sem] theorem ty_cells_332 : tcells Go.Proofs.Tryz.prog 332 = 1 := by kernel_rfl
@[go_sem] theorem ty_bytes_332 : tbytes Go.Proofs.Tryz.prog 332 = 8 := by kernel_rfl
@[go_sem] theorem ty_agg_332 : tagg Go.Proofs.Tryz.prog 332 = some false := by kernel_rfl
@[go_sem] theorem ty_elem_332 : elemT Go.Proofs.Tryz.prog 332 = none := by kernel_rfl
@[go_sem] theorem ty_str_332 : strT Go.Proofs.Tryz.prog 332 = false := by kernel_rfl
@[go_sem] theorem ty_zero_332 : tzero Go.Proofs.Tryz.prog 332 = some (.nf) := by kernel_rfl
@[go_sem] theorem ty_cells_333 : tcells Go.Proofs.Tryz.prog 333 = 1 := by kernel_rfl
@[go_sem] theorem ty_bytes_333 : tbytes Go.Proofs.Tryz.prog 333 = 8 := by kernel_rfl
@[go_sem] theorem ty_agg_333 : tagg Go.Proofs.Tryz.prog 333 = some false := by kernel_rfl
@[go_sem] theorem ty_elem_333 : elemT Go.Proofs.Tryz.prog 333 = none := by kernel_rfl
@[go_sem] theorem ty_str_333 : strT Go.Proofs.Tryz.prog 333 = false := by kernel_rfl
@[go_sem] theorem ty_zero_333 : tzero Go.Proofs.Tryz.prog 333 = some (.nf) := by kernel_rfl
@[go_sem] theorem ty_cells_334 : tcells Go.Proofs.Tryz.prog 334 = 4 := by kernel_rfl
@[go_sem] theorem ty_bytes_334 : tbytes Go.Proofs.Tryz.prog 334 = 40 := by kernel_rfl
@[go_sem] theorem ty_agg_334 : tagg Go.Proofs.Tryz.prog 334 = some true := by kernel_rfl
@[go_sem] theorem ty_elem_334 : elemT Go.Proofs.Tryz.prog 334 = none := by kernel_rfl
@[go_sem] theorem ty_str_334 : strT Go.Proofs.Tryz.prog 334 = false := by kernel_rfl
@[go_sem] theorem ty_f_334_0 : finfo Go.Proofs.Tryz.prog 334 0 = some (0, 17) := by kernel_rfl
@[go_sem] theorem ty_f_334_1 : finfo Go.Proofs.Tryz.prog 334 1 = some (1, 17) := by kernel_rfl
@[go_sem] theorem ty_f_334_2 : finfo Go.Proofs.Tryz.prog 334 2 = some (2, 17) := by kernel_rfl
@[go_sem] theorem ty_f_334_3 : finfo Go.Proofs.Tryz.prog 334 3 = some (3, 9) := by kernel_rfl
@[go_sem] theorem ty_places_334 : placesT Go.Proofs.Tryz.prog 334 = some [(0, 1), (1, 1), (2, 1), (3, 1)] := by kernel_rfl
@[go_sem] theorem ty_zero_334 : tzero Go.Proofs.Tryz.prog 334 = some (.agg [.np, .np, .np, .d (.str ⟨#[]⟩)]) := by kernel_rfl
@[go_sem] theorem ty_cells_336 : tcells Go.Proofs.Tryz.prog 336 = 0 := by kernel_rfl
@[go_sem] theorem ty_bytes_336 : tbytes Go.Proofs.Tryz.prog 336 = 0 := by kernel_rfl
@[go_sem] theorem ty_agg_336 : tagg Go.Proofs.Tryz.prog 336 = some true := by kernel_rfl
@[go_sem] theorem ty_elem_336 : elemT Go.Proofs.Tryz.prog 336 = none := by kernel_rfl
@[go_sem] theorem ty_elok_336 : elemOK Go.Proofs.Tryz.prog 336 = true := by kernel_rfl
@[go_sem] theorem ty_arr_336 : arrT Go.Proofs.Tryz.prog 336 = some (0, 16) := by kernel_rfl
@[go_sem] theorem ty_str_336 : strT Go.Proofs.Tryz.prog 336 = false := by kernel_rfl
@[go_sem] theorem ty_cells_337 : tcells Go.Proofs.Tryz.prog 337 = 0 := by kernel_rfl
@[go_sem] theorem ty_bytes_337 : tbytes Go.Proofs.Tryz.prog 337 = 0 := by kernel_rfl
@[go_sem] theorem ty_agg_337 : tagg Go.Proofs.Tryz.prog 337 = some true := by kernel_rfl
@[go_sem] theorem ty_elem_337 : elemT Go.Proofs.Tryz.prog 337 = none := by kernel_rfl
@[go_sem] theorem ty_str_337 : strT Go.Proofs.Tryz.prog 337 = false := by kernel_rfl
@[go_sem] theorem ty_f_337_0 : finfo Go.Proofs.Tryz.prog 337 0 = some (0, 336) := by kernel_rfl
@[go_sem] theorem ty_places_337 : placesT Go.Proofs.Tryz.prog 337 = some [(0, 0)] := by kernel_rfl
@[go_sem] theorem ty_eqg_337 : eqG Go.Proofs.Tryz.prog 337 = true := by kernel_rfl
@[go_sem] theorem ty_zero_337 : tzero Go.Proofs.Tryz.prog 337 = some (.d (.agg [])) := by kernel_rfl
@[go_sem] theorem ty_cells_341 : tcells Go.Proofs.Tryz.prog 341 = 1 := by kernel_rfl
@[go_sem] theorem ty_bytes_341 : tbytes Go.Proofs.Tryz.prog 341 = 8 := by kernel_rfl
@[go_sem] theorem ty_agg_341 : tagg Go.Proofs.Tryz.prog 341 = some false := by kernel_rfl
@[go_sem] theorem ty_elem_341 : elemT Go.Proofs.Tryz.prog 341 = none := by kernel_rfl
@[go_sem] theorem ty_str_341 : strT Go.Proofs.Tryz.prog 341 = false := by kernel_rfl
@[go_sem] theorem ty_zero_341 : tzero Go.Proofs.Tryz.prog 341 = some (.nf) := by kernel_rfl
@[go_sem] theorem ty_cells_344 : tcells Go.Proofs.Tryz.prog 344 = 11 := by kernel_rfl
@[go_sem] theorem ty_bytes_344 : tbytes Go.Proofs.Tryz.prog 344 = 48 := by kernel_rfl
@[go_sem] theorem ty_agg_344 : tagg Go.Proofs.Tryz.prog 344 = some true := by kernel_rfl
@[go_sem] theorem ty_elem_344 : elemT Go.Proofs.Tryz.prog 344 = none := by kernel_rfl
@[go_sem] theorem ty_str_344 : strT Go.Proofs.Tryz.prog 344 = false := by kernel_rfl
@[go_sem] theorem ty_f_344_0 : finfo Go.Proofs.Tryz.prog 344 0 = some (0, 12) := by kernel_rfl
@[go_sem] theorem ty_f_344_1 : finfo Go.Proofs.Tryz.prog 344 1 = some (1, 12) := by kernel_rfl
@[go_sem] theorem ty_f_344_2 : finfo Go.Proofs.Tryz.prog 344 2 = some (2, 203) := by kernel_rfl
@[go_sem] theorem ty_f_344_3 : finfo Go.Proofs.Tryz.prog 344 3 = some (3, 339) := by kernel_rfl
@[go_sem] theorem ty_f_344_4 : finfo Go.Proofs.Tryz.prog 344 4 = some (4, 5) := by kernel_rfl
@[go_sem] theorem ty_f_344_5 : finfo Go.Proofs.Tryz.prog 344 5 = some (5, 5) := by kernel_rfl
@[go_sem] theorem ty_f_344_6 : finfo Go.Proofs.Tryz.prog 344 6 = some (6, 340) := by kernel_rfl
@[go_sem] theorem ty_f_344_7 : finfo Go.Proofs.Tryz.prog 344 7 = some (7, 341) := by kernel_rfl
@[go_sem] theorem ty_f_344_8 : finfo Go.Proofs.Tryz.prog 344 8 = some (8, 302) := by kernel_rfl
@[go_sem] theorem ty_f_344_9 : finfo Go.Proofs.Tryz.prog 344 9 = some (9, 342) := by kernel_rfl
@[go_sem] theorem ty_f_344_10 : finfo Go.Proofs.Tryz.prog 344 10 = some (10, 343) := by kernel_rfl
@[go_sem] theorem ty_places_344 : placesT Go.Proofs.Tryz.prog 344 = some [(0, 1), (1, 1), (2, 1), (3, 1), (4, 1), (5, 1), (6, 1), (7, 1), (8, 1), (9, 1), (10, 1)] := by kernel_rfl
@[go_sem] theorem ty_zero_344 : tzero Go.Proofs.Tryz.prog 344 = some (.agg [.d (.int .u64 0), .d (.int .u64 0), .d (.int .u32 0), .d (.int .u8 0), .d (.int .u8 0), .d (.int .u8 0), .d (.int .u8 0), .nf, .np, .d (.int .i32 0), .d (.int .i32 0)]) := by kernel_rfl
end Go.Ab

/- The tables of this program: types; which variables are shared, what is needed no more, in which order. Printed by gen.py. -/
import Derived.Test.YtojahppjdimdbaaKG
import Derived.Test.YtojahppjdimdbaaProg
import Derived.KernelRfl
set_option maxRecDepth 100000
namespace Go.Proofs.Ytojahppjdimdbaa
open Go.Proofs
theorem tsz_1 : tsz Try.prog 1 = some 1 := by kernel_rfl
theorem tag_1 : tag Try.prog 1 = some false := by kernel_rfl
theorem tcon_1 : tcon Try.prog 1 = true := by kernel_rfl
theorem tstr_1 : tstr Try.prog 1 = false := by kernel_rfl
theorem tbool_1 : tbool Try.prog 1 = false := by kernel_rfl
theorem tslc_1 : tslc Try.prog 1 = none := by kernel_rfl
theorem tarr_1 : tarr Try.prog 1 = none := by kernel_rfl
theorem tby_1 : tby Try.prog 1 = some 8 := by kernel_rfl
theorem tzr_1 : tzr Try.prog 1 = some [.raw .nilFunc] := by kernel_rfl
theorem tsz_2 : tsz Try.prog 2 = some 1 := by kernel_rfl
theorem tag_2 : tag Try.prog 2 = some false := by kernel_rfl
theorem tcon_2 : tcon Try.prog 2 = true := by kernel_rfl
theorem tstr_2 : tstr Try.prog 2 = false := by kernel_rfl
theorem tbool_2 : tbool Try.prog 2 = false := by kernel_rfl
theorem tslc_2 : tslc Try.prog 2 = none := by kernel_rfl
theorem tarr_2 : tarr Try.prog 2 = none := by kernel_rfl
theorem tby_2 : tby Try.prog 2 = some 8 := by kernel_rfl
theorem tzr_2 : tzr Try.prog 2 = some [.d (.int .i64 0)] := by kernel_rfl
theorem tsz_3 : tsz Try.prog 3 = some 1 := by kernel_rfl
theorem tag_3 : tag Try.prog 3 = some false := by kernel_rfl
theorem tcon_3 : tcon Try.prog 3 = true := by kernel_rfl
theorem tstr_3 : tstr Try.prog 3 = false := by kernel_rfl
theorem tbool_3 : tbool Try.prog 3 = false := by kernel_rfl
theorem tslc_3 : tslc Try.prog 3 = none := by kernel_rfl
theorem tarr_3 : tarr Try.prog 3 = none := by kernel_rfl
theorem tby_3 : tby Try.prog 3 = some 8 := by kernel_rfl
theorem tzr_3 : tzr Try.prog 3 = some [.d (.int .i64 0)] := by kernel_rfl
theorem tsz_4 : tsz Try.prog 4 = some 1 := by kernel_rfl
theorem tag_4 : tag Try.prog 4 = some false := by kernel_rfl
theorem tcon_4 : tcon Try.prog 4 = true := by kernel_rfl
theorem tstr_4 : tstr Try.prog 4 = false := by kernel_rfl
theorem tbool_4 : tbool Try.prog 4 = true := by kernel_rfl
theorem tslc_4 : tslc Try.prog 4 = none := by kernel_rfl
theorem tarr_4 : tarr Try.prog 4 = none := by kernel_rfl
theorem tby_4 : tby Try.prog 4 = some 1 := by kernel_rfl
theorem tzr_4 : tzr Try.prog 4 = some [.d (.bool false)] := by kernel_rfl
theorem tsz_5 : tsz Try.prog 5 = some 1 := by kernel_rfl
theorem tag_5 : tag Try.prog 5 = some false := by kernel_rfl
theorem tcon_5 : tcon Try.prog 5 = true := by kernel_rfl
theorem tstr_5 : tstr Try.prog 5 = false := by kernel_rfl
theorem tbool_5 : tbool Try.prog 5 = false := by kernel_rfl
theorem tslc_5 : tslc Try.prog 5 = none := by kernel_rfl
theorem tarr_5 : tarr Try.prog 5 = none := by kernel_rfl
theorem tby_5 : tby Try.prog 5 = some 1 := by kernel_rfl
theorem tzr_5 : tzr Try.prog 5 = some [.d (.int .u8 0)] := by kernel_rfl
theorem tsz_9 : tsz Try.prog 9 = some 1 := by kernel_rfl
theorem tag_9 : tag Try.prog 9 = some false := by kernel_rfl
theorem tcon_9 : tcon Try.prog 9 = true := by kernel_rfl
theorem tstr_9 : tstr Try.prog 9 = true := by kernel_rfl
theorem tbool_9 : tbool Try.prog 9 = false := by kernel_rfl
theorem tslc_9 : tslc Try.prog 9 = none := by kernel_rfl
theorem tarr_9 : tarr Try.prog 9 = none := by kernel_rfl
theorem tby_9 : tby Try.prog 9 = some 16 := by kernel_rfl
theorem tzr_9 : tzr Try.prog 9 = some [.d (.str ⟨#[]⟩)] := by kernel_rfl
theorem tsz_12 : tsz Try.prog 12 = some 1 := by kernel_rfl
theorem tag_12 : tag Try.prog 12 = some false := by kernel_rfl
theorem tcon_12 : tcon Try.prog 12 = true := by kernel_rfl
theorem tstr_12 : tstr Try.prog 12 = false := by kernel_rfl
theorem tbool_12 : tbool Try.prog 12 = false := by kernel_rfl
theorem tslc_12 : tslc Try.prog 12 = none := by kernel_rfl
theorem tarr_12 : tarr Try.prog 12 = none := by kernel_rfl
theorem tby_12 : tby Try.prog 12 = some 8 := by kernel_rfl
theorem tzr_12 : tzr Try.prog 12 = some [.d (.int .u64 0)] := by kernel_rfl
theorem tsz_20 : tsz Try.prog 20 = some 1 := by kernel_rfl
theorem tag_20 : tag Try.prog 20 = some false := by kernel_rfl
theorem tcon_20 : tcon Try.prog 20 = false := by kernel_rfl
theorem tstr_20 : tstr Try.prog 20 = false := by kernel_rfl
theorem tbool_20 : tbool Try.prog 20 = false := by kernel_rfl
theorem tslc_20 : tslc Try.prog 20 = none := by kernel_rfl
theorem tarr_20 : tarr Try.prog 20 = none := by kernel_rfl
theorem tby_20 : tby Try.prog 20 = some 16 := by kernel_rfl
theorem tzr_20 : tzr Try.prog 20 = some [.raw .nilIface] := by kernel_rfl
theorem tsz_21 : tsz Try.prog 21 = some 1 := by kernel_rfl
theorem tag_21 : tag Try.prog 21 = some false := by kernel_rfl
theorem tcon_21 : tcon Try.prog 21 = true := by kernel_rfl
theorem tstr_21 : tstr Try.prog 21 = false := by kernel_rfl
theorem tbool_21 : tbool Try.prog 21 = false := by kernel_rfl
theorem tslc_21 : tslc Try.prog 21 = none := by kernel_rfl
theorem tarr_21 : tarr Try.prog 21 = none := by kernel_rfl
theorem tby_21 : tby Try.prog 21 = some 4 := by kernel_rfl
theorem tzr_21 : tzr Try.prog 21 = some [.d (.int .i32 0)] := by kernel_rfl
theorem tsz_22 : tsz Try.prog 22 = some 1 := by kernel_rfl
theorem tag_22 : tag Try.prog 22 = some false := by kernel_rfl
theorem tcon_22 : tcon Try.prog 22 = true := by kernel_rfl
theorem tstr_22 : tstr Try.prog 22 = false := by kernel_rfl
theorem tbool_22 : tbool Try.prog 22 = false := by kernel_rfl
theorem tslc_22 : tslc Try.prog 22 = some 24 := by kernel_rfl
theorem tarr_22 : tarr Try.prog 22 = none := by kernel_rfl
theorem tby_22 : tby Try.prog 22 = some 24 := by kernel_rfl
theorem tzr_22 : tzr Try.prog 22 = some [.clip []] := by kernel_rfl
theorem tsz_23 : tsz Try.prog 23 = some 3 := by kernel_rfl
theorem tag_23 : tag Try.prog 23 = some true := by kernel_rfl
theorem tcon_23 : tcon Try.prog 23 = true := by kernel_rfl
theorem tstr_23 : tstr Try.prog 23 = false := by kernel_rfl
theorem tbool_23 : tbool Try.prog 23 = false := by kernel_rfl
theorem tslc_23 : tslc Try.prog 23 = none := by kernel_rfl
theorem tarr_23 : tarr Try.prog 23 = none := by kernel_rfl
theorem tby_23 : tby Try.prog 23 = some 40 := by kernel_rfl
theorem tzr_23 : tzr Try.prog 23 = some [.d (.int .i64 0), .d (.int .i64 0), .clip []] := by kernel_rfl
theorem tfld_23_0 : tfld Try.prog 23 0 = some (0, 1, 3) := by kernel_rfl
theorem place_23_0 : place Try.prog 23 0 = some (0, 1) := by kernel_rfl
theorem tfld_23_1 : tfld Try.prog 23 1 = some (1, 1, 3) := by kernel_rfl
theorem place_23_1 : place Try.prog 23 1 = some (1, 1) := by kernel_rfl
theorem tfld_23_2 : tfld Try.prog 23 2 = some (2, 1, 22) := by kernel_rfl
theorem place_23_2 : place Try.prog 23 2 = some (2, 1) := by kernel_rfl
theorem tbld_23 : tbld Try.prog 23 = true := by kernel_rfl
theorem tsz_24 : tsz Try.prog 24 = some 3 := by kernel_rfl
theorem tag_24 : tag Try.prog 24 = some true := by kernel_rfl
theorem tcon_24 : tcon Try.prog 24 = true := by kernel_rfl
theorem tstr_24 : tstr Try.prog 24 = false := by kernel_rfl
theorem tbool_24 : tbool Try.prog 24 = false := by kernel_rfl
theorem tslc_24 : tslc Try.prog 24 = none := by kernel_rfl
theorem tarr_24 : tarr Try.prog 24 = none := by kernel_rfl
theorem tby_24 : tby Try.prog 24 = some 40 := by kernel_rfl
theorem tzr_24 : tzr Try.prog 24 = some [.d (.int .i64 0), .d (.int .i64 0), .clip []] := by kernel_rfl
theorem tfld_24_0 : tfld Try.prog 24 0 = some (0, 1, 3) := by kernel_rfl
theorem place_24_0 : place Try.prog 24 0 = some (0, 1) := by kernel_rfl
theorem tfld_24_1 : tfld Try.prog 24 1 = some (1, 1, 3) := by kernel_rfl
theorem place_24_1 : place Try.prog 24 1 = some (1, 1) := by kernel_rfl
theorem tfld_24_2 : tfld Try.prog 24 2 = some (2, 1, 22) := by kernel_rfl
theorem place_24_2 : place Try.prog 24 2 = some (2, 1) := by kernel_rfl
theorem tbld_24 : tbld Try.prog 24 = true := by kernel_rfl
theorem tsz_25 : tsz Try.prog 25 = some 1 := by kernel_rfl
theorem tag_25 : tag Try.prog 25 = some false := by kernel_rfl
theorem tcon_25 : tcon Try.prog 25 = true := by kernel_rfl
theorem tstr_25 : tstr Try.prog 25 = false := by kernel_rfl
theorem tbool_25 : tbool Try.prog 25 = false := by kernel_rfl
theorem tslc_25 : tslc Try.prog 25 = none := by kernel_rfl
theorem tarr_25 : tarr Try.prog 25 = none := by kernel_rfl
theorem tby_25 : tby Try.prog 25 = some 8 := by kernel_rfl
theorem tzr_25 : tzr Try.prog 25 = some [.raw .nilFunc] := by kernel_rfl
theorem tsz_26 : tsz Try.prog 26 = some 1 := by kernel_rfl
theorem tag_26 : tag Try.prog 26 = some false := by kernel_rfl
theorem tcon_26 : tcon Try.prog 26 = true := by kernel_rfl
theorem tstr_26 : tstr Try.prog 26 = false := by kernel_rfl
theorem tbool_26 : tbool Try.prog 26 = false := by kernel_rfl
theorem tslc_26 : tslc Try.prog 26 = none := by kernel_rfl
theorem tarr_26 : tarr Try.prog 26 = none := by kernel_rfl
theorem tby_26 : tby Try.prog 26 = some 8 := by kernel_rfl
theorem tzr_26 : tzr Try.prog 26 = some [.raw .nilFunc] := by kernel_rfl
theorem tsz_27 : tsz Try.prog 27 = some 1 := by kernel_rfl
theorem tag_27 : tag Try.prog 27 = some false := by kernel_rfl
theorem tcon_27 : tcon Try.prog 27 = true := by kernel_rfl
theorem tstr_27 : tstr Try.prog 27 = false := by kernel_rfl
theorem tbool_27 : tbool Try.prog 27 = false := by kernel_rfl
theorem tslc_27 : tslc Try.prog 27 = none := by kernel_rfl
theorem tarr_27 : tarr Try.prog 27 = none := by kernel_rfl
theorem tby_27 : tby Try.prog 27 = some 8 := by kernel_rfl
theorem tzr_27 : tzr Try.prog 27 = some [.raw .nilFunc] := by kernel_rfl
theorem tsz_28 : tsz Try.prog 28 = some 1 := by kernel_rfl
theorem tag_28 : tag Try.prog 28 = some false := by kernel_rfl
theorem tcon_28 : tcon Try.prog 28 = true := by kernel_rfl
theorem tstr_28 : tstr Try.prog 28 = false := by kernel_rfl
theorem tbool_28 : tbool Try.prog 28 = false := by kernel_rfl
theorem tslc_28 : tslc Try.prog 28 = none := by kernel_rfl
theorem tarr_28 : tarr Try.prog 28 = none := by kernel_rfl
theorem tby_28 : tby Try.prog 28 = some 8 := by kernel_rfl
theorem tzr_28 : tzr Try.prog 28 = some [.raw .nilFunc] := by kernel_rfl
theorem tsz_30 : tsz Try.prog 30 = some 1 := by kernel_rfl
theorem tag_30 : tag Try.prog 30 = some false := by kernel_rfl
theorem tcon_30 : tcon Try.prog 30 = true := by kernel_rfl
theorem tstr_30 : tstr Try.prog 30 = false := by kernel_rfl
theorem tbool_30 : tbool Try.prog 30 = false := by kernel_rfl
theorem tslc_30 : tslc Try.prog 30 = none := by kernel_rfl
theorem tarr_30 : tarr Try.prog 30 = none := by kernel_rfl
theorem tby_30 : tby Try.prog 30 = some 8 := by kernel_rfl
theorem tzr_30 : tzr Try.prog 30 = some [.raw .nilFunc] := by kernel_rfl
theorem tsz_31 : tsz Try.prog 31 = some 1 := by kernel_rfl
theorem tag_31 : tag Try.prog 31 = some false := by kernel_rfl
theorem tcon_31 : tcon Try.prog 31 = true := by kernel_rfl
theorem tstr_31 : tstr Try.prog 31 = false := by kernel_rfl
theorem tbool_31 : tbool Try.prog 31 = false := by kernel_rfl
theorem tslc_31 : tslc Try.prog 31 = none := by kernel_rfl
theorem tarr_31 : tarr Try.prog 31 = none := by kernel_rfl
theorem tby_31 : tby Try.prog 31 = some 8 := by kernel_rfl
theorem tzr_31 : tzr Try.prog 31 = some [.raw .nilFunc] := by kernel_rfl
theorem tsz_32 : tsz Try.prog 32 = some 1 := by kernel_rfl
theorem tag_32 : tag Try.prog 32 = some false := by kernel_rfl
theorem tcon_32 : tcon Try.prog 32 = true := by kernel_rfl
theorem tstr_32 : tstr Try.prog 32 = false := by kernel_rfl
theorem tbool_32 : tbool Try.prog 32 = false := by kernel_rfl
theorem tslc_32 : tslc Try.prog 32 = none := by kernel_rfl
theorem tarr_32 : tarr Try.prog 32 = none := by kernel_rfl
theorem tby_32 : tby Try.prog 32 = some 8 := by kernel_rfl
theorem tzr_32 : tzr Try.prog 32 = some [.raw .nilFunc] := by kernel_rfl
theorem tsz_33 : tsz Try.prog 33 = some 1 := by kernel_rfl
theorem tag_33 : tag Try.prog 33 = some false := by kernel_rfl
theorem tcon_33 : tcon Try.prog 33 = true := by kernel_rfl
theorem tstr_33 : tstr Try.prog 33 = false := by kernel_rfl
theorem tbool_33 : tbool Try.prog 33 = false := by kernel_rfl
theorem tslc_33 : tslc Try.prog 33 = none := by kernel_rfl
theorem tarr_33 : tarr Try.prog 33 = none := by kernel_rfl
theorem tby_33 : tby Try.prog 33 = some 8 := by kernel_rfl
theorem tzr_33 : tzr Try.prog 33 = some [.raw .nilFunc] := by kernel_rfl
theorem tsz_34 : tsz Try.prog 34 = some 1 := by kernel_rfl
theorem tag_34 : tag Try.prog 34 = some false := by kernel_rfl
theorem tcon_34 : tcon Try.prog 34 = true := by kernel_rfl
theorem tstr_34 : tstr Try.prog 34 = false := by kernel_rfl
theorem tbool_34 : tbool Try.prog 34 = false := by kernel_rfl
theorem tslc_34 : tslc Try.prog 34 = none := by kernel_rfl
theorem tarr_34 : tarr Try.prog 34 = none := by kernel_rfl
theorem tby_34 : tby Try.prog 34 = some 8 := by kernel_rfl
theorem tzr_34 : tzr Try.prog 34 = some [.raw .nilFunc] := by kernel_rfl
theorem tsz_35 : tsz Try.prog 35 = some 1 := by kernel_rfl
theorem tag_35 : tag Try.prog 35 = some false := by kernel_rfl
theorem tcon_35 : tcon Try.prog 35 = true := by kernel_rfl
theorem tstr_35 : tstr Try.prog 35 = false := by kernel_rfl
theorem tbool_35 : tbool Try.prog 35 = false := by kernel_rfl
theorem tslc_35 : tslc Try.prog 35 = none := by kernel_rfl
theorem tarr_35 : tarr Try.prog 35 = none := by kernel_rfl
theorem tby_35 : tby Try.prog 35 = some 8 := by kernel_rfl
theorem tzr_35 : tzr Try.prog 35 = some [.raw .nilFunc] := by kernel_rfl
theorem tsz_36 : tsz Try.prog 36 = some 1 := by kernel_rfl
theorem tag_36 : tag Try.prog 36 = some false := by kernel_rfl
theorem tcon_36 : tcon Try.prog 36 = true := by kernel_rfl
theorem tstr_36 : tstr Try.prog 36 = false := by kernel_rfl
theorem tbool_36 : tbool Try.prog 36 = false := by kernel_rfl
theorem tslc_36 : tslc Try.prog 36 = none := by kernel_rfl
theorem tarr_36 : tarr Try.prog 36 = none := by kernel_rfl
theorem tby_36 : tby Try.prog 36 = some 8 := by kernel_rfl
theorem tzr_36 : tzr Try.prog 36 = some [.d (.int .i64 0)] := by kernel_rfl
theorem tsz_38 : tsz Try.prog 38 = some 1 := by kernel_rfl
theorem tag_38 : tag Try.prog 38 = some false := by kernel_rfl
theorem tcon_38 : tcon Try.prog 38 = true := by kernel_rfl
theorem tstr_38 : tstr Try.prog 38 = false := by kernel_rfl
theorem tbool_38 : tbool Try.prog 38 = false := by kernel_rfl
theorem tslc_38 : tslc Try.prog 38 = none := by kernel_rfl
theorem tarr_38 : tarr Try.prog 38 = none := by kernel_rfl
theorem tby_38 : tby Try.prog 38 = some 8 := by kernel_rfl
theorem tzr_38 : tzr Try.prog 38 = some [.raw .nilFunc] := by kernel_rfl
theorem tsz_39 : tsz Try.prog 39 = some 2 := by kernel_rfl
theorem tag_39 : tag Try.prog 39 = some true := by kernel_rfl
theorem tcon_39 : tcon Try.prog 39 = true := by kernel_rfl
theorem tstr_39 : tstr Try.prog 39 = false := by kernel_rfl
theorem tbool_39 : tbool Try.prog 39 = false := by kernel_rfl
theorem tslc_39 : tslc Try.prog 39 = none := by kernel_rfl
theorem tarr_39 : tarr Try.prog 39 = none := by kernel_rfl
theorem tby_39 : tby Try.prog 39 = some 32 := by kernel_rfl
theorem tzr_39 : tzr Try.prog 39 = some [.clip [], .d (.int .i64 0)] := by kernel_rfl
theorem tfld_39_0 : tfld Try.prog 39 0 = some (0, 1, 22) := by kernel_rfl
theorem place_39_0 : place Try.prog 39 0 = some (0, 1) := by kernel_rfl
theorem tfld_39_1 : tfld Try.prog 39 1 = some (1, 1, 3) := by kernel_rfl
theorem place_39_1 : place Try.prog 39 1 = some (1, 1) := by kernel_rfl
theorem tbld_39 : tbld Try.prog 39 = true := by kernel_rfl
theorem tsz_40 : tsz Try.prog 40 = some 2 := by kernel_rfl
theorem tag_40 : tag Try.prog 40 = some true := by kernel_rfl
theorem tcon_40 : tcon Try.prog 40 = true := by kernel_rfl
theorem tstr_40 : tstr Try.prog 40 = false := by kernel_rfl
theorem tbool_40 : tbool Try.prog 40 = false := by kernel_rfl
theorem tslc_40 : tslc Try.prog 40 = none := by kernel_rfl
theorem tarr_40 : tarr Try.prog 40 = none := by kernel_rfl
theorem tby_40 : tby Try.prog 40 = some 32 := by kernel_rfl
theorem tzr_40 : tzr Try.prog 40 = some [.clip [], .d (.int .i64 0)] := by kernel_rfl
theorem tfld_40_0 : tfld Try.prog 40 0 = some (0, 1, 22) := by kernel_rfl
theorem place_40_0 : place Try.prog 40 0 = some (0, 1) := by kernel_rfl
theorem tfld_40_1 : tfld Try.prog 40 1 = some (1, 1, 3) := by kernel_rfl
theorem place_40_1 : place Try.prog 40 1 = some (1, 1) := by kernel_rfl
theorem tbld_40 : tbld Try.prog 40 = true := by kernel_rfl
theorem tsz_41 : tsz Try.prog 41 = some 1 := by kernel_rfl
theorem tag_41 : tag Try.prog 41 = some false := by kernel_rfl
theorem tcon_41 : tcon Try.prog 41 = true := by kernel_rfl
theorem tstr_41 : tstr Try.prog 41 = false := by kernel_rfl
theorem tbool_41 : tbool Try.prog 41 = false := by kernel_rfl
theorem tslc_41 : tslc Try.prog 41 = none := by kernel_rfl
theorem tarr_41 : tarr Try.prog 41 = none := by kernel_rfl
theorem tby_41 : tby Try.prog 41 = some 8 := by kernel_rfl
theorem tzr_41 : tzr Try.prog 41 = some [.raw .nilFunc] := by kernel_rfl
theorem tsz_42 : tsz Try.prog 42 = some 1 := by kernel_rfl
theorem tag_42 : tag Try.prog 42 = some false := by kernel_rfl
theorem tcon_42 : tcon Try.prog 42 = true := by kernel_rfl
theorem tstr_42 : tstr Try.prog 42 = false := by kernel_rfl
theorem tbool_42 : tbool Try.prog 42 = false := by kernel_rfl
theorem tslc_42 : tslc Try.prog 42 = none := by kernel_rfl
theorem tarr_42 : tarr Try.prog 42 = none := by kernel_rfl
theorem tby_42 : tby Try.prog 42 = some 8 := by kernel_rfl
theorem tzr_42 : tzr Try.prog 42 = some [.raw .nilFunc] := by kernel_rfl
theorem tsz_43 : tsz Try.prog 43 = some 1 := by kernel_rfl
theorem tag_43 : tag Try.prog 43 = some false := by kernel_rfl
theorem tcon_43 : tcon Try.prog 43 = true := by kernel_rfl
theorem tstr_43 : tstr Try.prog 43 = false := by kernel_rfl
theorem tbool_43 : tbool Try.prog 43 = false := by kernel_rfl
theorem tslc_43 : tslc Try.prog 43 = none := by kernel_rfl
theorem tarr_43 : tarr Try.prog 43 = none := by kernel_rfl
theorem tby_43 : tby Try.prog 43 = some 8 := by kernel_rfl
theorem tzr_43 : tzr Try.prog 43 = some [.raw .nilFunc] := by kernel_rfl
theorem tsz_44 : tsz Try.prog 44 = some 1 := by kernel_rfl
theorem tag_44 : tag Try.prog 44 = some false := by kernel_rfl
theorem tcon_44 : tcon Try.prog 44 = true := by kernel_rfl
theorem tstr_44 : tstr Try.prog 44 = false := by kernel_rfl
theorem tbool_44 : tbool Try.prog 44 = false := by kernel_rfl
theorem tslc_44 : tslc Try.prog 44 = none := by kernel_rfl
theorem tarr_44 : tarr Try.prog 44 = none := by kernel_rfl
theorem tby_44 : tby Try.prog 44 = some 8 := by kernel_rfl
theorem tzr_44 : tzr Try.prog 44 = some [.raw .nilFunc] := by kernel_rfl
theorem tsz_45 : tsz Try.prog 45 = some 1 := by kernel_rfl
theorem tag_45 : tag Try.prog 45 = some false := by kernel_rfl
theorem tcon_45 : tcon Try.prog 45 = true := by kernel_rfl
theorem tstr_45 : tstr Try.prog 45 = false := by kernel_rfl
theorem tbool_45 : tbool Try.prog 45 = false := by kernel_rfl
theorem tslc_45 : tslc Try.prog 45 = none := by kernel_rfl
theorem tarr_45 : tarr Try.prog 45 = none := by kernel_rfl
theorem tby_45 : tby Try.prog 45 = some 8 := by kernel_rfl
theorem tzr_45 : tzr Try.prog 45 = some [.raw .nilFunc] := by kernel_rfl
theorem tsz_46 : tsz Try.prog 46 = some 1 := by kernel_rfl
theorem tag_46 : tag Try.prog 46 = some false := by kernel_rfl
theorem tcon_46 : tcon Try.prog 46 = true := by kernel_rfl
theorem tstr_46 : tstr Try.prog 46 = false := by kernel_rfl
theorem tbool_46 : tbool Try.prog 46 = false := by kernel_rfl
theorem tslc_46 : tslc Try.prog 46 = none := by kernel_rfl
theorem tarr_46 : tarr Try.prog 46 = none := by kernel_rfl
theorem tby_46 : tby Try.prog 46 = some 8 := by kernel_rfl
theorem tzr_46 : tzr Try.prog 46 = some [.raw .nilFunc] := by kernel_rfl
theorem tsz_47 : tsz Try.prog 47 = some 1 := by kernel_rfl
theorem tag_47 : tag Try.prog 47 = some false := by kernel_rfl
theorem tcon_47 : tcon Try.prog 47 = true := by kernel_rfl
theorem tstr_47 : tstr Try.prog 47 = false := by kernel_rfl
theorem tbool_47 : tbool Try.prog 47 = false := by kernel_rfl
theorem tslc_47 : tslc Try.prog 47 = none := by kernel_rfl
theorem tarr_47 : tarr Try.prog 47 = none := by kernel_rfl
theorem tby_47 : tby Try.prog 47 = some 8 := by kernel_rfl
theorem tzr_47 : tzr Try.prog 47 = some [.raw .nilFunc] := by kernel_rfl
theorem tsz_48 : tsz Try.prog 48 = some 1 := by kernel_rfl
theorem tag_48 : tag Try.prog 48 = some false := by kernel_rfl
theorem tcon_48 : tcon Try.prog 48 = true := by kernel_rfl
theorem tstr_48 : tstr Try.prog 48 = false := by kernel_rfl
theorem tbool_48 : tbool Try.prog 48 = false := by kernel_rfl
theorem tslc_48 : tslc Try.prog 48 = none := by kernel_rfl
theorem tarr_48 : tarr Try.prog 48 = none := by kernel_rfl
theorem tby_48 : tby Try.prog 48 = some 8 := by kernel_rfl
theorem tzr_48 : tzr Try.prog 48 = some [.raw .nilFunc] := by kernel_rfl
theorem tsz_49 : tsz Try.prog 49 = some 1 := by kernel_rfl
theorem tag_49 : tag Try.prog 49 = some false := by kernel_rfl
theorem tcon_49 : tcon Try.prog 49 = true := by kernel_rfl
theorem tstr_49 : tstr Try.prog 49 = false := by kernel_rfl
theorem tbool_49 : tbool Try.prog 49 = false := by kernel_rfl
theorem tslc_49 : tslc Try.prog 49 = none := by kernel_rfl
theorem tarr_49 : tarr Try.prog 49 = none := by kernel_rfl
theorem tby_49 : tby Try.prog 49 = some 8 := by kernel_rfl
theorem tzr_49 : tzr Try.prog 49 = some [.raw .nilFunc] := by kernel_rfl
theorem tsz_50 : tsz Try.prog 50 = some 1 := by kernel_rfl
theorem tag_50 : tag Try.prog 50 = some false := by kernel_rfl
theorem tcon_50 : tcon Try.prog 50 = true := by kernel_rfl
theorem tstr_50 : tstr Try.prog 50 = false := by kernel_rfl
theorem tbool_50 : tbool Try.prog 50 = false := by kernel_rfl
theorem tslc_50 : tslc Try.prog 50 = none := by kernel_rfl
theorem tarr_50 : tarr Try.prog 50 = none := by kernel_rfl
theorem tby_50 : tby Try.prog 50 = some 8 := by kernel_rfl
theorem tzr_50 : tzr Try.prog 50 = some [.raw .nilFunc] := by kernel_rfl
theorem tsz_51 : tsz Try.prog 51 = some 1 := by kernel_rfl
theorem tag_51 : tag Try.prog 51 = some false := by kernel_rfl
theorem tcon_51 : tcon Try.prog 51 = true := by kernel_rfl
theorem tstr_51 : tstr Try.prog 51 = false := by kernel_rfl
theorem tbool_51 : tbool Try.prog 51 = false := by kernel_rfl
theorem tslc_51 : tslc Try.prog 51 = none := by kernel_rfl
theorem tarr_51 : tarr Try.prog 51 = none := by kernel_rfl
theorem tby_51 : tby Try.prog 51 = some 8 := by kernel_rfl
theorem tzr_51 : tzr Try.prog 51 = some [.raw .nilFunc] := by kernel_rfl
theorem tsz_52 : tsz Try.prog 52 = some 2 := by kernel_rfl
theorem tag_52 : tag Try.prog 52 = some true := by kernel_rfl
theorem tcon_52 : tcon Try.prog 52 = true := by kernel_rfl
theorem tstr_52 : tstr Try.prog 52 = false := by kernel_rfl
theorem tbool_52 : tbool Try.prog 52 = false := by kernel_rfl
theorem tslc_52 : tslc Try.prog 52 = none := by kernel_rfl
theorem tarr_52 : tarr Try.prog 52 = none := by kernel_rfl
theorem tby_52 : tby Try.prog 52 = some 16 := by kernel_rfl
theorem tzr_52 : tzr Try.prog 52 = some [.d (.int .i64 0), .d (.int .i64 0)] := by kernel_rfl
theorem tfld_52_0 : tfld Try.prog 52 0 = some (0, 1, 3) := by kernel_rfl
theorem place_52_0 : place Try.prog 52 0 = some (0, 1) := by kernel_rfl
theorem tfld_52_1 : tfld Try.prog 52 1 = some (1, 1, 3) := by kernel_rfl
theorem place_52_1 : place Try.prog 52 1 = some (1, 1) := by kernel_rfl
theorem tbld_52 : tbld Try.prog 52 = true := by kernel_rfl
theorem tsz_53 : tsz Try.prog 53 = some 2 := by kernel_rfl
theorem tag_53 : tag Try.prog 53 = some true := by kernel_rfl
theorem tcon_53 : tcon Try.prog 53 = true := by kernel_rfl
theorem tstr_53 : tstr Try.prog 53 = false := by kernel_rfl
theorem tbool_53 : tbool Try.prog 53 = false := by kernel_rfl
theorem tslc_53 : tslc Try.prog 53 = none := by kernel_rfl
theorem tarr_53 : tarr Try.prog 53 = none := by kernel_rfl
theorem tby_53 : tby Try.prog 53 = some 16 := by kernel_rfl
theorem tzr_53 : tzr Try.prog 53 = some [.d (.int .i64 0), .d (.int .i64 0)] := by kernel_rfl
theorem tfld_53_0 : tfld Try.prog 53 0 = some (0, 1, 3) := by kernel_rfl
theorem place_53_0 : place Try.prog 53 0 = some (0, 1) := by kernel_rfl
theorem tfld_53_1 : tfld Try.prog 53 1 = some (1, 1, 3) := by kernel_rfl
theorem place_53_1 : place Try.prog 53 1 = some (1, 1) := by kernel_rfl
theorem tbld_53 : tbld Try.prog 53 = true := by kernel_rfl
theorem tsz_54 : tsz Try.prog 54 = some 1 := by kernel_rfl
theorem tag_54 : tag Try.prog 54 = some false := by kernel_rfl
theorem tcon_54 : tcon Try.prog 54 = true := by kernel_rfl
theorem tstr_54 : tstr Try.prog 54 = false := by kernel_rfl
theorem tbool_54 : tbool Try.prog 54 = false := by kernel_rfl
theorem tslc_54 : tslc Try.prog 54 = none := by kernel_rfl
theorem tarr_54 : tarr Try.prog 54 = none := by kernel_rfl
theorem tby_54 : tby Try.prog 54 = some 8 := by kernel_rfl
theorem tzr_54 : tzr Try.prog 54 = some [.raw .nilFunc] := by kernel_rfl
theorem tsz_55 : tsz Try.prog 55 = some 1 := by kernel_rfl
theorem tag_55 : tag Try.prog 55 = some false := by kernel_rfl
theorem tcon_55 : tcon Try.prog 55 = true := by kernel_rfl
theorem tstr_55 : tstr Try.prog 55 = false := by kernel_rfl
theorem tbool_55 : tbool Try.prog 55 = false := by kernel_rfl
theorem tslc_55 : tslc Try.prog 55 = none := by kernel_rfl
theorem tarr_55 : tarr Try.prog 55 = none := by kernel_rfl
theorem tby_55 : tby Try.prog 55 = some 8 := by kernel_rfl
theorem tzr_55 : tzr Try.prog 55 = some [.raw .nilFunc] := by kernel_rfl
theorem tsz_56 : tsz Try.prog 56 = some 1 := by kernel_rfl
theorem tag_56 : tag Try.prog 56 = some false := by kernel_rfl
theorem tcon_56 : tcon Try.prog 56 = true := by kernel_rfl
theorem tstr_56 : tstr Try.prog 56 = false := by kernel_rfl
theorem tbool_56 : tbool Try.prog 56 = false := by kernel_rfl
theorem tslc_56 : tslc Try.prog 56 = none := by kernel_rfl
theorem tarr_56 : tarr Try.prog 56 = none := by kernel_rfl
theorem tby_56 : tby Try.prog 56 = some 8 := by kernel_rfl
theorem tzr_56 : tzr Try.prog 56 = some [.raw .nilFunc] := by kernel_rfl
theorem tsz_57 : tsz Try.prog 57 = some 1 := by kernel_rfl
theorem tag_57 : tag Try.prog 57 = some false := by kernel_rfl
theorem tcon_57 : tcon Try.prog 57 = true := by kernel_rfl
theorem tstr_57 : tstr Try.prog 57 = false := by kernel_rfl
theorem tbool_57 : tbool Try.prog 57 = false := by kernel_rfl
theorem tslc_57 : tslc Try.prog 57 = none := by kernel_rfl
theorem tarr_57 : tarr Try.prog 57 = none := by kernel_rfl
theorem tby_57 : tby Try.prog 57 = some 8 := by kernel_rfl
theorem tzr_57 : tzr Try.prog 57 = some [.raw .nilFunc] := by kernel_rfl
theorem tsz_58 : tsz Try.prog 58 = some 1 := by kernel_rfl
theorem tag_58 : tag Try.prog 58 = some false := by kernel_rfl
theorem tcon_58 : tcon Try.prog 58 = true := by kernel_rfl
theorem tstr_58 : tstr Try.prog 58 = false := by kernel_rfl
theorem tbool_58 : tbool Try.prog 58 = false := by kernel_rfl
theorem tslc_58 : tslc Try.prog 58 = none := by kernel_rfl
theorem tarr_58 : tarr Try.prog 58 = none := by kernel_rfl
theorem tby_58 : tby Try.prog 58 = some 8 := by kernel_rfl
theorem tzr_58 : tzr Try.prog 58 = some [.raw .nilFunc] := by kernel_rfl
theorem tsz_59 : tsz Try.prog 59 = some 1 := by kernel_rfl
theorem tag_59 : tag Try.prog 59 = some false := by kernel_rfl
theorem tcon_59 : tcon Try.prog 59 = true := by kernel_rfl
theorem tstr_59 : tstr Try.prog 59 = false := by kernel_rfl
theorem tbool_59 : tbool Try.prog 59 = false := by kernel_rfl
theorem tslc_59 : tslc Try.prog 59 = none := by kernel_rfl
theorem tarr_59 : tarr Try.prog 59 = none := by kernel_rfl
theorem tby_59 : tby Try.prog 59 = some 8 := by kernel_rfl
theorem tzr_59 : tzr Try.prog 59 = some [.raw .nilFunc] := by kernel_rfl
theorem tsz_60 : tsz Try.prog 60 = some 1 := by kernel_rfl
theorem tag_60 : tag Try.prog 60 = some false := by kernel_rfl
theorem tcon_60 : tcon Try.prog 60 = true := by kernel_rfl
theorem tstr_60 : tstr Try.prog 60 = false := by kernel_rfl
theorem tbool_60 : tbool Try.prog 60 = false := by kernel_rfl
theorem tslc_60 : tslc Try.prog 60 = none := by kernel_rfl
theorem tarr_60 : tarr Try.prog 60 = none := by kernel_rfl
theorem tby_60 : tby Try.prog 60 = some 8 := by kernel_rfl
theorem tzr_60 : tzr Try.prog 60 = some [.raw .nilFunc] := by kernel_rfl
theorem tsz_61 : tsz Try.prog 61 = some 1 := by kernel_rfl
theorem tag_61 : tag Try.prog 61 = some false := by kernel_rfl
theorem tcon_61 : tcon Try.prog 61 = true := by kernel_rfl
theorem tstr_61 : tstr Try.prog 61 = false := by kernel_rfl
theorem tbool_61 : tbool Try.prog 61 = false := by kernel_rfl
theorem tslc_61 : tslc Try.prog 61 = none := by kernel_rfl
theorem tarr_61 : tarr Try.prog 61 = none := by kernel_rfl
theorem tby_61 : tby Try.prog 61 = some 8 := by kernel_rfl
theorem tzr_61 : tzr Try.prog 61 = some [.raw (.pointer none)] := by kernel_rfl
theorem tsz_62 : tsz Try.prog 62 = some 1 := by kernel_rfl
theorem tag_62 : tag Try.prog 62 = some false := by kernel_rfl
theorem tcon_62 : tcon Try.prog 62 = true := by kernel_rfl
theorem tstr_62 : tstr Try.prog 62 = false := by kernel_rfl
theorem tbool_62 : tbool Try.prog 62 = false := by kernel_rfl
theorem tslc_62 : tslc Try.prog 62 = none := by kernel_rfl
theorem tarr_62 : tarr Try.prog 62 = none := by kernel_rfl
theorem tby_62 : tby Try.prog 62 = some 8 := by kernel_rfl
theorem tzr_62 : tzr Try.prog 62 = some [.raw .nilFunc] := by kernel_rfl
theorem tsz_63 : tsz Try.prog 63 = some 1 := by kernel_rfl
theorem tag_63 : tag Try.prog 63 = some false := by kernel_rfl
theorem tcon_63 : tcon Try.prog 63 = true := by kernel_rfl
theorem tstr_63 : tstr Try.prog 63 = false := by kernel_rfl
theorem tbool_63 : tbool Try.prog 63 = false := by kernel_rfl
theorem tslc_63 : tslc Try.prog 63 = none := by kernel_rfl
theorem tarr_63 : tarr Try.prog 63 = none := by kernel_rfl
theorem tby_63 : tby Try.prog 63 = some 8 := by kernel_rfl
theorem tzr_63 : tzr Try.prog 63 = some [.raw .nilFunc] := by kernel_rfl
theorem tsz_64 : tsz Try.prog 64 = some 1 := by kernel_rfl
theorem tag_64 : tag Try.prog 64 = some false := by kernel_rfl
theorem tcon_64 : tcon Try.prog 64 = true := by kernel_rfl
theorem tstr_64 : tstr Try.prog 64 = false := by kernel_rfl
theorem tbool_64 : tbool Try.prog 64 = false := by kernel_rfl
theorem tslc_64 : tslc Try.prog 64 = none := by kernel_rfl
theorem tarr_64 : tarr Try.prog 64 = none := by kernel_rfl
theorem tby_64 : tby Try.prog 64 = some 8 := by kernel_rfl
theorem tzr_64 : tzr Try.prog 64 = some [.raw .nilFunc] := by kernel_rfl
theorem tsz_65 : tsz Try.prog 65 = some 1 := by kernel_rfl
theorem tag_65 : tag Try.prog 65 = some false := by kernel_rfl
theorem tcon_65 : tcon Try.prog 65 = true := by kernel_rfl
theorem tstr_65 : tstr Try.prog 65 = false := by kernel_rfl
theorem tbool_65 : tbool Try.prog 65 = false := by kernel_rfl
theorem tslc_65 : tslc Try.prog 65 = none := by kernel_rfl
theorem tarr_65 : tarr Try.prog 65 = none := by kernel_rfl
theorem tby_65 : tby Try.prog 65 = some 8 := by kernel_rfl
theorem tzr_65 : tzr Try.prog 65 = some [.raw .nilFunc] := by kernel_rfl
theorem tsz_66 : tsz Try.prog 66 = some 1 := by kernel_rfl
theorem tag_66 : tag Try.prog 66 = some false := by kernel_rfl
theorem tcon_66 : tcon Try.prog 66 = true := by kernel_rfl
theorem tstr_66 : tstr Try.prog 66 = false := by kernel_rfl
theorem tbool_66 : tbool Try.prog 66 = false := by kernel_rfl
theorem tslc_66 : tslc Try.prog 66 = none := by kernel_rfl
theorem tarr_66 : tarr Try.prog 66 = none := by kernel_rfl
theorem tby_66 : tby Try.prog 66 = some 8 := by kernel_rfl
theorem tzr_66 : tzr Try.prog 66 = some [.raw (.pointer none)] := by kernel_rfl
theorem tsz_67 : tsz Try.prog 67 = some 2 := by kernel_rfl
theorem tag_67 : tag Try.prog 67 = some true := by kernel_rfl
theorem tcon_67 : tcon Try.prog 67 = true := by kernel_rfl
theorem tstr_67 : tstr Try.prog 67 = false := by kernel_rfl
theorem tbool_67 : tbool Try.prog 67 = false := by kernel_rfl
theorem tslc_67 : tslc Try.prog 67 = none := by kernel_rfl
theorem tarr_67 : tarr Try.prog 67 = none := by kernel_rfl
theorem tby_67 : tby Try.prog 67 = some 16 := by kernel_rfl
theorem tzr_67 : tzr Try.prog 67 = some [.d (.int .i64 0), .d (.int .i64 0)] := by kernel_rfl
theorem tfld_67_0 : tfld Try.prog 67 0 = some (0, 1, 3) := by kernel_rfl
theorem place_67_0 : place Try.prog 67 0 = some (0, 1) := by kernel_rfl
theorem tfld_67_1 : tfld Try.prog 67 1 = some (1, 1, 36) := by kernel_rfl
theorem place_67_1 : place Try.prog 67 1 = some (1, 1) := by kernel_rfl
theorem tbld_67 : tbld Try.prog 67 = true := by kernel_rfl
theorem tsz_68 : tsz Try.prog 68 = some 2 := by kernel_rfl
theorem tag_68 : tag Try.prog 68 = some true := by kernel_rfl
theorem tcon_68 : tcon Try.prog 68 = true := by kernel_rfl
theorem tstr_68 : tstr Try.prog 68 = false := by kernel_rfl
theorem tbool_68 : tbool Try.prog 68 = false := by kernel_rfl
theorem tslc_68 : tslc Try.prog 68 = none := by kernel_rfl
theorem tarr_68 : tarr Try.prog 68 = none := by kernel_rfl
theorem tby_68 : tby Try.prog 68 = some 16 := by kernel_rfl
theorem tzr_68 : tzr Try.prog 68 = some [.d (.int .i64 0), .d (.int .i64 0)] := by kernel_rfl
theorem tfld_68_0 : tfld Try.prog 68 0 = some (0, 1, 3) := by kernel_rfl
theorem place_68_0 : place Try.prog 68 0 = some (0, 1) := by kernel_rfl
theorem tfld_68_1 : tfld Try.prog 68 1 = some (1, 1, 36) := by kernel_rfl
theorem place_68_1 : place Try.prog 68 1 = some (1, 1) := by kernel_rfl
theorem tbld_68 : tbld Try.prog 68 = true := by kernel_rfl
theorem tsz_69 : tsz Try.prog 69 = some 1 := by kernel_rfl
theorem tag_69 : tag Try.prog 69 = some false := by kernel_rfl
theorem tcon_69 : tcon Try.prog 69 = true := by kernel_rfl
theorem tstr_69 : tstr Try.prog 69 = false := by kernel_rfl
theorem tbool_69 : tbool Try.prog 69 = false := by kernel_rfl
theorem tslc_69 : tslc Try.prog 69 = none := by kernel_rfl
theorem tarr_69 : tarr Try.prog 69 = none := by kernel_rfl
theorem tby_69 : tby Try.prog 69 = some 8 := by kernel_rfl
theorem tzr_69 : tzr Try.prog 69 = some [.raw .nilFunc] := by kernel_rfl
theorem tsz_72 : tsz Try.prog 72 = some 1 := by kernel_rfl
theorem tag_72 : tag Try.prog 72 = some false := by kernel_rfl
theorem tcon_72 : tcon Try.prog 72 = true := by kernel_rfl
theorem tstr_72 : tstr Try.prog 72 = false := by kernel_rfl
theorem tbool_72 : tbool Try.prog 72 = false := by kernel_rfl
theorem tslc_72 : tslc Try.prog 72 = none := by kernel_rfl
theorem tarr_72 : tarr Try.prog 72 = none := by kernel_rfl
theorem tby_72 : tby Try.prog 72 = some 8 := by kernel_rfl
theorem tzr_72 : tzr Try.prog 72 = some [.raw .nilFunc] := by kernel_rfl
theorem tsz_73 : tsz Try.prog 73 = some 1 := by kernel_rfl
theorem tag_73 : tag Try.prog 73 = some false := by kernel_rfl
theorem tcon_73 : tcon Try.prog 73 = true := by kernel_rfl
theorem tstr_73 : tstr Try.prog 73 = false := by kernel_rfl
theorem tbool_73 : tbool Try.prog 73 = false := by kernel_rfl
theorem tslc_73 : tslc Try.prog 73 = none := by kernel_rfl
theorem tarr_73 : tarr Try.prog 73 = none := by kernel_rfl
theorem tby_73 : tby Try.prog 73 = some 8 := by kernel_rfl
theorem tzr_73 : tzr Try.prog 73 = some [.raw .nilFunc] := by kernel_rfl
theorem tsz_74 : tsz Try.prog 74 = some 1 := by kernel_rfl
theorem tag_74 : tag Try.prog 74 = some false := by kernel_rfl
theorem tcon_74 : tcon Try.prog 74 = true := by kernel_rfl
theorem tstr_74 : tstr Try.prog 74 = false := by kernel_rfl
theorem tbool_74 : tbool Try.prog 74 = false := by kernel_rfl
theorem tslc_74 : tslc Try.prog 74 = none := by kernel_rfl
theorem tarr_74 : tarr Try.prog 74 = none := by kernel_rfl
theorem tby_74 : tby Try.prog 74 = some 8 := by kernel_rfl
theorem tzr_74 : tzr Try.prog 74 = some [.raw .nilFunc] := by kernel_rfl
theorem tsz_75 : tsz Try.prog 75 = some 1 := by kernel_rfl
theorem tag_75 : tag Try.prog 75 = some false := by kernel_rfl
theorem tcon_75 : tcon Try.prog 75 = true := by kernel_rfl
theorem tstr_75 : tstr Try.prog 75 = false := by kernel_rfl
theorem tbool_75 : tbool Try.prog 75 = false := by kernel_rfl
theorem tslc_75 : tslc Try.prog 75 = none := by kernel_rfl
theorem tarr_75 : tarr Try.prog 75 = none := by kernel_rfl
theorem tby_75 : tby Try.prog 75 = some 8 := by kernel_rfl
theorem tzr_75 : tzr Try.prog 75 = some [.raw .nilFunc] := by kernel_rfl
theorem tsz_77 : tsz Try.prog 77 = some 1 := by kernel_rfl
theorem tag_77 : tag Try.prog 77 = some true := by kernel_rfl
theorem tcon_77 : tcon Try.prog 77 = true := by kernel_rfl
theorem tstr_77 : tstr Try.prog 77 = false := by kernel_rfl
theorem tbool_77 : tbool Try.prog 77 = false := by kernel_rfl
theorem tslc_77 : tslc Try.prog 77 = none := by kernel_rfl
theorem tarr_77 : tarr Try.prog 77 = none := by kernel_rfl
theorem tby_77 : tby Try.prog 77 = some 8 := by kernel_rfl
theorem tzr_77 : tzr Try.prog 77 = some [.d (.int .i64 0)] := by kernel_rfl
theorem tfld_77_0 : tfld Try.prog 77 0 = some (0, 1, 3) := by kernel_rfl
theorem place_77_0 : place Try.prog 77 0 = some (0, 1) := by kernel_rfl
theorem tbld_77 : tbld Try.prog 77 = true := by kernel_rfl
theorem tsz_78 : tsz Try.prog 78 = some 1 := by kernel_rfl
theorem tag_78 : tag Try.prog 78 = some true := by kernel_rfl
theorem tcon_78 : tcon Try.prog 78 = true := by kernel_rfl
theorem tstr_78 : tstr Try.prog 78 = false := by kernel_rfl
theorem tbool_78 : tbool Try.prog 78 = false := by kernel_rfl
theorem tslc_78 : tslc Try.prog 78 = none := by kernel_rfl
theorem tarr_78 : tarr Try.prog 78 = none := by kernel_rfl
theorem tby_78 : tby Try.prog 78 = some 8 := by kernel_rfl
theorem tzr_78 : tzr Try.prog 78 = some [.d (.int .i64 0)] := by kernel_rfl
theorem tfld_78_0 : tfld Try.prog 78 0 = some (0, 1, 3) := by kernel_rfl
theorem place_78_0 : place Try.prog 78 0 = some (0, 1) := by kernel_rfl
theorem tbld_78 : tbld Try.prog 78 = true := by kernel_rfl
theorem tsz_79 : tsz Try.prog 79 = some 1 := by kernel_rfl
theorem tag_79 : tag Try.prog 79 = some false := by kernel_rfl
theorem tcon_79 : tcon Try.prog 79 = true := by kernel_rfl
theorem tstr_79 : tstr Try.prog 79 = false := by kernel_rfl
theorem tbool_79 : tbool Try.prog 79 = false := by kernel_rfl
theorem tslc_79 : tslc Try.prog 79 = none := by kernel_rfl
theorem tarr_79 : tarr Try.prog 79 = none := by kernel_rfl
theorem tby_79 : tby Try.prog 79 = some 8 := by kernel_rfl
theorem tzr_79 : tzr Try.prog 79 = some [.raw .nilFunc] := by kernel_rfl
theorem tsz_80 : tsz Try.prog 80 = some 1 := by kernel_rfl
theorem tag_80 : tag Try.prog 80 = some false := by kernel_rfl
theorem tcon_80 : tcon Try.prog 80 = true := by kernel_rfl
theorem tstr_80 : tstr Try.prog 80 = false := by kernel_rfl
theorem tbool_80 : tbool Try.prog 80 = false := by kernel_rfl
theorem tslc_80 : tslc Try.prog 80 = none := by kernel_rfl
theorem tarr_80 : tarr Try.prog 80 = none := by kernel_rfl
theorem tby_80 : tby Try.prog 80 = some 8 := by kernel_rfl
theorem tzr_80 : tzr Try.prog 80 = some [.raw .nilFunc] := by kernel_rfl
theorem tsz_81 : tsz Try.prog 81 = some 1 := by kernel_rfl
theorem tag_81 : tag Try.prog 81 = some false := by kernel_rfl
theorem tcon_81 : tcon Try.prog 81 = true := by kernel_rfl
theorem tstr_81 : tstr Try.prog 81 = false := by kernel_rfl
theorem tbool_81 : tbool Try.prog 81 = false := by kernel_rfl
theorem tslc_81 : tslc Try.prog 81 = none := by kernel_rfl
theorem tarr_81 : tarr Try.prog 81 = none := by kernel_rfl
theorem tby_81 : tby Try.prog 81 = some 8 := by kernel_rfl
theorem tzr_81 : tzr Try.prog 81 = some [.raw .nilFunc] := by kernel_rfl
theorem tsz_82 : tsz Try.prog 82 = some 1 := by kernel_rfl
theorem tag_82 : tag Try.prog 82 = some false := by kernel_rfl
theorem tcon_82 : tcon Try.prog 82 = true := by kernel_rfl
theorem tstr_82 : tstr Try.prog 82 = false := by kernel_rfl
theorem tbool_82 : tbool Try.prog 82 = false := by kernel_rfl
theorem tslc_82 : tslc Try.prog 82 = none := by kernel_rfl
theorem tarr_82 : tarr Try.prog 82 = none := by kernel_rfl
theorem tby_82 : tby Try.prog 82 = some 8 := by kernel_rfl
theorem tzr_82 : tzr Try.prog 82 = some [.raw .nilFunc] := by kernel_rfl
theorem tsz_83 : tsz Try.prog 83 = some 1 := by kernel_rfl
theorem tag_83 : tag Try.prog 83 = some false := by kernel_rfl
theorem tcon_83 : tcon Try.prog 83 = true := by kernel_rfl
theorem tstr_83 : tstr Try.prog 83 = false := by kernel_rfl
theorem tbool_83 : tbool Try.prog 83 = false := by kernel_rfl
theorem tslc_83 : tslc Try.prog 83 = none := by kernel_rfl
theorem tarr_83 : tarr Try.prog 83 = none := by kernel_rfl
theorem tby_83 : tby Try.prog 83 = some 8 := by kernel_rfl
theorem tzr_83 : tzr Try.prog 83 = some [.raw .nilFunc] := by kernel_rfl
theorem tsz_84 : tsz Try.prog 84 = some 1 := by kernel_rfl
theorem tag_84 : tag Try.prog 84 = some false := by kernel_rfl
theorem tcon_84 : tcon Try.prog 84 = true := by kernel_rfl
theorem tstr_84 : tstr Try.prog 84 = false := by kernel_rfl
theorem tbool_84 : tbool Try.prog 84 = false := by kernel_rfl
theorem tslc_84 : tslc Try.prog 84 = some 22 := by kernel_rfl
theorem tarr_84 : tarr Try.prog 84 = none := by kernel_rfl
theorem tby_84 : tby Try.prog 84 = some 24 := by kernel_rfl
theorem tzr_84 : tzr Try.prog 84 = some [.clip []] := by kernel_rfl
theorem tsz_85 : tsz Try.prog 85 = some 1 := by kernel_rfl
theorem tag_85 : tag Try.prog 85 = some false := by kernel_rfl
theorem tcon_85 : tcon Try.prog 85 = true := by kernel_rfl
theorem tstr_85 : tstr Try.prog 85 = false := by kernel_rfl
theorem tbool_85 : tbool Try.prog 85 = false := by kernel_rfl
theorem tslc_85 : tslc Try.prog 85 = none := by kernel_rfl
theorem tarr_85 : tarr Try.prog 85 = none := by kernel_rfl
theorem tby_85 : tby Try.prog 85 = some 8 := by kernel_rfl
theorem tzr_85 : tzr Try.prog 85 = some [.raw .nilFunc] := by kernel_rfl
theorem tsz_86 : tsz Try.prog 86 = some 1 := by kernel_rfl
theorem tag_86 : tag Try.prog 86 = some false := by kernel_rfl
theorem tcon_86 : tcon Try.prog 86 = true := by kernel_rfl
theorem tstr_86 : tstr Try.prog 86 = false := by kernel_rfl
theorem tbool_86 : tbool Try.prog 86 = false := by kernel_rfl
theorem tslc_86 : tslc Try.prog 86 = none := by kernel_rfl
theorem tarr_86 : tarr Try.prog 86 = none := by kernel_rfl
theorem tby_86 : tby Try.prog 86 = some 8 := by kernel_rfl
theorem tzr_86 : tzr Try.prog 86 = some [.raw .nilFunc] := by kernel_rfl
theorem tsz_92 : tsz Try.prog 92 = some 1 := by kernel_rfl
theorem tag_92 : tag Try.prog 92 = some false := by kernel_rfl
theorem tcon_92 : tcon Try.prog 92 = true := by kernel_rfl
theorem tstr_92 : tstr Try.prog 92 = false := by kernel_rfl
theorem tbool_92 : tbool Try.prog 92 = false := by kernel_rfl
theorem tslc_92 : tslc Try.prog 92 = none := by kernel_rfl
theorem tarr_92 : tarr Try.prog 92 = none := by kernel_rfl
theorem tby_92 : tby Try.prog 92 = some 8 := by kernel_rfl
theorem tzr_92 : tzr Try.prog 92 = some [.raw .nilFunc] := by kernel_rfl
theorem tsz_93 : tsz Try.prog 93 = some 1 := by kernel_rfl
theorem tag_93 : tag Try.prog 93 = some false := by kernel_rfl
theorem tcon_93 : tcon Try.prog 93 = true := by kernel_rfl
theorem tstr_93 : tstr Try.prog 93 = false := by kernel_rfl
theorem tbool_93 : tbool Try.prog 93 = false := by kernel_rfl
theorem tslc_93 : tslc Try.prog 93 = none := by kernel_rfl
theorem tarr_93 : tarr Try.prog 93 = none := by kernel_rfl
theorem tby_93 : tby Try.prog 93 = some 4 := by kernel_rfl
theorem tzr_93 : tzr Try.prog 93 = some [.d (.int .u32 0)] := by kernel_rfl
theorem tsz_96 : tsz Try.prog 96 = some 1 := by kernel_rfl
theorem tag_96 : tag Try.prog 96 = some false := by kernel_rfl
theorem tcon_96 : tcon Try.prog 96 = true := by kernel_rfl
theorem tstr_96 : tstr Try.prog 96 = false := by kernel_rfl
theorem tbool_96 : tbool Try.prog 96 = false := by kernel_rfl
theorem tslc_96 : tslc Try.prog 96 = none := by kernel_rfl
theorem tarr_96 : tarr Try.prog 96 = none := by kernel_rfl
theorem tby_96 : tby Try.prog 96 = some 8 := by kernel_rfl
theorem tzr_96 : tzr Try.prog 96 = some [.raw .nilFunc] := by kernel_rfl
theorem tsz_97 : tsz Try.prog 97 = some 1 := by kernel_rfl
theorem tag_97 : tag Try.prog 97 = some false := by kernel_rfl
theorem tcon_97 : tcon Try.prog 97 = true := by kernel_rfl
theorem tstr_97 : tstr Try.prog 97 = false := by kernel_rfl
theorem tbool_97 : tbool Try.prog 97 = false := by kernel_rfl
theorem tslc_97 : tslc Try.prog 97 = none := by kernel_rfl
theorem tarr_97 : tarr Try.prog 97 = none := by kernel_rfl
theorem tby_97 : tby Try.prog 97 = some 8 := by kernel_rfl
theorem tzr_97 : tzr Try.prog 97 = some [.raw (.pointer none)] := by kernel_rfl
def escT : Nat → List Nat
  | 25 => [3]
  | 26 => [4, 5]
  | 29 => [2, 3]
  | 30 => [2, 3]
  | 31 => [33]
  | 43 => [3, 4, 5]
  | 50 => [3, 4]
  | 53 => [1]
  | 56 => [2, 3, 7]
  | _ => []
def clrT' : Nat → Nat → List Nat
  | 3, 0 => [0, 6]
  | 3, 1 => [15]
  | 3, 2 => [16, 17]
  | 3, 3 => [8, 18, 19, 20, 21, 22]
  | 3, 4 => [1, 2, 3, 7, 23, 24]
  | 3, 5 => [7, 23, 25, 26, 27, 28, 29, 30, 31, 32, 33]
  | 3, 6 => [34, 35, 36, 37, 38, 39, 40]
  | 3, 7 => [1, 2, 3, 41, 42, 43, 44, 45, 46, 47]
  | 3, 8 => [10, 12, 48, 49, 50]
  | 3, 9 => [9, 11, 13, 14, 51, 52, 53, 54, 55, 56, 57, 58, 59]
  | 4, 0 => [0, 4]
  | 4, 1 => [11]
  | 4, 2 => [12, 13]
  | 4, 3 => [6, 14, 15, 16, 17, 18, 19, 20, 21, 22, 23, 24, 25, 26, 27, 28, 29, 30, 31, 32, 33, 34, 35, 36, 37]
  | 4, 4 => [1, 2, 5, 38, 39]
  | 4, 5 => [5, 38, 40, 41, 42, 43, 44]
  | 4, 6 => [45, 46, 47]
  | 4, 7 => [1, 48, 49, 50, 51, 52, 53]
  | 4, 8 => [10, 54, 55, 56, 57, 58, 59, 60, 61, 62, 63, 64, 65, 66]
  | 4, 9 => [2, 7, 8, 9, 67]
  | 4, 10 => [8, 67, 68, 69, 70, 71]
  | 4, 11 => [9, 72, 73, 74, 75]
  | 4, 12 => [2, 7, 76, 77, 78, 79, 80, 81, 82]
  | 5, 0 => [0, 8]
  | 5, 1 => [15]
  | 5, 2 => [16, 17]
  | 5, 3 => [10, 18, 19, 20, 21, 22, 23, 24, 25, 26, 27, 28, 29, 30, 31, 32, 33, 34, 35, 36, 37, 38, 39, 40, 41, 42, 43, 44, 45, 46, 47, 48, 49, 50, 51]
  | 5, 4 => [1, 2, 3, 4, 9, 52, 53]
  | 5, 5 => [9, 52, 54, 55, 56, 57]
  | 5, 6 => [58, 59, 60, 61, 62, 63, 64]
  | 5, 7 => [65, 66, 67, 68]
  | 5, 8 => [1, 2, 3, 4, 11, 12, 13, 14, 69, 70, 71, 72, 73, 74, 75, 76, 77, 78, 79, 80, 81, 82, 83, 84, 85, 86, 87, 88, 89, 90, 91, 92, 93, 94, 95, 96, 97, 98]
  | 6, 0 => [0, 6]
  | 6, 1 => [11]
  | 6, 2 => [12, 13]
  | 6, 3 => [8, 14, 15, 16, 17, 18, 19, 20, 21, 22, 23, 24, 25, 26, 27, 28, 29, 30, 31, 32, 33, 34, 35, 36, 37, 38, 39]
  | 6, 4 => [1, 2, 3, 7, 40, 41]
  | 6, 5 => [7, 40, 42, 43, 44]
  | 6, 6 => [9, 45, 46, 47, 48]
  | 6, 7 => [1, 2, 3, 10, 49, 50, 51, 52, 53, 54, 55, 56, 57, 58, 59, 60, 61, 62, 63, 64, 65, 66, 67, 68, 69]
  | 7, 0 => [0, 8]
  | 7, 1 => [17]
  | 7, 2 => [18, 19]
  | 7, 3 => [10, 20, 21, 22, 23, 24, 25, 26, 27, 28, 29, 30, 31, 32, 33, 34, 35, 36, 37, 38, 39, 40, 41, 42, 43, 44, 45, 46, 47, 48, 49, 50, 51, 52, 53, 54, 55, 56]
  | 7, 4 => [1, 2, 3, 4, 9, 57, 58]
  | 7, 5 => [9, 57, 59, 60, 61, 62]
  | 7, 6 => [63, 64, 65, 66, 67, 68, 69]
  | 7, 7 => [70, 71, 72, 73, 74, 75, 76]
  | 7, 8 => [77, 78, 79]
  | 7, 9 => [80, 81]
  | 7, 10 => [2, 82, 83]
  | 7, 11 => [1, 2, 3, 4, 11, 12, 13, 14, 15, 16, 82, 84, 85, 86, 87, 88, 89, 90, 91, 92, 93, 94, 95, 96, 97, 98, 99, 100, 101, 102, 103, 104, 105]
  | 8, 0 => [0, 6]
  | 8, 1 => [12]
  | 8, 2 => [13, 14]
  | 8, 3 => [8, 15, 16, 17, 18, 19, 20, 21, 22, 23, 24, 25, 26, 27, 28, 29, 30, 31, 32, 33, 34, 35, 36, 37, 38, 39, 40, 41, 42, 43, 44, 45, 46]
  | 8, 4 => [1, 2, 3, 7, 47, 48]
  | 8, 5 => [7, 47, 49, 50, 51, 52]
  | 8, 6 => [1, 2, 53, 54, 55, 56, 57, 58, 59]
  | 8, 7 => [3, 9, 10, 11, 60, 61, 62, 63, 64, 65, 66, 67, 68, 69, 70]
  | 9, 0 => [0, 8]
  | 9, 1 => [15]
  | 9, 2 => [16, 17]
  | 9, 3 => [18, 19]
  | 9, 4 => [10, 11, 20, 21, 22, 23, 24, 25, 26, 27, 28, 29, 30, 31, 32, 33, 34, 35, 36, 37, 38, 39, 40, 41, 42, 43, 44, 45, 46, 47, 48, 49, 50, 51, 52, 53, 54, 55, 56, 57, 58, 59, 60, 61, 62, 63, 64]
  | 9, 5 => [1, 2, 3, 4, 9, 65, 66]
  | 9, 6 => [9, 65]
  | 9, 7 => [67, 68, 69]
  | 9, 9 => [70, 73, 74, 75, 76, 77, 78, 79, 80, 81, 82, 83, 84, 85, 86]
  | 9, 10 => [1, 2, 3, 4, 12, 87]
  | 9, 8 => [71, 72, 87]
  | 9, 11 => [1, 2, 4, 12, 70, 88, 89, 90, 91, 92, 93, 94, 95, 96, 97]
  | 9, 12 => [3, 13, 14, 98, 99, 100, 101, 102, 103, 104]
  | 10, 0 => [0, 6]
  | 10, 1 => [21]
  | 10, 2 => [22, 23]
  | 10, 3 => [24, 25]
  | 10, 4 => [8, 9, 26, 27, 28, 29, 30, 31, 32, 33, 34]
  | 10, 5 => [1, 2, 3, 7, 35, 36]
  | 10, 6 => [7, 35, 37, 38, 39, 40, 41, 42]
  | 10, 7 => [3, 43, 44, 45, 46, 47, 48]
  | 10, 8 => [10, 12, 49, 50, 51]
  | 10, 9 => [52, 53, 54]
  | 10, 10 => [1, 55, 56, 57]
  | 10, 11 => [58, 59, 60, 61, 62]
  | 10, 12 => [63, 64]
  | 10, 13 => [2, 65, 66]
  | 10, 14 => [67, 68, 69, 70, 71]
  | 10, 15 => [11, 13, 14, 15, 16, 17, 18, 19, 20, 72, 73, 74, 75, 76, 77, 78, 79, 80, 81, 82, 83, 84, 85, 86, 87, 88, 89, 90, 91, 92, 93, 94, 95, 96, 97]
  | 11, 0 => [0, 1, 6]
  | 11, 1 => [14]
  | 11, 2 => [15, 16]
  | 11, 3 => [17, 18]
  | 11, 4 => [8, 9, 19, 20, 21, 22, 23, 24, 25, 26, 27, 28, 29, 30, 31, 32, 33, 34, 35, 36, 37, 38, 39, 40, 41, 42, 43, 44, 45]
  | 11, 5 => [2, 3, 4, 7, 46, 47]
  | 11, 6 => [4, 7, 46, 48, 49, 50, 51, 52, 53, 54, 55, 56]
  | 11, 7 => [2, 57, 58, 59, 60, 61, 62, 63]
  | 11, 8 => [3, 10, 11, 12, 13, 64, 65, 66, 67, 68, 69, 70, 71, 72, 73, 74, 75, 76, 77, 78, 79]
  | 12, 0 => [0, 1, 2, 6]
  | 12, 1 => [20]
  | 12, 2 => [21, 22]
  | 12, 3 => [23, 24]
  | 12, 4 => [25, 26]
  | 12, 5 => [8, 9, 10, 27, 28, 29, 30, 31, 32, 33, 34, 35, 36, 37, 38, 39, 40, 41, 42, 43, 44, 45, 46, 47, 48, 49, 50, 51, 52, 53, 54]
  | 12, 6 => [3, 4, 5, 7, 55, 56]
  | 12, 7 => [7, 55, 57, 58, 59, 60, 61, 62, 63, 64]
  | 12, 8 => [11, 65, 66, 67, 68, 69, 70, 71, 72]
  | 12, 9 => [4, 73, 74, 75, 76, 77, 78, 79, 80]
  | 12, 10 => [3, 5, 15, 81, 82, 83, 84, 85, 86, 87, 88, 89]
  | 12, 11 => [12, 14, 16, 18, 90, 91, 92, 93, 94, 95, 96, 97, 98, 99, 100, 101, 102]
  | 12, 12 => [13, 17, 103]
  | 12, 13 => [103, 104, 105]
  | 12, 14 => [13, 17, 19, 106, 107, 108, 109, 110, 111]
  | 13, 0 => [6]
  | 13, 1 => [17]
  | 13, 2 => [18, 19]
  | 13, 3 => [8, 20, 21, 22, 23, 24, 25, 26, 27, 28, 29, 30, 31, 32, 33, 34, 35, 36, 37, 38, 39, 40]
  | 13, 4 => [0, 1, 2, 7, 41, 42]
  | 13, 5 => [7, 41]
  | 13, 6 => [43, 44, 45]
  | 13, 8 => [46, 49, 50, 51, 52, 53]
  | 13, 9 => [0, 1, 2, 9, 54]
  | 13, 7 => [47, 48, 54]
  | 13, 10 => [0, 1, 9, 46, 55, 56, 57]
  | 13, 11 => [58, 59, 60, 61, 62, 63, 64]
  | 13, 12 => [65, 66, 67, 68, 69, 70, 71, 72, 73]
  | 13, 13 => [2, 10, 74, 75, 76, 77, 78, 79, 80]
  | 13, 14 => [11, 12, 13, 14, 15, 16, 81, 82, 83, 84, 85, 86, 87, 88, 89, 90, 91, 92, 93, 94, 95, 96, 97, 98, 99, 100, 101]
  | 14, 0 => [0, 4]
  | 14, 1 => [11]
  | 14, 2 => [12, 13]
  | 14, 3 => [6, 14, 15, 16, 17, 18, 19, 20, 21, 22, 23, 24, 25, 26, 27, 28, 29, 30, 31]
  | 14, 4 => [1, 2, 5, 32, 33]
  | 14, 5 => [5, 32, 34, 35, 36, 37, 38, 39, 40]
  | 14, 6 => [41, 42, 43, 44, 45, 46, 47, 48]
  | 14, 7 => [1, 2, 7, 8, 9, 10, 49, 50, 51, 52, 53, 54, 55, 56, 57, 58, 59, 60, 61, 62, 63, 64, 65, 66, 67, 68]
  | 15, 0 => [0, 1, 2, 6]
  | 15, 1 => [20]
  | 15, 2 => [21, 22]
  | 15, 3 => [23, 24]
  | 15, 4 => [25, 26]
  | 15, 5 => [8, 9, 10, 27, 28, 29, 30, 31, 32, 33, 34, 35, 36, 37, 38, 39, 40, 41, 42, 43, 44, 45, 46, 47, 48, 49, 50, 51, 52, 53, 54]
  | 15, 6 => [3, 4, 5, 7, 55, 56]
  | 15, 7 => [7, 55, 57, 58, 59]
  | 15, 8 => [60, 61, 62, 63, 64, 65, 66]
  | 15, 9 => [3, 67, 68, 69, 70, 71, 72, 73, 74]
  | 15, 10 => [12, 15, 75, 76, 77, 78, 79, 80, 81, 82]
  | 15, 11 => [4, 5, 11, 13, 14, 83]
  | 15, 12 => [4, 11, 83, 84, 85, 86, 87, 88, 89, 90, 91]
  | 15, 13 => [5, 14, 92, 93, 94, 95, 96, 97, 98]
  | 15, 14 => [13, 16, 17, 18, 19, 99, 100, 101, 102, 103, 104, 105, 106, 107, 108, 109, 110, 111, 112, 113, 114]
  | 16, 0 => [0]
  | 16, 1 => [6, 7, 8]
  | 16, 2 => [9, 10]
  | 16, 3 => [11, 12]
  | 16, 4 => [1, 4, 13, 14, 15, 16, 17]
  | 16, 5 => [2, 3, 5, 18, 19, 20, 21, 22, 23, 24, 25, 26, 27, 28, 29, 30, 31, 32, 33, 34, 35, 36, 37, 38, 39, 40, 41, 42, 43, 44, 45, 46, 47]
  | 17, 0 => [0, 6]
  | 17, 1 => [8, 9]
  | 17, 2 => [1, 2, 3, 7, 10, 11, 12, 13, 14, 15, 16, 17, 18, 19, 20, 21, 22]
  | 18, 0 => [0, 1, 4]
  | 18, 1 => [7, 8, 9, 10, 11, 12, 13, 14, 15, 16, 17, 18, 19, 20, 21, 22, 23, 24, 25, 26]
  | 18, 2 => [2, 3, 27]
  | 18, 3 => [27]
  | 18, 4 => [28, 29, 30, 31]
  | 18, 6 => [32, 35, 36, 37, 38, 39, 40, 41, 42, 43, 44, 45]
  | 18, 7 => [6, 46]
  | 18, 8 => [2, 3, 5, 47]
  | 18, 5 => [33, 34, 47]
  | 18, 9 => [2, 3, 5, 32]
  | 19, 0 => [0]
  | 19, 1 => [9, 10, 11, 12]
  | 19, 2 => [1, 2, 3, 13, 14, 15]
  | 19, 3 => [1, 2, 3, 8, 13, 16, 17, 18, 19, 20, 21, 22, 23, 24]
  | 19, 4 => [7, 25]
  | 20, 0 => [0]
  | 20, 1 => [8, 9, 10, 11]
  | 20, 2 => [7, 12]
  | 20, 3 => [1, 2, 3, 13, 14, 15]
  | 20, 4 => [1, 2, 3, 13, 16, 17, 18, 19]
  | 21, 0 => [0, 7]
  | 21, 1 => [8, 9, 10, 11]
  | 21, 2 => [1, 2, 3, 12, 13]
  | 21, 3 => [1, 2, 3, 12, 14, 15, 16, 17, 18, 19, 20, 21]
  | 22, 0 => [0, 7]
  | 22, 1 => [11, 12, 13, 14]
  | 22, 2 => [8, 15]
  | 22, 3 => [1, 2, 3, 16, 17]
  | 22, 4 => [1, 2, 3, 16, 18, 19, 20, 21, 22, 23, 24]
  | 22, 5 => [9, 10, 25, 26]
  | 23, 0 => [0, 2]
  | 23, 1 => [1, 3, 4, 5, 6, 7, 8, 9, 10, 11, 12, 13, 14]
  | 24, 0 => [0, 1, 4]
  | 24, 1 => [7, 8, 9, 10, 11, 12, 13, 14, 15, 16, 17, 18, 19, 20, 21, 22, 23, 24, 25, 26]
  | 24, 2 => [2, 3, 27]
  | 24, 3 => [2, 27, 28]
  | 24, 5 => [32, 33, 34, 35]
  | 24, 6 => [5, 6, 36, 37, 38, 39, 40, 41, 42]
  | 24, 7 => [3, 29, 30, 31, 43]
  | 24, 8 => [43, 44]
  | 24, 9 => [3, 29, 30, 31, 32]
  | 25, 0 => [0]
  | 25, 2 => [1, 4]
  | 25, 3 => [2, 3, 5, 6, 7, 8, 9]
  | 25, 4 => [3, 5, 10]
  | 26, 0 => [0, 1, 2, 6]
  | 26, 1 => [3, 4, 5, 7, 8, 9]
  | 27, 0 => [0]
  | 27, 1 => [5, 6, 7]
  | 27, 2 => [8, 9, 10]
  | 27, 3 => [1, 2, 11, 12, 13, 14, 15, 16, 17, 18]
  | 27, 4 => [3, 4, 19, 20, 21, 22, 23, 24, 25, 26, 27, 28, 29, 30, 31, 32, 33, 34, 35, 36]
  | 28, 0 => [6]
  | 28, 1 => [9, 10]
  | 28, 2 => [0, 1, 2, 11]
  | 28, 3 => [11]
  | 28, 4 => [12, 13, 14]
  | 28, 6 => [15, 18, 19, 20, 21, 22, 23, 24]
  | 28, 7 => [8, 25]
  | 28, 8 => [0, 1, 2, 7, 26]
  | 28, 5 => [16, 17, 26]
  | 28, 9 => [0, 1, 2, 7, 15]
  | 29, 0 => [0, 1, 5]
  | 29, 1 => [6, 7, 8, 9, 10, 11, 12]
  | 29, 2 => [2, 3, 13, 14]
  | 29, 3 => [2, 3, 13, 15, 16, 17, 18]
  | 30, 0 => [0, 1, 5]
  | 30, 2 => [6, 7, 8, 9, 10, 11, 12, 13]
  | 30, 3 => [2, 3, 14, 15]
  | 30, 4 => [2, 3, 14, 16, 17, 18, 19]
  | 31, 0 => [0, 5]
  | 31, 1 => [13, 14]
  | 31, 2 => [6, 15]
  | 31, 3 => [1, 2, 16, 17]
  | 31, 4 => [16]
  | 31, 5 => [18, 19, 20]
  | 31, 7 => [21, 24, 25, 26, 27, 28]
  | 31, 8 => [8, 29]
  | 31, 9 => [1, 2, 7, 30, 31]
  | 31, 6 => [22, 23, 30]
  | 31, 10 => [7, 21, 32]
  | 31, 11 => [1, 2, 34, 35, 36, 37]
  | 31, 12 => [9, 10, 33, 38, 39, 40, 41, 42, 43]
  | 31, 13 => [11, 12, 44, 45]
  | 32, 0 => [0]
  | 32, 1 => [6, 7, 8, 9]
  | 32, 2 => [1, 10]
  | 32, 4 => [14, 15, 16]
  | 32, 5 => [5, 17, 18, 19, 20, 21, 22, 23]
  | 32, 6 => [24]
  | 32, 7 => [11, 12, 13, 14, 25, 26, 27, 28, 29, 30]
  | 32, 8 => [3, 31]
  | 33, 0 => [0]
  | 33, 1 => [5, 6, 7, 8]
  | 33, 3 => [9, 10, 11, 12]
  | 33, 5 => [13, 16, 17, 18, 19, 20, 21, 22, 23, 24, 25, 26]
  | 33, 4 => [14, 15]
  | 33, 6 => [1, 4, 13, 27, 28, 29, 30, 31, 32]
  | 33, 7 => [3, 33]
  | 34, 0 => [4]
  | 34, 1 => [7, 8, 9, 10]
  | 34, 2 => [0, 1, 11]
  | 34, 3 => [11]
  | 34, 4 => [12, 13, 14]
  | 34, 6 => [15, 18, 19, 20, 21, 22, 23, 24, 25, 26]
  | 34, 7 => [6, 27]
  | 34, 8 => [0, 1, 5, 28]
  | 34, 5 => [16, 17, 28]
  | 34, 9 => [0, 1, 5, 15]
  | 35, 1 => [5, 6, 7]
  | 35, 2 => [8, 9]
  | 35, 5 => [12, 13]
  | 35, 6 => [4, 14, 15, 16, 17, 18, 19, 20, 21, 22, 23]
  | 35, 7 => [24]
  | 35, 8 => [0, 3, 10, 11, 12, 25]
  | 36, 1 => [5]
  | 36, 2 => [6]
  | 36, 3 => [6, 7]
  | 36, 4 => [8]
  | 36, 5 => [8, 9, 10]
  | 36, 6 => [0, 11, 12]
  | 36, 7 => [13]
  | 36, 9 => [14, 17, 18, 19, 20, 21, 22, 23]
  | 36, 8 => [15, 16]
  | 36, 10 => [3, 4, 14, 24]
  | 37, 0 => [0, 2]
  | 37, 1 => [5, 6, 7, 8, 9, 10, 11, 12]
  | 37, 2 => [1, 13]
  | 37, 3 => [13]
  | 37, 4 => [14, 15, 16, 17]
  | 37, 6 => [18, 21, 22, 23, 24, 25, 26]
  | 37, 7 => [4, 27]
  | 37, 8 => [1, 3, 28]
  | 37, 5 => [19, 20, 28]
  | 37, 9 => [1, 3, 18]
  | 38, 0 => [0, 2]
  | 38, 1 => [5, 6]
  | 38, 2 => [1, 7]
  | 38, 3 => [7]
  | 38, 4 => [8, 9, 10, 11]
  | 38, 6 => [12, 15, 16, 17, 18, 19, 20]
  | 38, 7 => [4, 21]
  | 38, 8 => [1, 3, 22]
  | 38, 5 => [13, 14, 22]
  | 38, 9 => [1, 3, 12]
  | 39, 0 => [0, 2]
  | 39, 3 => [5, 6, 7, 8]
  | 39, 5 => [9, 12, 13, 14, 15, 16, 17, 18, 19]
  | 39, 4 => [10, 11]
  | 39, 6 => [1, 3, 4, 9, 20]
  | 40, 0 => [0, 2]
  | 40, 3 => [6, 7, 8, 9]
  | 40, 5 => [10, 13, 14, 15, 16, 17, 18]
  | 40, 6 => [19, 20]
  | 40, 7 => [5, 21, 22]
  | 40, 4 => [5, 11, 12, 21]
  | 40, 8 => [1, 3, 4, 10, 23, 24]
  | 41, 0 => [0, 6]
  | 41, 1 => [1, 2, 3, 7, 8, 9, 10, 11, 12, 13, 14, 15, 16, 17, 18, 19, 20, 21, 22, 23, 24]
  | 42, 0 => [0]
  | 42, 2 => [6]
  | 42, 4 => [10, 11, 12]
  | 42, 5 => [5, 13, 14, 15, 16, 17]
  | 42, 6 => [18]
  | 42, 7 => [1, 3, 7, 8, 9, 10, 19, 20, 21, 22, 23, 24]
  | 43, 0 => [0, 1, 2, 7]
  | 43, 1 => [11, 12]
  | 43, 2 => [13, 14]
  | 43, 3 => [15, 16, 17, 18, 19, 20, 21, 22, 23]
  | 43, 4 => [9, 15, 24]
  | 43, 5 => [3, 4, 5, 8, 25, 26]
  | 43, 6 => [4, 5, 25, 27, 28, 29, 30, 31, 32, 33]
  | 43, 7 => [9, 34]
  | 43, 8 => [3, 8, 10, 35, 36]
  | 43, 9 => [3, 8, 10, 35, 37, 38, 39, 40, 41]
  | 44, 0 => [0, 6, 7]
  | 44, 1 => [2, 8, 9, 10, 11, 12]
  | 44, 2 => [1, 3, 13, 14, 15, 16, 17]
  | 44, 3 => [1, 3, 13, 18]
  | 45, 0 => [0, 6]
  | 45, 1 => [3, 8, 9]
  | 45, 2 => [1, 2, 7, 10, 11, 12, 13, 14, 15, 16, 17, 18, 19, 20, 21, 22, 23, 24, 25, 26]
  | 46, 0 => [0]
  | 46, 1 => [9, 10, 11, 12, 13]
  | 46, 2 => [14, 15, 16, 17, 18, 19, 20, 21]
  | 46, 3 => [22, 23, 24, 25, 26, 27]
  | 46, 4 => [22]
  | 46, 5 => [28, 29, 30, 31]
  | 46, 7 => [32, 35, 36, 37, 38, 39, 40, 41, 42, 43, 44, 45, 46, 47, 48, 49, 50, 51]
  | 46, 6 => [33, 34]
  | 46, 8 => [1, 2, 3, 7, 8, 32, 52]
  | 47, 0 => [0, 6, 7]
  | 47, 1 => [9, 10, 11, 12, 13, 14]
  | 47, 2 => [1, 2, 3, 8, 15]
  | 47, 3 => [2, 8, 17, 18, 19, 20, 21, 22, 23, 24, 25]
  | 47, 4 => [1, 3, 16]
  | 47, 5 => [1, 3, 16, 26, 27, 28, 29]
  | 48, 0 => [0, 7]
  | 48, 1 => [12, 13, 14, 15, 16]
  | 48, 2 => [17, 18, 19, 20, 21, 22, 23, 24]
  | 48, 3 => [25, 26, 27, 28, 29, 30]
  | 48, 4 => [1, 2, 3, 8, 31, 32]
  | 48, 5 => [31, 33, 34, 35, 36, 37]
  | 48, 6 => [25]
  | 48, 7 => [38, 39, 40, 41]
  | 48, 9 => [42, 45, 46, 47, 48, 49, 50, 51, 52, 53, 54, 55, 56, 57, 58, 59]
  | 48, 10 => [11, 60]
  | 48, 11 => [1, 2, 3, 8, 9, 10, 61, 62]
  | 48, 12 => [10, 61, 63, 64, 65, 66, 67, 68]
  | 48, 8 => [43, 44]
  | 48, 13 => [1, 2, 3, 8, 9, 42, 69]
  | 49, 0 => [0, 2]
  | 49, 2 => [1, 6]
  | 49, 4 => [10, 11, 12]
  | 49, 5 => [5, 13, 14, 15, 16]
  | 49, 6 => [17]
  | 49, 7 => [3, 7, 8, 9, 10, 18, 19]
  | 50, 0 => [0, 1]
  | 50, 1 => [2, 7]
  | 50, 2 => [8, 9]
  | 50, 3 => [10]
  | 50, 4 => [3, 5, 6, 11, 12, 13, 14]
  | 50, 5 => [15]
  | 50, 6 => [3, 8]
  | 51, 0 => [0, 1, 4]
  | 51, 1 => [3, 5, 6]
  | 52, 0 => [0, 2]
  | 52, 1 => [3]
  | 52, 2 => [6]
  | 52, 3 => [1, 4, 5, 7, 8, 9, 10, 11, 12, 13, 14, 15]
  | 52, 4 => [5, 17]
  | 52, 5 => [1, 4, 16, 18, 19, 20, 21, 22, 23, 24, 25, 26]
  | 52, 6 => [4, 16, 28]
  | 52, 7 => [1, 27, 29, 30, 31, 32, 33, 34, 35, 36, 37]
  | 52, 8 => [1, 27, 38, 39, 40, 41, 42, 43, 44, 45, 46, 47, 48, 49, 50]
  | 53, 0 => [0, 2]
  | 53, 1 => [1, 3]
  | 54, 0 => [1, 6]
  | 54, 1 => [0, 2, 3, 5, 7, 8, 9, 10, 11, 12, 13, 14, 15, 16, 17, 18, 19, 20, 21, 22, 23, 24, 25, 26, 27, 28]
  | 55, 0 => [0, 2]
  | 55, 2 => [1, 3, 4, 5, 6, 7, 8, 9, 10, 11, 12, 13, 14, 15, 16, 17, 18, 19, 20, 21, 22, 23, 24]
  | 56, 1 => [4]
  | 56, 2 => [0, 5, 6, 7, 8]
  | 56, 3 => [9, 10]
  | 56, 4 => [11, 12]
  | 56, 5 => [11, 13]
  | 57, 1 => [0, 1, 2, 5, 6, 7, 8]
  | 58, 0 => [1, 2]
  | 58, 1 => [11, 12, 13, 14, 15, 16, 17]
  | 58, 2 => [18, 19, 20, 21]
  | 58, 3 => [22, 23]
  | 58, 4 => [22, 24, 25, 26, 27, 28]
  | 58, 5 => [29]
  | 58, 7 => [33, 34, 35, 36]
  | 58, 8 => [37]
  | 58, 9 => [8, 38, 39, 40, 41, 42, 43, 44, 45, 46, 47, 48, 49, 50, 51, 52]
  | 58, 10 => [53, 54, 55]
  | 58, 11 => [9, 10, 53, 56, 57, 58, 59, 60, 61, 62, 63, 64]
  | 58, 12 => [65]
  | 58, 13 => [30, 31, 32, 33, 66, 67]
  | 58, 14 => [0, 4, 5, 7, 68, 69]
  | 58, 15 => [0, 4, 5, 7, 68, 70, 71, 72, 73, 74, 75, 76, 77]
  | 59, 0 => [0, 2]
  | 59, 1 => [1, 3, 4, 5]
  | 60, 0 => [4]
  | 60, 1 => [0, 1, 5, 6, 7, 8]
  | 61, 1 => [0, 1, 2, 5, 6, 7, 8, 9]
  | 62, 0 => [1]
  | 62, 1 => [7, 8]
  | 62, 2 => [0, 2, 4, 9, 10]
  | 62, 3 => [9, 11]
  | 62, 4 => [14]
  | 62, 5 => [12, 13, 15, 16, 17, 18]
  | 62, 6 => [19, 20]
  | 62, 7 => [0, 2, 4, 19, 21, 22, 23, 24, 25, 26, 27, 28, 29, 30, 31, 32, 33]
  | 62, 8 => [0, 13, 35]
  | 62, 9 => [36]
  | 62, 10 => [12, 37]
  | 62, 11 => [2, 4, 12, 34, 38, 39, 40, 41, 42, 43, 44, 45, 46, 47]
  | 62, 12 => [2, 12, 34, 48]
  | 62, 13 => [4, 49]
  | 63, 0 => [0, 2]
  | 63, 1 => [4, 5]
  | 63, 2 => [1, 3, 6, 7, 8, 9, 10, 11, 12, 13, 14, 15, 16]
  | 64, 0 => [1]
  | 64, 1 => [9, 10, 11, 12, 13, 14, 15]
  | 64, 2 => [16, 17, 18, 19, 20]
  | 64, 3 => [7, 21]
  | 64, 4 => [0, 2, 4, 22, 23, 24]
  | 64, 5 => [22, 25, 26, 27, 28, 29, 30, 31, 32, 33, 34, 35]
  | 64, 6 => [36, 37, 38, 39]
  | 64, 7 => [0, 2, 4, 40, 41]
  | 64, 8 => [40, 42, 43]
  | 64, 9 => [16, 44, 45]
  | 64, 10 => [0, 2, 4, 46, 47]
  | 64, 11 => [46, 48, 49, 50, 51, 52, 53, 54, 55, 56, 57, 58, 59]
  | 64, 12 => [0, 2, 4, 60, 61, 62]
  | 64, 13 => [0, 60, 63, 64, 65]
  | 64, 14 => [2, 66, 67, 68]
  | 64, 15 => [4, 8, 69, 70, 71, 72, 73, 74]
  | 65, 0 => [1, 5]
  | 65, 1 => [7, 8]
  | 65, 2 => [6, 9, 10, 11, 12, 13, 14, 15, 16]
  | 65, 3 => [17, 18, 19, 20]
  | 65, 4 => [17, 21, 22, 23, 24]
  | 65, 5 => [0, 3, 25, 26, 27, 28, 29, 30]
  | 65, 6 => [0, 3, 25, 31]
  | 66, 0 => [4, 5]
  | 66, 2 => [0]
  | 66, 4 => [14, 15, 16, 17]
  | 66, 5 => [7, 8, 18, 19, 20, 21, 22, 23, 24]
  | 66, 6 => [10, 25]
  | 66, 7 => [1, 6, 9, 11, 12, 13, 26]
  | 66, 8 => [9, 26, 27, 28, 29, 30]
  | 66, 9 => [31]
  | 66, 10 => [1, 6, 11, 12, 13, 14, 32]
  | 67, 0 => [1, 8]
  | 67, 1 => [2, 10]
  | 67, 2 => [0, 3, 11, 12, 13, 14, 15, 16, 17, 18, 19, 20, 21, 22, 23, 24, 25]
  | 67, 3 => [26, 27, 28]
  | 67, 4 => [4, 6, 9, 26, 29, 30, 31, 32, 33, 34]
  | 68, 0 => [0, 4]
  | 68, 1 => [1, 2, 5, 6, 7, 8, 9, 10, 11, 12, 13, 14, 15, 16, 17, 18, 19]
  | 68, 2 => [20]
  | 68, 3 => [20]
  | 69, 0 => [0, 1, 3, 4, 5]
  | 70, 0 => [0, 6]
  | 70, 1 => [10, 11, 12, 13]
  | 70, 2 => [1, 2, 3, 14]
  | 70, 3 => [14, 15]
  | 70, 5 => [19, 20, 21, 22]
  | 70, 6 => [23]
  | 70, 7 => [7, 24, 25, 26, 27, 28, 29, 30, 31, 32]
  | 70, 8 => [33, 34, 35]
  | 70, 9 => [8, 9, 33, 36, 37, 38, 39]
  | 70, 10 => [1, 2, 3, 16, 17, 18, 40]
  | 70, 11 => [40, 41]
  | 70, 12 => [1, 2, 3, 16, 17, 18, 19]
  | 71, 0 => [0, 2]
  | 71, 1 => [1, 3, 4, 5]
  | 72, 0 => [5]
  | 72, 1 => [6, 7, 8, 9, 10]
  | 72, 2 => [4]
  | 72, 3 => [0, 1, 2, 3, 11, 12, 13]
  | 72, 4 => [0, 1, 3, 11, 14]
  | 72, 5 => [2, 15, 16]
  | 73, 0 => [0, 2, 3]
  | 74, 0 => [0]
  | 74, 1 => [5, 6, 7, 8]
  | 74, 2 => [1, 2, 9, 10, 11, 12, 13, 14, 15, 16, 17, 18, 19, 20]
  | 74, 3 => [1, 2, 9, 21, 22, 23, 24, 25, 26, 27, 28, 29]
  | 75, 0 => [4]
  | 75, 1 => [6]
  | 75, 3 => [9, 10]
  | 75, 4 => [11, 12, 13, 14, 15]
  | 75, 5 => [0, 1, 5, 7, 8, 16, 17]
  | 75, 6 => [5, 16, 18]
  | 75, 7 => [0, 1, 7, 8, 9]
  | 76, 0 => [2]
  | 76, 4 => [12, 13, 14]
  | 76, 5 => [5, 15, 16, 17, 18]
  | 76, 6 => [19]
  | 76, 7 => [20, 21]
  | 76, 8 => [20, 22]
  | 76, 9 => [3, 9, 10, 11, 12, 23, 24]
  | 76, 10 => [0]
  | 76, 12 => [28, 29, 30]
  | 76, 13 => [8, 31, 32, 33]
  | 76, 14 => [34]
  | 76, 15 => [6, 25, 26, 27, 28, 35]
  | 77, 0 => [0, 2]
  | 77, 1 => [5]
  | 77, 3 => [8]
  | 77, 4 => [6, 7, 9, 10, 11, 12, 13, 14, 15, 16]
  | 77, 5 => [1, 17]
  | 77, 6 => [7, 19]
  | 77, 7 => [6, 18, 20, 21, 22, 23, 24, 25, 26, 27]
  | 77, 8 => [1, 28]
  | 77, 9 => [18, 30]
  | 77, 10 => [6, 29, 31, 32, 33, 34, 35, 36, 37, 38]
  | 77, 11 => [1, 39]
  | 77, 12 => [29, 41]
  | 77, 13 => [42]
  | 77, 14 => [43]
  | 77, 15 => [6, 44]
  | 77, 16 => [6, 40, 45, 46]
  | 77, 17 => [1, 47]
  | 77, 2 => [1, 6, 40]
  | 77, 18 => [17, 28, 39, 47]
  | 77, 19 => [48, 49, 50, 51]
  | 77, 21 => [52, 55, 56, 57, 58, 59, 60]
  | 77, 22 => [4, 61]
  | 77, 23 => [1, 3, 62]
  | 77, 20 => [53, 54, 62]
  | 77, 24 => [1, 3, 52]
  | 78, 1 => [5, 6, 7, 8]
  | 78, 2 => [0, 1, 9, 10, 11, 12, 13]
  | 78, 3 => [0, 1, 9, 14]
  | 79, 0 => [1, 2]
  | 79, 1 => [11, 12, 13, 14, 15, 16, 17, 18]
  | 79, 2 => [19, 20, 21, 22]
  | 79, 3 => [0, 4, 5, 23, 24, 25]
  | 79, 4 => [23]
  | 79, 6 => [26, 27, 28, 29]
  | 79, 8 => [30, 33]
  | 79, 9 => [34, 35, 36]
  | 79, 10 => [37, 38, 39]
  | 79, 11 => [9, 37, 40, 41, 42, 43, 44, 45, 46, 47]
  | 79, 12 => [48, 49, 50, 51]
  | 79, 13 => [0, 4, 5, 7, 8, 10, 52, 53]
  | 79, 14 => [10, 52, 54, 55, 56, 57]
  | 79, 7 => [31, 32]
  | 79, 15 => [8, 30, 58, 59]
  | 79, 16 => [0, 4, 5, 7, 60, 61, 62, 63, 64, 65, 66, 67]
  | 79, 17 => [0, 4, 5, 7, 60, 68, 69, 70, 71, 72, 73]
  | 80, 0 => [0, 2]
  | 80, 1 => [1, 3, 4, 5, 6, 7, 8, 9, 10]
  | 81, 0 => [4]
  | 81, 1 => [5]
  | 81, 2 => [6, 7]
  | 81, 3 => [6, 8, 9, 10, 11, 12, 13, 14]
  | 81, 4 => [15]
  | 81, 5 => [1, 16, 17, 18, 19, 20, 21, 22, 23, 24, 25]
  | 81, 6 => [0, 1, 16, 26]
  | 82, 0 => [0]
  | 82, 1 => [5, 6, 7, 8]
  | 82, 2 => [1, 2, 9, 10, 11, 12, 13, 14, 15, 16, 17, 18, 19, 20]
  | 82, 3 => [1, 2, 9, 21, 22, 23, 24, 25, 26, 27, 28, 29]
  | _, _ => []
def ordT : Nat → Nat → List Nat
  | 3, 5 => [0, 1, 2, 4, 5, 6, 3, 7, 8, 9]
  | 5, 8 => [0, 1, 2, 3, 4, 5, 6, 7, 8, 9, 10, 11, 12, 13, 14, 15, 16, 17, 18, 19, 20, 21, 22, 23, 24, 25, 26, 27, 28, 29, 30]
  | 6, 7 => [0, 1, 2, 3, 4, 5, 6, 7, 8, 9, 10, 11, 12, 13, 14, 15, 16, 17, 18, 19, 20, 21]
  | 11, 6 => [0, 2, 3, 4, 9, 1, 5, 6, 7, 8, 10, 11]
  | 11, 7 => [0, 1, 7, 2, 3, 4, 5, 6, 8, 9]
  | 13, 14 => [0, 1, 2, 3, 4, 5, 6, 7, 8, 9, 10, 11, 12, 13, 14, 15, 16, 17, 18, 19, 20, 21]
  | 14, 6 => [0, 1, 2, 8, 3, 4, 5, 6, 7, 9, 10]
  | 14, 7 => [0, 1, 2, 3, 4, 5, 6, 7, 8, 9, 10, 11, 12, 13, 14, 15, 16, 17, 18, 19, 20]
  | 18, 6 => [0, 1, 2, 3, 4, 5, 6, 7, 8, 9, 10, 11]
  | 24, 6 => [0, 1, 2, 3, 4, 5, 6, 7]
  | 32, 5 => [0, 1, 2, 3, 4, 5, 6, 7]
  | 33, 5 => [0, 1, 2, 3, 4, 5, 6, 7, 8, 9, 10, 11]
  | 34, 6 => [0, 1, 2, 3, 4, 5, 6, 7, 8, 9]
  | 46, 7 => [0, 1, 2, 3, 4, 5, 6, 7, 8, 9, 10, 11, 12, 13, 14, 15, 16, 17]
  | 48, 9 => [0, 1, 2, 3, 4, 5, 6, 7, 8, 15, 9, 10, 11, 12, 13, 14, 16, 17]
  | 58, 11 => [0, 1, 2, 3, 4, 5, 6, 7, 8, 9]
  | 58, 15 => [0, 1, 2, 3, 5, 6, 4, 7, 8]
  | 61, 1 => [0, 1, 3, 2, 4, 5]
  | 62, 7 => [0, 1, 2, 3, 4, 5, 6, 7, 8, 10, 11, 9, 12, 13]
  | 62, 11 => [0, 1, 2, 3, 4, 5, 6, 7, 8, 9, 10]
  | 64, 5 => [0, 1, 2, 3, 4, 5, 6, 7, 8, 9, 10, 11]
  | 65, 5 => [0, 1, 2, 3, 4, 5, 6]
  | 79, 11 => [0, 1, 2, 3, 4, 5, 6, 8, 7, 9]
  | _, _ => []
def roT : Nat → Nat → Bool
  | 3, 5 => true
  | 5, 8 => true
  | 6, 7 => true
  | 13, 14 => true
  | 14, 7 => true
  | 18, 6 => true
  | 24, 6 => true
  | 34, 6 => true
  | _, _ => false
noncomputable def C : Cfg := { P := Try.prog, esc := escT, thr := [53], clr := clrT', ord := ordT, ro := roT, ext := extT }
theorem C_P : C.P = Try.prog := rfl
theorem C_thr : C.thr = [53] := rfl
theorem res_3 : Try.f3.results.toList = [.tmp 6] := rfl
theorem esc_3 : C.esc 3 = [] := rfl
theorem clr_3_0 : C.clr 3 0 = [0, 6] := rfl
theorem clr_3_1 : C.clr 3 1 = [15] := rfl
theorem clr_3_2 : C.clr 3 2 = [16, 17] := rfl
theorem clr_3_3 : C.clr 3 3 = [8, 18, 19, 20, 21, 22] := rfl
theorem clr_3_4 : C.clr 3 4 = [1, 2, 3, 7, 23, 24] := rfl
theorem clr_3_5 : C.clr 3 5 = [7, 23, 25, 26, 27, 28, 29, 30, 31, 32, 33] := rfl
theorem ord_3_5 : C.ord 3 5 = [0, 1, 2, 4, 5, 6, 3, 7, 8, 9] := rfl
theorem ro_3_5 : C.ro 3 5 = true := rfl
theorem clr_3_6 : C.clr 3 6 = [34, 35, 36, 37, 38, 39, 40] := rfl
theorem clr_3_7 : C.clr 3 7 = [1, 2, 3, 41, 42, 43, 44, 45, 46, 47] := rfl
theorem clr_3_8 : C.clr 3 8 = [10, 12, 48, 49, 50] := rfl
theorem clr_3_9 : C.clr 3 9 = [9, 11, 13, 14, 51, 52, 53, 54, 55, 56, 57, 58, 59] := rfl
theorem res_4 : Try.f4.results.toList = [.tmp 4] := rfl
theorem esc_4 : C.esc 4 = [] := rfl
theorem clr_4_0 : C.clr 4 0 = [0, 4] := rfl
theorem clr_4_1 : C.clr 4 1 = [11] := rfl
theorem clr_4_2 : C.clr 4 2 = [12, 13] := rfl
theorem clr_4_3 : C.clr 4 3 = [6, 14, 15, 16, 17, 18, 19, 20, 21, 22, 23, 24, 25, 26, 27, 28, 29, 30, 31, 32, 33, 34, 35, 36, 37] := rfl
theorem clr_4_4 : C.clr 4 4 = [1, 2, 5, 38, 39] := rfl
theorem clr_4_5 : C.clr 4 5 = [5, 38, 40, 41, 42, 43, 44] := rfl
theorem clr_4_6 : C.clr 4 6 = [45, 46, 47] := rfl
theorem clr_4_7 : C.clr 4 7 = [1, 48, 49, 50, 51, 52, 53] := rfl
theorem clr_4_8 : C.clr 4 8 = [10, 54, 55, 56, 57, 58, 59, 60, 61, 62, 63, 64, 65, 66] := rfl
theorem clr_4_9 : C.clr 4 9 = [2, 7, 8, 9, 67] := rfl
theorem clr_4_10 : C.clr 4 10 = [8, 67, 68, 69, 70, 71] := rfl
theorem clr_4_11 : C.clr 4 11 = [9, 72, 73, 74, 75] := rfl
theorem clr_4_12 : C.clr 4 12 = [2, 7, 76, 77, 78, 79, 80, 81, 82] := rfl
theorem res_5 : Try.f5.results.toList = [.tmp 8] := rfl
theorem esc_5 : C.esc 5 = [] := rfl
theorem clr_5_0 : C.clr 5 0 = [0, 8] := rfl
theorem clr_5_1 : C.clr 5 1 = [15] := rfl
theorem clr_5_2 : C.clr 5 2 = [16, 17] := rfl
theorem clr_5_3 : C.clr 5 3 = [10, 18, 19, 20, 21, 22, 23, 24, 25, 26, 27, 28, 29, 30, 31, 32, 33, 34, 35, 36, 37, 38, 39, 40, 41, 42, 43, 44, 45, 46, 47, 48, 49, 50, 51] := rfl
theorem clr_5_4 : C.clr 5 4 = [1, 2, 3, 4, 9, 52, 53] := rfl
theorem clr_5_5 : C.clr 5 5 = [9, 52, 54, 55, 56, 57] := rfl
theorem clr_5_6 : C.clr 5 6 = [58, 59, 60, 61, 62, 63, 64] := rfl
theorem clr_5_7 : C.clr 5 7 = [65, 66, 67, 68] := rfl
theorem clr_5_8 : C.clr 5 8 = [1, 2, 3, 4, 11, 12, 13, 14, 69, 70, 71, 72, 73, 74, 75, 76, 77, 78, 79, 80, 81, 82, 83, 84, 85, 86, 87, 88, 89, 90, 91, 92, 93, 94, 95, 96, 97, 98] := rfl
theorem ord_5_8 : C.ord 5 8 = [0, 1, 2, 3, 4, 5, 6, 7, 8, 9, 10, 11, 12, 13, 14, 15, 16, 17, 18, 19, 20, 21, 22, 23, 24, 25, 26, 27, 28, 29, 30] := rfl
theorem ro_5_8 : C.ro 5 8 = true := rfl
theorem res_6 : Try.f6.results.toList = [.tmp 6] := rfl
theorem esc_6 : C.esc 6 = [] := rfl
theorem clr_6_0 : C.clr 6 0 = [0, 6] := rfl
theorem clr_6_1 : C.clr 6 1 = [11] := rfl
theorem clr_6_2 : C.clr 6 2 = [12, 13] := rfl
theorem clr_6_3 : C.clr 6 3 = [8, 14, 15, 16, 17, 18, 19, 20, 21, 22, 23, 24, 25, 26, 27, 28, 29, 30, 31, 32, 33, 34, 35, 36, 37, 38, 39] := rfl
theorem clr_6_4 : C.clr 6 4 = [1, 2, 3, 7, 40, 41] := rfl
theorem clr_6_5 : C.clr 6 5 = [7, 40, 42, 43, 44] := rfl
theorem clr_6_6 : C.clr 6 6 = [9, 45, 46, 47, 48] := rfl
theorem clr_6_7 : C.clr 6 7 = [1, 2, 3, 10, 49, 50, 51, 52, 53, 54, 55, 56, 57, 58, 59, 60, 61, 62, 63, 64, 65, 66, 67, 68, 69] := rfl
theorem ord_6_7 : C.ord 6 7 = [0, 1, 2, 3, 4, 5, 6, 7, 8, 9, 10, 11, 12, 13, 14, 15, 16, 17, 18, 19, 20, 21] := rfl
theorem ro_6_7 : C.ro 6 7 = true := rfl
theorem res_7 : Try.f7.results.toList = [.tmp 8] := rfl
theorem esc_7 : C.esc 7 = [] := rfl
theorem clr_7_0 : C.clr 7 0 = [0, 8] := rfl
theorem clr_7_1 : C.clr 7 1 = [17] := rfl
theorem clr_7_2 : C.clr 7 2 = [18, 19] := rfl
theorem clr_7_3 : C.clr 7 3 = [10, 20, 21, 22, 23, 24, 25, 26, 27, 28, 29, 30, 31, 32, 33, 34, 35, 36, 37, 38, 39, 40, 41, 42, 43, 44, 45, 46, 47, 48, 49, 50, 51, 52, 53, 54, 55, 56] := rfl
theorem clr_7_4 : C.clr 7 4 = [1, 2, 3, 4, 9, 57, 58] := rfl
theorem clr_7_5 : C.clr 7 5 = [9, 57, 59, 60, 61, 62] := rfl
theorem clr_7_6 : C.clr 7 6 = [63, 64, 65, 66, 67, 68, 69] := rfl
theorem clr_7_7 : C.clr 7 7 = [70, 71, 72, 73, 74, 75, 76] := rfl
theorem clr_7_8 : C.clr 7 8 = [77, 78, 79] := rfl
theorem clr_7_9 : C.clr 7 9 = [80, 81] := rfl
theorem clr_7_10 : C.clr 7 10 = [2, 82, 83] := rfl
theorem clr_7_11 : C.clr 7 11 = [1, 2, 3, 4, 11, 12, 13, 14, 15, 16, 82, 84, 85, 86, 87, 88, 89, 90, 91, 92, 93, 94, 95, 96, 97, 98, 99, 100, 101, 102, 103, 104, 105] := rfl
theorem res_8 : Try.f8.results.toList = [.tmp 6] := rfl
theorem esc_8 : C.esc 8 = [] := rfl
theorem clr_8_0 : C.clr 8 0 = [0, 6] := rfl
theorem clr_8_1 : C.clr 8 1 = [12] := rfl
theorem clr_8_2 : C.clr 8 2 = [13, 14] := rfl
theorem clr_8_3 : C.clr 8 3 = [8, 15, 16, 17, 18, 19, 20, 21, 22, 23, 24, 25, 26, 27, 28, 29, 30, 31, 32, 33, 34, 35, 36, 37, 38, 39, 40, 41, 42, 43, 44, 45, 46] := rfl
theorem clr_8_4 : C.clr 8 4 = [1, 2, 3, 7, 47, 48] := rfl
theorem clr_8_5 : C.clr 8 5 = [7, 47, 49, 50, 51, 52] := rfl
theorem clr_8_6 : C.clr 8 6 = [1, 2, 53, 54, 55, 56, 57, 58, 59] := rfl
theorem clr_8_7 : C.clr 8 7 = [3, 9, 10, 11, 60, 61, 62, 63, 64, 65, 66, 67, 68, 69, 70] := rfl
theorem res_9 : Try.f9.results.toList = [.tmp 8] := rfl
theorem esc_9 : C.esc 9 = [] := rfl
theorem clr_9_0 : C.clr 9 0 = [0, 8] := rfl
theorem clr_9_1 : C.clr 9 1 = [15] := rfl
theorem clr_9_2 : C.clr 9 2 = [16, 17] := rfl
theorem clr_9_3 : C.clr 9 3 = [18, 19] := rfl
theorem clr_9_4 : C.clr 9 4 = [10, 11, 20, 21, 22, 23, 24, 25, 26, 27, 28, 29, 30, 31, 32, 33, 34, 35, 36, 37, 38, 39, 40, 41, 42, 43, 44, 45, 46, 47, 48, 49, 50, 51, 52, 53, 54, 55, 56, 57, 58, 59, 60, 61, 62, 63, 64] := rfl
theorem clr_9_5 : C.clr 9 5 = [1, 2, 3, 4, 9, 65, 66] := rfl
theorem clr_9_6 : C.clr 9 6 = [9, 65] := rfl
theorem clr_9_7 : C.clr 9 7 = [67, 68, 69] := rfl
theorem clr_9_9 : C.clr 9 9 = [70, 73, 74, 75, 76, 77, 78, 79, 80, 81, 82, 83, 84, 85, 86] := rfl
theorem clr_9_10 : C.clr 9 10 = [1, 2, 3, 4, 12, 87] := rfl
theorem clr_9_8 : C.clr 9 8 = [71, 72, 87] := rfl
theorem clr_9_11 : C.clr 9 11 = [1, 2, 4, 12, 70, 88, 89, 90, 91, 92, 93, 94, 95, 96, 97] := rfl
theorem clr_9_12 : C.clr 9 12 = [3, 13, 14, 98, 99, 100, 101, 102, 103, 104] := rfl
theorem res_10 : Try.f10.results.toList = [.tmp 6] := rfl
theorem esc_10 : C.esc 10 = [] := rfl
theorem clr_10_0 : C.clr 10 0 = [0, 6] := rfl
theorem clr_10_1 : C.clr 10 1 = [21] := rfl
theorem clr_10_2 : C.clr 10 2 = [22, 23] := rfl
theorem clr_10_3 : C.clr 10 3 = [24, 25] := rfl
theorem clr_10_4 : C.clr 10 4 = [8, 9, 26, 27, 28, 29, 30, 31, 32, 33, 34] := rfl
theorem clr_10_5 : C.clr 10 5 = [1, 2, 3, 7, 35, 36] := rfl
theorem clr_10_6 : C.clr 10 6 = [7, 35, 37, 38, 39, 40, 41, 42] := rfl
theorem clr_10_7 : C.clr 10 7 = [3, 43, 44, 45, 46, 47, 48] := rfl
theorem clr_10_8 : C.clr 10 8 = [10, 12, 49, 50, 51] := rfl
theorem clr_10_9 : C.clr 10 9 = [52, 53, 54] := rfl
theorem clr_10_10 : C.clr 10 10 = [1, 55, 56, 57] := rfl
theorem clr_10_11 : C.clr 10 11 = [58, 59, 60, 61, 62] := rfl
theorem clr_10_12 : C.clr 10 12 = [63, 64] := rfl
theorem clr_10_13 : C.clr 10 13 = [2, 65, 66] := rfl
theorem clr_10_14 : C.clr 10 14 = [67, 68, 69, 70, 71] := rfl
theorem clr_10_15 : C.clr 10 15 = [11, 13, 14, 15, 16, 17, 18, 19, 20, 72, 73, 74, 75, 76, 77, 78, 79, 80, 81, 82, 83, 84, 85, 86, 87, 88, 89, 90, 91, 92, 93, 94, 95, 96, 97] := rfl
theorem res_11 : Try.f11.results.toList = [.tmp 6] := rfl
theorem esc_11 : C.esc 11 = [] := rfl
theorem clr_11_0 : C.clr 11 0 = [0, 1, 6] := rfl
theorem clr_11_1 : C.clr 11 1 = [14] := rfl
theorem clr_11_2 : C.clr 11 2 = [15, 16] := rfl
theorem clr_11_3 : C.clr 11 3 = [17, 18] := rfl
theorem clr_11_4 : C.clr 11 4 = [8, 9, 19, 20, 21, 22, 23, 24, 25, 26, 27, 28, 29, 30, 31, 32, 33, 34, 35, 36, 37, 38, 39, 40, 41, 42, 43, 44, 45] := rfl
theorem clr_11_5 : C.clr 11 5 = [2, 3, 4, 7, 46, 47] := rfl
theorem clr_11_6 : C.clr 11 6 = [4, 7, 46, 48, 49, 50, 51, 52, 53, 54, 55, 56] := rfl
theorem ord_11_6 : C.ord 11 6 = [0, 2, 3, 4, 9, 1, 5, 6, 7, 8, 10, 11] := rfl
theorem ro_11_6 : C.ro 11 6 = false := rfl
theorem clr_11_7 : C.clr 11 7 = [2, 57, 58, 59, 60, 61, 62, 63] := rfl
theorem ord_11_7 : C.ord 11 7 = [0, 1, 7, 2, 3, 4, 5, 6, 8, 9] := rfl
theorem ro_11_7 : C.ro 11 7 = false := rfl
theorem clr_11_8 : C.clr 11 8 = [3, 10, 11, 12, 13, 64, 65, 66, 67, 68, 69, 70, 71, 72, 73, 74, 75, 76, 77, 78, 79] := rfl
theorem res_12 : Try.f12.results.toList = [.tmp 6] := rfl
theorem esc_12 : C.esc 12 = [] := rfl
theorem clr_12_0 : C.clr 12 0 = [0, 1, 2, 6] := rfl
theorem clr_12_1 : C.clr 12 1 = [20] := rfl
theorem clr_12_2 : C.clr 12 2 = [21, 22] := rfl
theorem clr_12_3 : C.clr 12 3 = [23, 24] := rfl
theorem clr_12_4 : C.clr 12 4 = [25, 26] := rfl
theorem clr_12_5 : C.clr 12 5 = [8, 9, 10, 27, 28, 29, 30, 31, 32, 33, 34, 35, 36, 37, 38, 39, 40, 41, 42, 43, 44, 45, 46, 47, 48, 49, 50, 51, 52, 53, 54] := rfl
theorem clr_12_6 : C.clr 12 6 = [3, 4, 5, 7, 55, 56] := rfl
theorem clr_12_7 : C.clr 12 7 = [7, 55, 57, 58, 59, 60, 61, 62, 63, 64] := rfl
theorem clr_12_8 : C.clr 12 8 = [11, 65, 66, 67, 68, 69, 70, 71, 72] := rfl
theorem clr_12_9 : C.clr 12 9 = [4, 73, 74, 75, 76, 77, 78, 79, 80] := rfl
theorem clr_12_10 : C.clr 12 10 = [3, 5, 15, 81, 82, 83, 84, 85, 86, 87, 88, 89] := rfl
theorem clr_12_11 : C.clr 12 11 = [12, 14, 16, 18, 90, 91, 92, 93, 94, 95, 96, 97, 98, 99, 100, 101, 102] := rfl
theorem clr_12_12 : C.clr 12 12 = [13, 17, 103] := rfl
theorem clr_12_13 : C.clr 12 13 = [103, 104, 105] := rfl
theorem clr_12_14 : C.clr 12 14 = [13, 17, 19, 106, 107, 108, 109, 110, 111] := rfl
theorem res_13 : Try.f13.results.toList = [.tmp 6] := rfl
theorem esc_13 : C.esc 13 = [] := rfl
theorem clr_13_0 : C.clr 13 0 = [6] := rfl
theorem clr_13_1 : C.clr 13 1 = [17] := rfl
theorem clr_13_2 : C.clr 13 2 = [18, 19] := rfl
theorem clr_13_3 : C.clr 13 3 = [8, 20, 21, 22, 23, 24, 25, 26, 27, 28, 29, 30, 31, 32, 33, 34, 35, 36, 37, 38, 39, 40] := rfl
theorem clr_13_4 : C.clr 13 4 = [0, 1, 2, 7, 41, 42] := rfl
theorem clr_13_5 : C.clr 13 5 = [7, 41] := rfl
theorem clr_13_6 : C.clr 13 6 = [43, 44, 45] := rfl
theorem clr_13_8 : C.clr 13 8 = [46, 49, 50, 51, 52, 53] := rfl
theorem clr_13_9 : C.clr 13 9 = [0, 1, 2, 9, 54] := rfl
theorem clr_13_7 : C.clr 13 7 = [47, 48, 54] := rfl
theorem clr_13_10 : C.clr 13 10 = [0, 1, 9, 46, 55, 56, 57] := rfl
theorem clr_13_11 : C.clr 13 11 = [58, 59, 60, 61, 62, 63, 64] := rfl
theorem clr_13_12 : C.clr 13 12 = [65, 66, 67, 68, 69, 70, 71, 72, 73] := rfl
theorem clr_13_13 : C.clr 13 13 = [2, 10, 74, 75, 76, 77, 78, 79, 80] := rfl
theorem clr_13_14 : C.clr 13 14 = [11, 12, 13, 14, 15, 16, 81, 82, 83, 84, 85, 86, 87, 88, 89, 90, 91, 92, 93, 94, 95, 96, 97, 98, 99, 100, 101] := rfl
theorem ord_13_14 : C.ord 13 14 = [0, 1, 2, 3, 4, 5, 6, 7, 8, 9, 10, 11, 12, 13, 14, 15, 16, 17, 18, 19, 20, 21] := rfl
theorem ro_13_14 : C.ro 13 14 = true := rfl
theorem res_14 : Try.f14.results.toList = [.tmp 4] := rfl
theorem esc_14 : C.esc 14 = [] := rfl
theorem clr_14_0 : C.clr 14 0 = [0, 4] := rfl
theorem clr_14_1 : C.clr 14 1 = [11] := rfl
theorem clr_14_2 : C.clr 14 2 = [12, 13] := rfl
theorem clr_14_3 : C.clr 14 3 = [6, 14, 15, 16, 17, 18, 19, 20, 21, 22, 23, 24, 25, 26, 27, 28, 29, 30, 31] := rfl
theorem clr_14_4 : C.clr 14 4 = [1, 2, 5, 32, 33] := rfl
theorem clr_14_5 : C.clr 14 5 = [5, 32, 34, 35, 36, 37, 38, 39, 40] := rfl
theorem clr_14_6 : C.clr 14 6 = [41, 42, 43, 44, 45, 46, 47, 48] := rfl
theorem ord_14_6 : C.ord 14 6 = [0, 1, 2, 8, 3, 4, 5, 6, 7, 9, 10] := rfl
theorem ro_14_6 : C.ro 14 6 = false := rfl
theorem clr_14_7 : C.clr 14 7 = [1, 2, 7, 8, 9, 10, 49, 50, 51, 52, 53, 54, 55, 56, 57, 58, 59, 60, 61, 62, 63, 64, 65, 66, 67, 68] := rfl
theorem ord_14_7 : C.ord 14 7 = [0, 1, 2, 3, 4, 5, 6, 7, 8, 9, 10, 11, 12, 13, 14, 15, 16, 17, 18, 19, 20] := rfl
theorem ro_14_7 : C.ro 14 7 = true := rfl
theorem res_15 : Try.f15.results.toList = [.tmp 6] := rfl
theorem esc_15 : C.esc 15 = [] := rfl
theorem clr_15_0 : C.clr 15 0 = [0, 1, 2, 6] := rfl
theorem clr_15_1 : C.clr 15 1 = [20] := rfl
theorem clr_15_2 : C.clr 15 2 = [21, 22] := rfl
theorem clr_15_3 : C.clr 15 3 = [23, 24] := rfl
theorem clr_15_4 : C.clr 15 4 = [25, 26] := rfl
theorem clr_15_5 : C.clr 15 5 = [8, 9, 10, 27, 28, 29, 30, 31, 32, 33, 34, 35, 36, 37, 38, 39, 40, 41, 42, 43, 44, 45, 46, 47, 48, 49, 50, 51, 52, 53, 54] := rfl
theorem clr_15_6 : C.clr 15 6 = [3, 4, 5, 7, 55, 56] := rfl
theorem clr_15_7 : C.clr 15 7 = [7, 55, 57, 58, 59] := rfl
theorem clr_15_8 : C.clr 15 8 = [60, 61, 62, 63, 64, 65, 66] := rfl
theorem clr_15_9 : C.clr 15 9 = [3, 67, 68, 69, 70, 71, 72, 73, 74] := rfl
theorem clr_15_10 : C.clr 15 10 = [12, 15, 75, 76, 77, 78, 79, 80, 81, 82] := rfl
theorem clr_15_11 : C.clr 15 11 = [4, 5, 11, 13, 14, 83] := rfl
theorem clr_15_12 : C.clr 15 12 = [4, 11, 83, 84, 85, 86, 87, 88, 89, 90, 91] := rfl
theorem clr_15_13 : C.clr 15 13 = [5, 14, 92, 93, 94, 95, 96, 97, 98] := rfl
theorem clr_15_14 : C.clr 15 14 = [13, 16, 17, 18, 19, 99, 100, 101, 102, 103, 104, 105, 106, 107, 108, 109, 110, 111, 112, 113, 114] := rfl
theorem res_16 : Try.f16.results.toList = [.tmp 0] := rfl
theorem esc_16 : C.esc 16 = [] := rfl
theorem clr_16_0 : C.clr 16 0 = [0] := rfl
theorem clr_16_1 : C.clr 16 1 = [6, 7, 8] := rfl
theorem clr_16_2 : C.clr 16 2 = [9, 10] := rfl
theorem clr_16_3 : C.clr 16 3 = [11, 12] := rfl
theorem clr_16_4 : C.clr 16 4 = [1, 4, 13, 14, 15, 16, 17] := rfl
theorem clr_16_5 : C.clr 16 5 = [2, 3, 5, 18, 19, 20, 21, 22, 23, 24, 25, 26, 27, 28, 29, 30, 31, 32, 33, 34, 35, 36, 37, 38, 39, 40, 41, 42, 43, 44, 45, 46, 47] := rfl
theorem res_17 : Try.f17.results.toList = [.tmp 6] := rfl
theorem esc_17 : C.esc 17 = [] := rfl
theorem clr_17_0 : C.clr 17 0 = [0, 6] := rfl
theorem clr_17_1 : C.clr 17 1 = [8, 9] := rfl
theorem clr_17_2 : C.clr 17 2 = [1, 2, 3, 7, 10, 11, 12, 13, 14, 15, 16, 17, 18, 19, 20, 21, 22] := rfl
theorem res_18 : Try.f18.results.toList = [.tmp 4] := rfl
theorem esc_18 : C.esc 18 = [] := rfl
theorem clr_18_0 : C.clr 18 0 = [0, 1, 4] := rfl
theorem clr_18_1 : C.clr 18 1 = [7, 8, 9, 10, 11, 12, 13, 14, 15, 16, 17, 18, 19, 20, 21, 22, 23, 24, 25, 26] := rfl
theorem clr_18_2 : C.clr 18 2 = [2, 3, 27] := rfl
theorem clr_18_3 : C.clr 18 3 = [27] := rfl
theorem clr_18_4 : C.clr 18 4 = [28, 29, 30, 31] := rfl
theorem clr_18_6 : C.clr 18 6 = [32, 35, 36, 37, 38, 39, 40, 41, 42, 43, 44, 45] := rfl
theorem ord_18_6 : C.ord 18 6 = [0, 1, 2, 3, 4, 5, 6, 7, 8, 9, 10, 11] := rfl
theorem ro_18_6 : C.ro 18 6 = true := rfl
theorem clr_18_7 : C.clr 18 7 = [6, 46] := rfl
theorem clr_18_8 : C.clr 18 8 = [2, 3, 5, 47] := rfl
theorem clr_18_5 : C.clr 18 5 = [33, 34, 47] := rfl
theorem clr_18_9 : C.clr 18 9 = [2, 3, 5, 32] := rfl
theorem res_19 : Try.f19.results.toList = [.cell 6 24] := rfl
theorem esc_19 : C.esc 19 = [] := rfl
theorem clr_19_0 : C.clr 19 0 = [0] := rfl
theorem clr_19_1 : C.clr 19 1 = [9, 10, 11, 12] := rfl
theorem clr_19_2 : C.clr 19 2 = [1, 2, 3, 13, 14, 15] := rfl
theorem clr_19_3 : C.clr 19 3 = [1, 2, 3, 8, 13, 16, 17, 18, 19, 20, 21, 22, 23, 24] := rfl
theorem clr_19_4 : C.clr 19 4 = [7, 25] := rfl
theorem res_20 : Try.f20.results.toList = [.cell 6 24] := rfl
theorem esc_20 : C.esc 20 = [] := rfl
theorem clr_20_0 : C.clr 20 0 = [0] := rfl
theorem clr_20_1 : C.clr 20 1 = [8, 9, 10, 11] := rfl
theorem clr_20_2 : C.clr 20 2 = [7, 12] := rfl
theorem clr_20_3 : C.clr 20 3 = [1, 2, 3, 13, 14, 15] := rfl
theorem clr_20_4 : C.clr 20 4 = [1, 2, 3, 13, 16, 17, 18, 19] := rfl
theorem res_21 : Try.f21.results.toList = [.cell 6 24, .tmp 7] := rfl
theorem esc_21 : C.esc 21 = [] := rfl
theorem clr_21_0 : C.clr 21 0 = [0, 7] := rfl
theorem clr_21_1 : C.clr 21 1 = [8, 9, 10, 11] := rfl
theorem clr_21_2 : C.clr 21 2 = [1, 2, 3, 12, 13] := rfl
theorem clr_21_3 : C.clr 21 3 = [1, 2, 3, 12, 14, 15, 16, 17, 18, 19, 20, 21] := rfl
theorem res_22 : Try.f22.results.toList = [.cell 6 24, .tmp 7] := rfl
theorem esc_22 : C.esc 22 = [] := rfl
theorem clr_22_0 : C.clr 22 0 = [0, 7] := rfl
theorem clr_22_1 : C.clr 22 1 = [11, 12, 13, 14] := rfl
theorem clr_22_2 : C.clr 22 2 = [8, 15] := rfl
theorem clr_22_3 : C.clr 22 3 = [1, 2, 3, 16, 17] := rfl
theorem clr_22_4 : C.clr 22 4 = [1, 2, 3, 16, 18, 19, 20, 21, 22, 23, 24] := rfl
theorem clr_22_5 : C.clr 22 5 = [9, 10, 25, 26] := rfl
theorem res_23 : Try.f23.results.toList = [.tmp 2] := rfl
theorem esc_23 : C.esc 23 = [] := rfl
theorem clr_23_0 : C.clr 23 0 = [0, 2] := rfl
theorem clr_23_1 : C.clr 23 1 = [1, 3, 4, 5, 6, 7, 8, 9, 10, 11, 12, 13, 14] := rfl
theorem res_24 : Try.f24.results.toList = [.tmp 4] := rfl
theorem esc_24 : C.esc 24 = [] := rfl
theorem clr_24_0 : C.clr 24 0 = [0, 1, 4] := rfl
theorem clr_24_1 : C.clr 24 1 = [7, 8, 9, 10, 11, 12, 13, 14, 15, 16, 17, 18, 19, 20, 21, 22, 23, 24, 25, 26] := rfl
theorem clr_24_2 : C.clr 24 2 = [2, 3, 27] := rfl
theorem clr_24_3 : C.clr 24 3 = [2, 27, 28] := rfl
theorem clr_24_4 : C.clr 24 4 = [] := rfl
theorem clr_24_5 : C.clr 24 5 = [32, 33, 34, 35] := rfl
theorem clr_24_6 : C.clr 24 6 = [5, 6, 36, 37, 38, 39, 40, 41, 42] := rfl
theorem ord_24_6 : C.ord 24 6 = [0, 1, 2, 3, 4, 5, 6, 7] := rfl
theorem ro_24_6 : C.ro 24 6 = true := rfl
theorem clr_24_7 : C.clr 24 7 = [3, 29, 30, 31, 43] := rfl
theorem clr_24_8 : C.clr 24 8 = [43, 44] := rfl
theorem clr_24_9 : C.clr 24 9 = [3, 29, 30, 31, 32] := rfl
theorem res_25 : Try.f25.results.toList = [.tmp 2] := rfl
theorem esc_25 : C.esc 25 = [3] := rfl
theorem clr_25_0 : C.clr 25 0 = [0] := rfl
theorem clr_25_1 : C.clr 25 1 = [] := rfl
theorem clr_25_2 : C.clr 25 2 = [1, 4] := rfl
theorem clr_25_3 : C.clr 25 3 = [2, 3, 5, 6, 7, 8, 9] := rfl
theorem clr_25_4 : C.clr 25 4 = [3, 5, 10] := rfl
theorem res_26 : Try.f26.results.toList = [.tmp 6] := rfl
theorem esc_26 : C.esc 26 = [4, 5] := rfl
theorem clr_26_0 : C.clr 26 0 = [0, 1, 2, 6] := rfl
theorem clr_26_1 : C.clr 26 1 = [3, 4, 5, 7, 8, 9] := rfl
theorem res_27 : Try.f27.results.toList = [.tmp 0] := rfl
theorem esc_27 : C.esc 27 = [] := rfl
theorem clr_27_0 : C.clr 27 0 = [0] := rfl
theorem clr_27_1 : C.clr 27 1 = [5, 6, 7] := rfl
theorem clr_27_2 : C.clr 27 2 = [8, 9, 10] := rfl
theorem clr_27_3 : C.clr 27 3 = [1, 2, 11, 12, 13, 14, 15, 16, 17, 18] := rfl
theorem clr_27_4 : C.clr 27 4 = [3, 4, 19, 20, 21, 22, 23, 24, 25, 26, 27, 28, 29, 30, 31, 32, 33, 34, 35, 36] := rfl
theorem res_28 : Try.f28.results.toList = [.tmp 6] := rfl
theorem esc_28 : C.esc 28 = [] := rfl
theorem clr_28_0 : C.clr 28 0 = [6] := rfl
theorem clr_28_1 : C.clr 28 1 = [9, 10] := rfl
theorem clr_28_2 : C.clr 28 2 = [0, 1, 2, 11] := rfl
theorem clr_28_3 : C.clr 28 3 = [11] := rfl
theorem clr_28_4 : C.clr 28 4 = [12, 13, 14] := rfl
theorem clr_28_6 : C.clr 28 6 = [15, 18, 19, 20, 21, 22, 23, 24] := rfl
theorem clr_28_7 : C.clr 28 7 = [8, 25] := rfl
theorem clr_28_8 : C.clr 28 8 = [0, 1, 2, 7, 26] := rfl
theorem clr_28_5 : C.clr 28 5 = [16, 17, 26] := rfl
theorem clr_28_9 : C.clr 28 9 = [0, 1, 2, 7, 15] := rfl
theorem res_29 : Try.f29.results.toList = [.cell 4 24, .tmp 5] := rfl
theorem esc_29 : C.esc 29 = [2, 3] := rfl
theorem clr_29_0 : C.clr 29 0 = [0, 1, 5] := rfl
theorem clr_29_1 : C.clr 29 1 = [6, 7, 8, 9, 10, 11, 12] := rfl
theorem clr_29_2 : C.clr 29 2 = [2, 3, 13, 14] := rfl
theorem clr_29_3 : C.clr 29 3 = [2, 3, 13, 15, 16, 17, 18] := rfl
theorem res_30 : Try.f30.results.toList = [.cell 4 24, .tmp 5] := rfl
theorem esc_30 : C.esc 30 = [2, 3] := rfl
theorem clr_30_0 : C.clr 30 0 = [0, 1, 5] := rfl
theorem clr_30_1 : C.clr 30 1 = [] := rfl
theorem clr_30_2 : C.clr 30 2 = [6, 7, 8, 9, 10, 11, 12, 13] := rfl
theorem clr_30_3 : C.clr 30 3 = [2, 3, 14, 15] := rfl
theorem clr_30_4 : C.clr 30 4 = [2, 3, 14, 16, 17, 18, 19] := rfl
theorem res_31 : Try.f31.results.toList = [.cell 4 24, .tmp 5] := rfl
theorem esc_31 : C.esc 31 = [33] := rfl
theorem clr_31_0 : C.clr 31 0 = [0, 5] := rfl
theorem clr_31_1 : C.clr 31 1 = [13, 14] := rfl
theorem clr_31_2 : C.clr 31 2 = [6, 15] := rfl
theorem clr_31_3 : C.clr 31 3 = [1, 2, 16, 17] := rfl
theorem clr_31_4 : C.clr 31 4 = [16] := rfl
theorem clr_31_5 : C.clr 31 5 = [18, 19, 20] := rfl
theorem clr_31_7 : C.clr 31 7 = [21, 24, 25, 26, 27, 28] := rfl
theorem clr_31_8 : C.clr 31 8 = [8, 29] := rfl
theorem clr_31_9 : C.clr 31 9 = [1, 2, 7, 30, 31] := rfl
theorem clr_31_6 : C.clr 31 6 = [22, 23, 30] := rfl
theorem clr_31_10 : C.clr 31 10 = [7, 21, 32] := rfl
theorem clr_31_11 : C.clr 31 11 = [1, 2, 34, 35, 36, 37] := rfl
theorem clr_31_12 : C.clr 31 12 = [9, 10, 33, 38, 39, 40, 41, 42, 43] := rfl
theorem clr_31_13 : C.clr 31 13 = [11, 12, 44, 45] := rfl
theorem res_32 : Try.f32.results.toList = [.cell 2 40] := rfl
theorem esc_32 : C.esc 32 = [] := rfl
theorem clr_32_0 : C.clr 32 0 = [0] := rfl
theorem clr_32_1 : C.clr 32 1 = [6, 7, 8, 9] := rfl
theorem clr_32_2 : C.clr 32 2 = [1, 10] := rfl
theorem clr_32_3 : C.clr 32 3 = [] := rfl
theorem clr_32_4 : C.clr 32 4 = [14, 15, 16] := rfl
theorem clr_32_5 : C.clr 32 5 = [5, 17, 18, 19, 20, 21, 22, 23] := rfl
theorem ord_32_5 : C.ord 32 5 = [0, 1, 2, 3, 4, 5, 6, 7] := rfl
theorem ro_32_5 : C.ro 32 5 = false := rfl
theorem clr_32_6 : C.clr 32 6 = [24] := rfl
theorem clr_32_7 : C.clr 32 7 = [11, 12, 13, 14, 25, 26, 27, 28, 29, 30] := rfl
theorem clr_32_8 : C.clr 32 8 = [3, 31] := rfl
theorem res_33 : Try.f33.results.toList = [.cell 2 40] := rfl
theorem esc_33 : C.esc 33 = [] := rfl
theorem clr_33_0 : C.clr 33 0 = [0] := rfl
theorem clr_33_1 : C.clr 33 1 = [5, 6, 7, 8] := rfl
theorem clr_33_2 : C.clr 33 2 = [] := rfl
theorem clr_33_3 : C.clr 33 3 = [9, 10, 11, 12] := rfl
theorem clr_33_5 : C.clr 33 5 = [13, 16, 17, 18, 19, 20, 21, 22, 23, 24, 25, 26] := rfl
theorem ord_33_5 : C.ord 33 5 = [0, 1, 2, 3, 4, 5, 6, 7, 8, 9, 10, 11] := rfl
theorem ro_33_5 : C.ro 33 5 = false := rfl
theorem clr_33_4 : C.clr 33 4 = [14, 15] := rfl
theorem clr_33_6 : C.clr 33 6 = [1, 4, 13, 27, 28, 29, 30, 31, 32] := rfl
theorem clr_33_7 : C.clr 33 7 = [3, 33] := rfl
theorem res_34 : Try.f34.results.toList = [.tmp 4] := rfl
theorem esc_34 : C.esc 34 = [] := rfl
theorem clr_34_0 : C.clr 34 0 = [4] := rfl
theorem clr_34_1 : C.clr 34 1 = [7, 8, 9, 10] := rfl
theorem clr_34_2 : C.clr 34 2 = [0, 1, 11] := rfl
theorem clr_34_3 : C.clr 34 3 = [11] := rfl
theorem clr_34_4 : C.clr 34 4 = [12, 13, 14] := rfl
theorem clr_34_6 : C.clr 34 6 = [15, 18, 19, 20, 21, 22, 23, 24, 25, 26] := rfl
theorem ord_34_6 : C.ord 34 6 = [0, 1, 2, 3, 4, 5, 6, 7, 8, 9] := rfl
theorem ro_34_6 : C.ro 34 6 = true := rfl
theorem clr_34_7 : C.clr 34 7 = [6, 27] := rfl
theorem clr_34_8 : C.clr 34 8 = [0, 1, 5, 28] := rfl
theorem clr_34_5 : C.clr 34 5 = [16, 17, 28] := rfl
theorem clr_34_9 : C.clr 34 9 = [0, 1, 5, 15] := rfl
theorem res_35 : Try.f35.results.toList = [.cell 2 40] := rfl
theorem esc_35 : C.esc 35 = [] := rfl
theorem clr_35_0 : C.clr 35 0 = [] := rfl
theorem clr_35_1 : C.clr 35 1 = [5, 6, 7] := rfl
theorem clr_35_2 : C.clr 35 2 = [8, 9] := rfl
theorem clr_35_3 : C.clr 35 3 = [] := rfl
theorem clr_35_4 : C.clr 35 4 = [] := rfl
theorem clr_35_5 : C.clr 35 5 = [12, 13] := rfl
theorem clr_35_6 : C.clr 35 6 = [4, 14, 15, 16, 17, 18, 19, 20, 21, 22, 23] := rfl
theorem clr_35_7 : C.clr 35 7 = [24] := rfl
theorem clr_35_8 : C.clr 35 8 = [0, 3, 10, 11, 12, 25] := rfl
theorem res_36 : Try.f36.results.toList = [.cell 2 40] := rfl
theorem esc_36 : C.esc 36 = [] := rfl
theorem clr_36_0 : C.clr 36 0 = [] := rfl
theorem clr_36_1 : C.clr 36 1 = [5] := rfl
theorem clr_36_2 : C.clr 36 2 = [6] := rfl
theorem clr_36_3 : C.clr 36 3 = [6, 7] := rfl
theorem clr_36_4 : C.clr 36 4 = [8] := rfl
theorem clr_36_5 : C.clr 36 5 = [8, 9, 10] := rfl
theorem clr_36_6 : C.clr 36 6 = [0, 11, 12] := rfl
theorem clr_36_7 : C.clr 36 7 = [13] := rfl
theorem clr_36_9 : C.clr 36 9 = [14, 17, 18, 19, 20, 21, 22, 23] := rfl
theorem clr_36_8 : C.clr 36 8 = [15, 16] := rfl
theorem clr_36_10 : C.clr 36 10 = [3, 4, 14, 24] := rfl
theorem res_37 : Try.f37.results.toList = [.tmp 2] := rfl
theorem esc_37 : C.esc 37 = [] := rfl
theorem clr_37_0 : C.clr 37 0 = [0, 2] := rfl
theorem clr_37_1 : C.clr 37 1 = [5, 6, 7, 8, 9, 10, 11, 12] := rfl
theorem clr_37_2 : C.clr 37 2 = [1, 13] := rfl
theorem clr_37_3 : C.clr 37 3 = [13] := rfl
theorem clr_37_4 : C.clr 37 4 = [14, 15, 16, 17] := rfl
theorem clr_37_6 : C.clr 37 6 = [18, 21, 22, 23, 24, 25, 26] := rfl
theorem clr_37_7 : C.clr 37 7 = [4, 27] := rfl
theorem clr_37_8 : C.clr 37 8 = [1, 3, 28] := rfl
theorem clr_37_5 : C.clr 37 5 = [19, 20, 28] := rfl
theorem clr_37_9 : C.clr 37 9 = [1, 3, 18] := rfl
theorem res_38 : Try.f38.results.toList = [.tmp 2] := rfl
theorem esc_38 : C.esc 38 = [] := rfl
theorem clr_38_0 : C.clr 38 0 = [0, 2] := rfl
theorem clr_38_1 : C.clr 38 1 = [5, 6] := rfl
theorem clr_38_2 : C.clr 38 2 = [1, 7] := rfl
theorem clr_38_3 : C.clr 38 3 = [7] := rfl
theorem clr_38_4 : C.clr 38 4 = [8, 9, 10, 11] := rfl
theorem clr_38_6 : C.clr 38 6 = [12, 15, 16, 17, 18, 19, 20] := rfl
theorem clr_38_7 : C.clr 38 7 = [4, 21] := rfl
theorem clr_38_8 : C.clr 38 8 = [1, 3, 22] := rfl
theorem clr_38_5 : C.clr 38 5 = [13, 14, 22] := rfl
theorem clr_38_9 : C.clr 38 9 = [1, 3, 12] := rfl
theorem res_39 : Try.f39.results.toList = [.tmp 2] := rfl
theorem esc_39 : C.esc 39 = [] := rfl
theorem clr_39_0 : C.clr 39 0 = [0, 2] := rfl
theorem clr_39_1 : C.clr 39 1 = [] := rfl
theorem clr_39_2 : C.clr 39 2 = [] := rfl
theorem clr_39_3 : C.clr 39 3 = [5, 6, 7, 8] := rfl
theorem clr_39_5 : C.clr 39 5 = [9, 12, 13, 14, 15, 16, 17, 18, 19] := rfl
theorem clr_39_4 : C.clr 39 4 = [10, 11] := rfl
theorem clr_39_6 : C.clr 39 6 = [1, 3, 4, 9, 20] := rfl
theorem res_40 : Try.f40.results.toList = [.tmp 2] := rfl
theorem esc_40 : C.esc 40 = [] := rfl
theorem clr_40_0 : C.clr 40 0 = [0, 2] := rfl
theorem clr_40_1 : C.clr 40 1 = [] := rfl
theorem clr_40_2 : C.clr 40 2 = [] := rfl
theorem clr_40_3 : C.clr 40 3 = [6, 7, 8, 9] := rfl
theorem clr_40_5 : C.clr 40 5 = [10, 13, 14, 15, 16, 17, 18] := rfl
theorem clr_40_6 : C.clr 40 6 = [19, 20] := rfl
theorem clr_40_7 : C.clr 40 7 = [5, 21, 22] := rfl
theorem clr_40_4 : C.clr 40 4 = [5, 11, 12, 21] := rfl
theorem clr_40_8 : C.clr 40 8 = [1, 3, 4, 10, 23, 24] := rfl
theorem res_41 : Try.f41.results.toList = [.tmp 6] := rfl
theorem esc_41 : C.esc 41 = [] := rfl
theorem clr_41_0 : C.clr 41 0 = [0, 6] := rfl
theorem clr_41_1 : C.clr 41 1 = [1, 2, 3, 7, 8, 9, 10, 11, 12, 13, 14, 15, 16, 17, 18, 19, 20, 21, 22, 23, 24] := rfl
theorem res_42 : Try.f42.results.toList = [.cell 2 24] := rfl
theorem esc_42 : C.esc 42 = [] := rfl
theorem clr_42_0 : C.clr 42 0 = [0] := rfl
theorem clr_42_1 : C.clr 42 1 = [] := rfl
theorem clr_42_2 : C.clr 42 2 = [6] := rfl
theorem clr_42_3 : C.clr 42 3 = [] := rfl
theorem clr_42_4 : C.clr 42 4 = [10, 11, 12] := rfl
theorem clr_42_5 : C.clr 42 5 = [5, 13, 14, 15, 16, 17] := rfl
theorem clr_42_6 : C.clr 42 6 = [18] := rfl
theorem clr_42_7 : C.clr 42 7 = [1, 3, 7, 8, 9, 10, 19, 20, 21, 22, 23, 24] := rfl
theorem res_43 : Try.f43.results.toList = [.cell 6 24, .tmp 7] := rfl
theorem esc_43 : C.esc 43 = [3, 4, 5] := rfl
theorem clr_43_0 : C.clr 43 0 = [0, 1, 2, 7] := rfl
theorem clr_43_1 : C.clr 43 1 = [11, 12] := rfl
theorem clr_43_2 : C.clr 43 2 = [13, 14] := rfl
theorem clr_43_3 : C.clr 43 3 = [15, 16, 17, 18, 19, 20, 21, 22, 23] := rfl
theorem clr_43_4 : C.clr 43 4 = [9, 15, 24] := rfl
theorem clr_43_5 : C.clr 43 5 = [3, 4, 5, 8, 25, 26] := rfl
theorem clr_43_6 : C.clr 43 6 = [4, 5, 25, 27, 28, 29, 30, 31, 32, 33] := rfl
theorem clr_43_7 : C.clr 43 7 = [9, 34] := rfl
theorem clr_43_8 : C.clr 43 8 = [3, 8, 10, 35, 36] := rfl
theorem clr_43_9 : C.clr 43 9 = [3, 8, 10, 35, 37, 38, 39, 40, 41] := rfl
theorem res_44 : Try.f44.results.toList = [.tmp 6, .tmp 7] := rfl
theorem esc_44 : C.esc 44 = [] := rfl
theorem clr_44_0 : C.clr 44 0 = [0, 6, 7] := rfl
theorem clr_44_1 : C.clr 44 1 = [2, 8, 9, 10, 11, 12] := rfl
theorem clr_44_2 : C.clr 44 2 = [1, 3, 13, 14, 15, 16, 17] := rfl
theorem clr_44_3 : C.clr 44 3 = [1, 3, 13, 18] := rfl
theorem res_45 : Try.f45.results.toList = [.tmp 6] := rfl
theorem esc_45 : C.esc 45 = [] := rfl
theorem clr_45_0 : C.clr 45 0 = [0, 6] := rfl
theorem clr_45_1 : C.clr 45 1 = [3, 8, 9] := rfl
theorem clr_45_2 : C.clr 45 2 = [1, 2, 7, 10, 11, 12, 13, 14, 15, 16, 17, 18, 19, 20, 21, 22, 23, 24, 25, 26] := rfl
theorem res_46 : Try.f46.results.toList = [.cell 6 24] := rfl
theorem esc_46 : C.esc 46 = [] := rfl
theorem clr_46_0 : C.clr 46 0 = [0] := rfl
theorem clr_46_1 : C.clr 46 1 = [9, 10, 11, 12, 13] := rfl
theorem clr_46_2 : C.clr 46 2 = [14, 15, 16, 17, 18, 19, 20, 21] := rfl
theorem clr_46_3 : C.clr 46 3 = [22, 23, 24, 25, 26, 27] := rfl
theorem clr_46_4 : C.clr 46 4 = [22] := rfl
theorem clr_46_5 : C.clr 46 5 = [28, 29, 30, 31] := rfl
theorem clr_46_7 : C.clr 46 7 = [32, 35, 36, 37, 38, 39, 40, 41, 42, 43, 44, 45, 46, 47, 48, 49, 50, 51] := rfl
theorem ord_46_7 : C.ord 46 7 = [0, 1, 2, 3, 4, 5, 6, 7, 8, 9, 10, 11, 12, 13, 14, 15, 16, 17] := rfl
theorem ro_46_7 : C.ro 46 7 = false := rfl
theorem clr_46_6 : C.clr 46 6 = [33, 34] := rfl
theorem clr_46_8 : C.clr 46 8 = [1, 2, 3, 7, 8, 32, 52] := rfl
theorem res_47 : Try.f47.results.toList = [.tmp 6, .tmp 7] := rfl
theorem esc_47 : C.esc 47 = [] := rfl
theorem clr_47_0 : C.clr 47 0 = [0, 6, 7] := rfl
theorem clr_47_1 : C.clr 47 1 = [9, 10, 11, 12, 13, 14] := rfl
theorem clr_47_2 : C.clr 47 2 = [1, 2, 3, 8, 15] := rfl
theorem clr_47_3 : C.clr 47 3 = [2, 8, 17, 18, 19, 20, 21, 22, 23, 24, 25] := rfl
theorem clr_47_4 : C.clr 47 4 = [1, 3, 16] := rfl
theorem clr_47_5 : C.clr 47 5 = [1, 3, 16, 26, 27, 28, 29] := rfl
theorem res_48 : Try.f48.results.toList = [.cell 6 24, .tmp 7] := rfl
theorem esc_48 : C.esc 48 = [] := rfl
theorem clr_48_0 : C.clr 48 0 = [0, 7] := rfl
theorem clr_48_1 : C.clr 48 1 = [12, 13, 14, 15, 16] := rfl
theorem clr_48_2 : C.clr 48 2 = [17, 18, 19, 20, 21, 22, 23, 24] := rfl
theorem clr_48_3 : C.clr 48 3 = [25, 26, 27, 28, 29, 30] := rfl
theorem clr_48_4 : C.clr 48 4 = [1, 2, 3, 8, 31, 32] := rfl
theorem clr_48_5 : C.clr 48 5 = [31, 33, 34, 35, 36, 37] := rfl
theorem clr_48_6 : C.clr 48 6 = [25] := rfl
theorem clr_48_7 : C.clr 48 7 = [38, 39, 40, 41] := rfl
theorem clr_48_9 : C.clr 48 9 = [42, 45, 46, 47, 48, 49, 50, 51, 52, 53, 54, 55, 56, 57, 58, 59] := rfl
theorem ord_48_9 : C.ord 48 9 = [0, 1, 2, 3, 4, 5, 6, 7, 8, 15, 9, 10, 11, 12, 13, 14, 16, 17] := rfl
theorem ro_48_9 : C.ro 48 9 = false := rfl
theorem clr_48_10 : C.clr 48 10 = [11, 60] := rfl
theorem clr_48_11 : C.clr 48 11 = [1, 2, 3, 8, 9, 10, 61, 62] := rfl
theorem clr_48_12 : C.clr 48 12 = [10, 61, 63, 64, 65, 66, 67, 68] := rfl
theorem clr_48_8 : C.clr 48 8 = [43, 44] := rfl
theorem clr_48_13 : C.clr 48 13 = [1, 2, 3, 8, 9, 42, 69] := rfl
theorem res_49 : Try.f49.results.toList = [.tmp 2] := rfl
theorem esc_49 : C.esc 49 = [] := rfl
theorem clr_49_0 : C.clr 49 0 = [0, 2] := rfl
theorem clr_49_1 : C.clr 49 1 = [] := rfl
theorem clr_49_2 : C.clr 49 2 = [1, 6] := rfl
theorem clr_49_3 : C.clr 49 3 = [] := rfl
theorem clr_49_4 : C.clr 49 4 = [10, 11, 12] := rfl
theorem clr_49_5 : C.clr 49 5 = [5, 13, 14, 15, 16] := rfl
theorem clr_49_6 : C.clr 49 6 = [17] := rfl
theorem clr_49_7 : C.clr 49 7 = [3, 7, 8, 9, 10, 18, 19] := rfl
theorem res_50 : Try.f50.results.toList = [.cell 4 4] := rfl
theorem esc_50 : C.esc 50 = [3, 4] := rfl
theorem clr_50_0 : C.clr 50 0 = [0, 1] := rfl
theorem clr_50_1 : C.clr 50 1 = [2, 7] := rfl
theorem clr_50_2 : C.clr 50 2 = [8, 9] := rfl
theorem clr_50_3 : C.clr 50 3 = [10] := rfl
theorem clr_50_4 : C.clr 50 4 = [3, 5, 6, 11, 12, 13, 14] := rfl
theorem clr_50_5 : C.clr 50 5 = [15] := rfl
theorem clr_50_6 : C.clr 50 6 = [3, 8] := rfl
theorem res_51 : Try.f51.results.toList = [.tmp 4] := rfl
theorem esc_51 : C.esc 51 = [] := rfl
theorem clr_51_0 : C.clr 51 0 = [0, 1, 4] := rfl
theorem clr_51_1 : C.clr 51 1 = [3, 5, 6] := rfl
theorem res_52 : Try.f52.results.toList = [.tmp 2] := rfl
theorem esc_52 : C.esc 52 = [] := rfl
theorem clr_52_0 : C.clr 52 0 = [0, 2] := rfl
theorem clr_52_1 : C.clr 52 1 = [3] := rfl
theorem clr_52_2 : C.clr 52 2 = [6] := rfl
theorem clr_52_3 : C.clr 52 3 = [1, 4, 5, 7, 8, 9, 10, 11, 12, 13, 14, 15] := rfl
theorem clr_52_4 : C.clr 52 4 = [5, 17] := rfl
theorem clr_52_5 : C.clr 52 5 = [1, 4, 16, 18, 19, 20, 21, 22, 23, 24, 25, 26] := rfl
theorem clr_52_6 : C.clr 52 6 = [4, 16, 28] := rfl
theorem clr_52_7 : C.clr 52 7 = [1, 27, 29, 30, 31, 32, 33, 34, 35, 36, 37] := rfl
theorem clr_52_8 : C.clr 52 8 = [1, 27, 38, 39, 40, 41, 42, 43, 44, 45, 46, 47, 48, 49, 50] := rfl
theorem res_53 : Try.f53.results.toList = [.tmp 2] := rfl
theorem esc_53 : C.esc 53 = [1] := rfl
theorem clr_53_0 : C.clr 53 0 = [0, 2] := rfl
theorem clr_53_1 : C.clr 53 1 = [1, 3] := rfl
theorem res_54 : Try.f54.results.toList = [.tmp 6] := rfl
theorem esc_54 : C.esc 54 = [] := rfl
theorem clr_54_0 : C.clr 54 0 = [1, 6] := rfl
theorem clr_54_1 : C.clr 54 1 = [0, 2, 3, 5, 7, 8, 9, 10, 11, 12, 13, 14, 15, 16, 17, 18, 19, 20, 21, 22, 23, 24, 25, 26, 27, 28] := rfl
theorem res_55 : Try.f55.results.toList = [.tmp 2] := rfl
theorem esc_55 : C.esc 55 = [] := rfl
theorem clr_55_0 : C.clr 55 0 = [0, 2] := rfl
theorem clr_55_1 : C.clr 55 1 = [] := rfl
theorem clr_55_2 : C.clr 55 2 = [1, 3, 4, 5, 6, 7, 8, 9, 10, 11, 12, 13, 14, 15, 16, 17, 18, 19, 20, 21, 22, 23, 24] := rfl
theorem res_56 : Try.f56.results.toList = [.cell 2 24, .cell 3 36] := rfl
theorem esc_56 : C.esc 56 = [2, 3, 7] := rfl
theorem clr_56_0 : C.clr 56 0 = [] := rfl
theorem clr_56_1 : C.clr 56 1 = [4] := rfl
theorem clr_56_2 : C.clr 56 2 = [0, 5, 6, 7, 8] := rfl
theorem clr_56_3 : C.clr 56 3 = [9, 10] := rfl
theorem clr_56_4 : C.clr 56 4 = [11, 12] := rfl
theorem clr_56_5 : C.clr 56 5 = [11, 13] := rfl
theorem res_57 : Try.f57.results.toList = [.cell 4 24] := rfl
theorem esc_57 : C.esc 57 = [] := rfl
theorem clr_57_0 : C.clr 57 0 = [] := rfl
theorem clr_57_1 : C.clr 57 1 = [0, 1, 2, 5, 6, 7, 8] := rfl
theorem res_58 : Try.f58.results.toList = [.cell 6 24] := rfl
theorem esc_58 : C.esc 58 = [] := rfl
theorem clr_58_0 : C.clr 58 0 = [1, 2] := rfl
theorem clr_58_1 : C.clr 58 1 = [11, 12, 13, 14, 15, 16, 17] := rfl
theorem clr_58_2 : C.clr 58 2 = [18, 19, 20, 21] := rfl
theorem clr_58_3 : C.clr 58 3 = [22, 23] := rfl
theorem clr_58_4 : C.clr 58 4 = [22, 24, 25, 26, 27, 28] := rfl
theorem clr_58_5 : C.clr 58 5 = [29] := rfl
theorem clr_58_6 : C.clr 58 6 = [] := rfl
theorem clr_58_7 : C.clr 58 7 = [33, 34, 35, 36] := rfl
theorem clr_58_8 : C.clr 58 8 = [37] := rfl
theorem clr_58_9 : C.clr 58 9 = [8, 38, 39, 40, 41, 42, 43, 44, 45, 46, 47, 48, 49, 50, 51, 52] := rfl
theorem clr_58_10 : C.clr 58 10 = [53, 54, 55] := rfl
theorem clr_58_11 : C.clr 58 11 = [9, 10, 53, 56, 57, 58, 59, 60, 61, 62, 63, 64] := rfl
theorem ord_58_11 : C.ord 58 11 = [0, 1, 2, 3, 4, 5, 6, 7, 8, 9] := rfl
theorem ro_58_11 : C.ro 58 11 = false := rfl
theorem clr_58_12 : C.clr 58 12 = [65] := rfl
theorem clr_58_13 : C.clr 58 13 = [30, 31, 32, 33, 66, 67] := rfl
theorem clr_58_14 : C.clr 58 14 = [0, 4, 5, 7, 68, 69] := rfl
theorem clr_58_15 : C.clr 58 15 = [0, 4, 5, 7, 68, 70, 71, 72, 73, 74, 75, 76, 77] := rfl
theorem ord_58_15 : C.ord 58 15 = [0, 1, 2, 3, 5, 6, 4, 7, 8] := rfl
theorem ro_58_15 : C.ro 58 15 = false := rfl
theorem res_59 : Try.f59.results.toList = [.tmp 2] := rfl
theorem esc_59 : C.esc 59 = [] := rfl
theorem clr_59_0 : C.clr 59 0 = [0, 2] := rfl
theorem clr_59_1 : C.clr 59 1 = [1, 3, 4, 5] := rfl
theorem res_60 : Try.f60.results.toList = [.tmp 4] := rfl
theorem esc_60 : C.esc 60 = [] := rfl
theorem clr_60_0 : C.clr 60 0 = [4] := rfl
theorem clr_60_1 : C.clr 60 1 = [0, 1, 5, 6, 7, 8] := rfl
theorem res_61 : Try.f61.results.toList = [.cell 4 24] := rfl
theorem esc_61 : C.esc 61 = [] := rfl
theorem clr_61_0 : C.clr 61 0 = [] := rfl
theorem clr_61_1 : C.clr 61 1 = [0, 1, 2, 5, 6, 7, 8, 9] := rfl
theorem ord_61_1 : C.ord 61 1 = [0, 1, 3, 2, 4, 5] := rfl
theorem ro_61_1 : C.ro 61 1 = false := rfl
theorem res_62 : Try.f62.results.toList = [.cell 6 24] := rfl
theorem esc_62 : C.esc 62 = [] := rfl
theorem clr_62_0 : C.clr 62 0 = [1] := rfl
theorem clr_62_1 : C.clr 62 1 = [7, 8] := rfl
theorem clr_62_2 : C.clr 62 2 = [0, 2, 4, 9, 10] := rfl
theorem clr_62_3 : C.clr 62 3 = [9, 11] := rfl
theorem clr_62_4 : C.clr 62 4 = [14] := rfl
theorem clr_62_5 : C.clr 62 5 = [12, 13, 15, 16, 17, 18] := rfl
theorem clr_62_6 : C.clr 62 6 = [19, 20] := rfl
theorem clr_62_7 : C.clr 62 7 = [0, 2, 4, 19, 21, 22, 23, 24, 25, 26, 27, 28, 29, 30, 31, 32, 33] := rfl
theorem ord_62_7 : C.ord 62 7 = [0, 1, 2, 3, 4, 5, 6, 7, 8, 10, 11, 9, 12, 13] := rfl
theorem ro_62_7 : C.ro 62 7 = false := rfl
theorem clr_62_8 : C.clr 62 8 = [0, 13, 35] := rfl
theorem clr_62_9 : C.clr 62 9 = [36] := rfl
theorem clr_62_10 : C.clr 62 10 = [12, 37] := rfl
theorem clr_62_11 : C.clr 62 11 = [2, 4, 12, 34, 38, 39, 40, 41, 42, 43, 44, 45, 46, 47] := rfl
theorem ord_62_11 : C.ord 62 11 = [0, 1, 2, 3, 4, 5, 6, 7, 8, 9, 10] := rfl
theorem ro_62_11 : C.ro 62 11 = false := rfl
theorem clr_62_12 : C.clr 62 12 = [2, 12, 34, 48] := rfl
theorem clr_62_13 : C.clr 62 13 = [4, 49] := rfl
theorem res_63 : Try.f63.results.toList = [.tmp 2] := rfl
theorem esc_63 : C.esc 63 = [] := rfl
theorem clr_63_0 : C.clr 63 0 = [0, 2] := rfl
theorem clr_63_1 : C.clr 63 1 = [4, 5] := rfl
theorem clr_63_2 : C.clr 63 2 = [1, 3, 6, 7, 8, 9, 10, 11, 12, 13, 14, 15, 16] := rfl
theorem res_64 : Try.f64.results.toList = [.cell 6 24] := rfl
theorem esc_64 : C.esc 64 = [] := rfl
theorem clr_64_0 : C.clr 64 0 = [1] := rfl
theorem clr_64_1 : C.clr 64 1 = [9, 10, 11, 12, 13, 14, 15] := rfl
theorem clr_64_2 : C.clr 64 2 = [16, 17, 18, 19, 20] := rfl
theorem clr_64_3 : C.clr 64 3 = [7, 21] := rfl
theorem clr_64_4 : C.clr 64 4 = [0, 2, 4, 22, 23, 24] := rfl
theorem clr_64_5 : C.clr 64 5 = [22, 25, 26, 27, 28, 29, 30, 31, 32, 33, 34, 35] := rfl
theorem ord_64_5 : C.ord 64 5 = [0, 1, 2, 3, 4, 5, 6, 7, 8, 9, 10, 11] := rfl
theorem ro_64_5 : C.ro 64 5 = false := rfl
theorem clr_64_6 : C.clr 64 6 = [36, 37, 38, 39] := rfl
theorem clr_64_7 : C.clr 64 7 = [0, 2, 4, 40, 41] := rfl
theorem clr_64_8 : C.clr 64 8 = [40, 42, 43] := rfl
theorem clr_64_9 : C.clr 64 9 = [16, 44, 45] := rfl
theorem clr_64_10 : C.clr 64 10 = [0, 2, 4, 46, 47] := rfl
theorem clr_64_11 : C.clr 64 11 = [46, 48, 49, 50, 51, 52, 53, 54, 55, 56, 57, 58, 59] := rfl
theorem clr_64_12 : C.clr 64 12 = [0, 2, 4, 60, 61, 62] := rfl
theorem clr_64_13 : C.clr 64 13 = [0, 60, 63, 64, 65] := rfl
theorem clr_64_14 : C.clr 64 14 = [2, 66, 67, 68] := rfl
theorem clr_64_15 : C.clr 64 15 = [4, 8, 69, 70, 71, 72, 73, 74] := rfl
theorem res_65 : Try.f65.results.toList = [.cell 4 24, .tmp 5] := rfl
theorem esc_65 : C.esc 65 = [] := rfl
theorem clr_65_0 : C.clr 65 0 = [1, 5] := rfl
theorem clr_65_1 : C.clr 65 1 = [7, 8] := rfl
theorem clr_65_2 : C.clr 65 2 = [6, 9, 10, 11, 12, 13, 14, 15, 16] := rfl
theorem clr_65_3 : C.clr 65 3 = [17, 18, 19, 20] := rfl
theorem clr_65_4 : C.clr 65 4 = [17, 21, 22, 23, 24] := rfl
theorem clr_65_5 : C.clr 65 5 = [0, 3, 25, 26, 27, 28, 29, 30] := rfl
theorem ord_65_5 : C.ord 65 5 = [0, 1, 2, 3, 4, 5, 6] := rfl
theorem ro_65_5 : C.ro 65 5 = false := rfl
theorem clr_65_6 : C.clr 65 6 = [0, 3, 25, 31] := rfl
theorem res_66 : Try.f66.results.toList = [.tmp 4, .tmp 5] := rfl
theorem esc_66 : C.esc 66 = [] := rfl
theorem clr_66_0 : C.clr 66 0 = [4, 5] := rfl
theorem clr_66_1 : C.clr 66 1 = [] := rfl
theorem clr_66_2 : C.clr 66 2 = [0] := rfl
theorem clr_66_3 : C.clr 66 3 = [] := rfl
theorem clr_66_4 : C.clr 66 4 = [14, 15, 16, 17] := rfl
theorem clr_66_5 : C.clr 66 5 = [7, 8, 18, 19, 20, 21, 22, 23, 24] := rfl
theorem clr_66_6 : C.clr 66 6 = [10, 25] := rfl
theorem clr_66_7 : C.clr 66 7 = [1, 6, 9, 11, 12, 13, 26] := rfl
theorem clr_66_8 : C.clr 66 8 = [9, 26, 27, 28, 29, 30] := rfl
theorem clr_66_9 : C.clr 66 9 = [31] := rfl
theorem clr_66_10 : C.clr 66 10 = [1, 6, 11, 12, 13, 14, 32] := rfl
theorem res_67 : Try.f67.results.toList = [.cell 7 24, .tmp 8] := rfl
theorem esc_67 : C.esc 67 = [] := rfl
theorem clr_67_0 : C.clr 67 0 = [1, 8] := rfl
theorem clr_67_1 : C.clr 67 1 = [2, 10] := rfl
theorem clr_67_2 : C.clr 67 2 = [0, 3, 11, 12, 13, 14, 15, 16, 17, 18, 19, 20, 21, 22, 23, 24, 25] := rfl
theorem clr_67_3 : C.clr 67 3 = [26, 27, 28] := rfl
theorem clr_67_4 : C.clr 67 4 = [4, 6, 9, 26, 29, 30, 31, 32, 33, 34] := rfl
theorem res_68 : Try.f68.results.toList = [.tmp 4] := rfl
theorem esc_68 : C.esc 68 = [] := rfl
theorem clr_68_0 : C.clr 68 0 = [0, 4] := rfl
theorem clr_68_1 : C.clr 68 1 = [1, 2, 5, 6, 7, 8, 9, 10, 11, 12, 13, 14, 15, 16, 17, 18, 19] := rfl
theorem clr_68_2 : C.clr 68 2 = [20] := rfl
theorem clr_68_3 : C.clr 68 3 = [20] := rfl
theorem res_69 : Try.f69.results.toList = [] := rfl
theorem esc_69 : C.esc 69 = [] := rfl
theorem clr_69_0 : C.clr 69 0 = [0, 1, 3, 4, 5] := rfl
theorem res_70 : Try.f70.results.toList = [.tmp 6] := rfl
theorem esc_70 : C.esc 70 = [] := rfl
theorem clr_70_0 : C.clr 70 0 = [0, 6] := rfl
theorem clr_70_1 : C.clr 70 1 = [10, 11, 12, 13] := rfl
theorem clr_70_2 : C.clr 70 2 = [1, 2, 3, 14] := rfl
theorem clr_70_3 : C.clr 70 3 = [14, 15] := rfl
theorem clr_70_4 : C.clr 70 4 = [] := rfl
theorem clr_70_5 : C.clr 70 5 = [19, 20, 21, 22] := rfl
theorem clr_70_6 : C.clr 70 6 = [23] := rfl
theorem clr_70_7 : C.clr 70 7 = [7, 24, 25, 26, 27, 28, 29, 30, 31, 32] := rfl
theorem clr_70_8 : C.clr 70 8 = [33, 34, 35] := rfl
theorem clr_70_9 : C.clr 70 9 = [8, 9, 33, 36, 37, 38, 39] := rfl
theorem clr_70_10 : C.clr 70 10 = [1, 2, 3, 16, 17, 18, 40] := rfl
theorem clr_70_11 : C.clr 70 11 = [40, 41] := rfl
theorem clr_70_12 : C.clr 70 12 = [1, 2, 3, 16, 17, 18, 19] := rfl
theorem res_71 : Try.f71.results.toList = [.tmp 2] := rfl
theorem esc_71 : C.esc 71 = [] := rfl
theorem clr_71_0 : C.clr 71 0 = [0, 2] := rfl
theorem clr_71_1 : C.clr 71 1 = [1, 3, 4, 5] := rfl
theorem res_72 : Try.f72.results.toList = [] := rfl
theorem esc_72 : C.esc 72 = [] := rfl
theorem clr_72_0 : C.clr 72 0 = [5] := rfl
theorem clr_72_1 : C.clr 72 1 = [6, 7, 8, 9, 10] := rfl
theorem clr_72_2 : C.clr 72 2 = [4] := rfl
theorem clr_72_3 : C.clr 72 3 = [0, 1, 2, 3, 11, 12, 13] := rfl
theorem clr_72_4 : C.clr 72 4 = [0, 1, 3, 11, 14] := rfl
theorem clr_72_5 : C.clr 72 5 = [2, 15, 16] := rfl
theorem res_73 : Try.f73.results.toList = [] := rfl
theorem esc_73 : C.esc 73 = [] := rfl
theorem clr_73_0 : C.clr 73 0 = [0, 2, 3] := rfl
theorem res_74 : Try.f74.results.toList = [.cell 4 24] := rfl
theorem esc_74 : C.esc 74 = [] := rfl
theorem clr_74_0 : C.clr 74 0 = [0] := rfl
theorem clr_74_1 : C.clr 74 1 = [5, 6, 7, 8] := rfl
theorem clr_74_2 : C.clr 74 2 = [1, 2, 9, 10, 11, 12, 13, 14, 15, 16, 17, 18, 19, 20] := rfl
theorem clr_74_3 : C.clr 74 3 = [1, 2, 9, 21, 22, 23, 24, 25, 26, 27, 28, 29] := rfl
theorem res_75 : Try.f75.results.toList = [.tmp 4] := rfl
theorem esc_75 : C.esc 75 = [] := rfl
theorem clr_75_0 : C.clr 75 0 = [4] := rfl
theorem clr_75_1 : C.clr 75 1 = [6] := rfl
theorem clr_75_2 : C.clr 75 2 = [] := rfl
theorem clr_75_3 : C.clr 75 3 = [9, 10] := rfl
theorem clr_75_4 : C.clr 75 4 = [11, 12, 13, 14, 15] := rfl
theorem clr_75_5 : C.clr 75 5 = [0, 1, 5, 7, 8, 16, 17] := rfl
theorem clr_75_6 : C.clr 75 6 = [5, 16, 18] := rfl
theorem clr_75_7 : C.clr 75 7 = [0, 1, 7, 8, 9] := rfl
theorem res_76 : Try.f76.results.toList = [.tmp 2] := rfl
theorem esc_76 : C.esc 76 = [] := rfl
theorem clr_76_0 : C.clr 76 0 = [2] := rfl
theorem clr_76_1 : C.clr 76 1 = [] := rfl
theorem clr_76_2 : C.clr 76 2 = [] := rfl
theorem clr_76_3 : C.clr 76 3 = [] := rfl
theorem clr_76_4 : C.clr 76 4 = [12, 13, 14] := rfl
theorem clr_76_5 : C.clr 76 5 = [5, 15, 16, 17, 18] := rfl
theorem clr_76_6 : C.clr 76 6 = [19] := rfl
theorem clr_76_7 : C.clr 76 7 = [20, 21] := rfl
theorem clr_76_8 : C.clr 76 8 = [20, 22] := rfl
theorem clr_76_9 : C.clr 76 9 = [3, 9, 10, 11, 12, 23, 24] := rfl
theorem clr_76_10 : C.clr 76 10 = [0] := rfl
theorem clr_76_11 : C.clr 76 11 = [] := rfl
theorem clr_76_12 : C.clr 76 12 = [28, 29, 30] := rfl
theorem clr_76_13 : C.clr 76 13 = [8, 31, 32, 33] := rfl
theorem clr_76_14 : C.clr 76 14 = [34] := rfl
theorem clr_76_15 : C.clr 76 15 = [6, 25, 26, 27, 28, 35] := rfl
theorem res_77 : Try.f77.results.toList = [.tmp 2] := rfl
theorem esc_77 : C.esc 77 = [] := rfl
theorem clr_77_0 : C.clr 77 0 = [0, 2] := rfl
theorem clr_77_1 : C.clr 77 1 = [5] := rfl
theorem clr_77_3 : C.clr 77 3 = [8] := rfl
theorem clr_77_4 : C.clr 77 4 = [6, 7, 9, 10, 11, 12, 13, 14, 15, 16] := rfl
theorem clr_77_5 : C.clr 77 5 = [1, 17] := rfl
theorem clr_77_6 : C.clr 77 6 = [7, 19] := rfl
theorem clr_77_7 : C.clr 77 7 = [6, 18, 20, 21, 22, 23, 24, 25, 26, 27] := rfl
theorem clr_77_8 : C.clr 77 8 = [1, 28] := rfl
theorem clr_77_9 : C.clr 77 9 = [18, 30] := rfl
theorem clr_77_10 : C.clr 77 10 = [6, 29, 31, 32, 33, 34, 35, 36, 37, 38] := rfl
theorem clr_77_11 : C.clr 77 11 = [1, 39] := rfl
theorem clr_77_12 : C.clr 77 12 = [29, 41] := rfl
theorem clr_77_13 : C.clr 77 13 = [42] := rfl
theorem clr_77_14 : C.clr 77 14 = [43] := rfl
theorem clr_77_15 : C.clr 77 15 = [6, 44] := rfl
theorem clr_77_16 : C.clr 77 16 = [6, 40, 45, 46] := rfl
theorem clr_77_17 : C.clr 77 17 = [1, 47] := rfl
theorem clr_77_2 : C.clr 77 2 = [1, 6, 40] := rfl
theorem clr_77_18 : C.clr 77 18 = [17, 28, 39, 47] := rfl
theorem clr_77_19 : C.clr 77 19 = [48, 49, 50, 51] := rfl
theorem clr_77_21 : C.clr 77 21 = [52, 55, 56, 57, 58, 59, 60] := rfl
theorem clr_77_22 : C.clr 77 22 = [4, 61] := rfl
theorem clr_77_23 : C.clr 77 23 = [1, 3, 62] := rfl
theorem clr_77_20 : C.clr 77 20 = [53, 54, 62] := rfl
theorem clr_77_24 : C.clr 77 24 = [1, 3, 52] := rfl
theorem res_78 : Try.f78.results.toList = [.cell 4 24] := rfl
theorem esc_78 : C.esc 78 = [] := rfl
theorem clr_78_0 : C.clr 78 0 = [] := rfl
theorem clr_78_1 : C.clr 78 1 = [5, 6, 7, 8] := rfl
theorem clr_78_2 : C.clr 78 2 = [0, 1, 9, 10, 11, 12, 13] := rfl
theorem clr_78_3 : C.clr 78 3 = [0, 1, 9, 14] := rfl
theorem res_79 : Try.f79.results.toList = [.cell 6 24] := rfl
theorem esc_79 : C.esc 79 = [] := rfl
theorem clr_79_0 : C.clr 79 0 = [1, 2] := rfl
theorem clr_79_1 : C.clr 79 1 = [11, 12, 13, 14, 15, 16, 17, 18] := rfl
theorem clr_79_2 : C.clr 79 2 = [19, 20, 21, 22] := rfl
theorem clr_79_3 : C.clr 79 3 = [0, 4, 5, 23, 24, 25] := rfl
theorem clr_79_4 : C.clr 79 4 = [23] := rfl
theorem clr_79_5 : C.clr 79 5 = [] := rfl
theorem clr_79_6 : C.clr 79 6 = [26, 27, 28, 29] := rfl
theorem clr_79_8 : C.clr 79 8 = [30, 33] := rfl
theorem clr_79_9 : C.clr 79 9 = [34, 35, 36] := rfl
theorem clr_79_10 : C.clr 79 10 = [37, 38, 39] := rfl
theorem clr_79_11 : C.clr 79 11 = [9, 37, 40, 41, 42, 43, 44, 45, 46, 47] := rfl
theorem ord_79_11 : C.ord 79 11 = [0, 1, 2, 3, 4, 5, 6, 8, 7, 9] := rfl
theorem ro_79_11 : C.ro 79 11 = false := rfl
theorem clr_79_12 : C.clr 79 12 = [48, 49, 50, 51] := rfl
theorem clr_79_13 : C.clr 79 13 = [0, 4, 5, 7, 8, 10, 52, 53] := rfl
theorem clr_79_14 : C.clr 79 14 = [10, 52, 54, 55, 56, 57] := rfl
theorem clr_79_7 : C.clr 79 7 = [31, 32] := rfl
theorem clr_79_15 : C.clr 79 15 = [8, 30, 58, 59] := rfl
theorem clr_79_16 : C.clr 79 16 = [0, 4, 5, 7, 60, 61, 62, 63, 64, 65, 66, 67] := rfl
theorem clr_79_17 : C.clr 79 17 = [0, 4, 5, 7, 60, 68, 69, 70, 71, 72, 73] := rfl
theorem res_80 : Try.f80.results.toList = [.tmp 2] := rfl
theorem esc_80 : C.esc 80 = [] := rfl
theorem clr_80_0 : C.clr 80 0 = [0, 2] := rfl
theorem clr_80_1 : C.clr 80 1 = [1, 3, 4, 5, 6, 7, 8, 9, 10] := rfl
theorem res_81 : Try.f81.results.toList = [.tmp 4] := rfl
theorem esc_81 : C.esc 81 = [] := rfl
theorem clr_81_0 : C.clr 81 0 = [4] := rfl
theorem clr_81_1 : C.clr 81 1 = [5] := rfl
theorem clr_81_2 : C.clr 81 2 = [6, 7] := rfl
theorem clr_81_3 : C.clr 81 3 = [6, 8, 9, 10, 11, 12, 13, 14] := rfl
theorem clr_81_4 : C.clr 81 4 = [15] := rfl
theorem clr_81_5 : C.clr 81 5 = [1, 16, 17, 18, 19, 20, 21, 22, 23, 24, 25] := rfl
theorem clr_81_6 : C.clr 81 6 = [0, 1, 16, 26] := rfl
theorem res_82 : Try.f82.results.toList = [.cell 4 24] := rfl
theorem esc_82 : C.esc 82 = [] := rfl
theorem clr_82_0 : C.clr 82 0 = [0] := rfl
theorem clr_82_1 : C.clr 82 1 = [5, 6, 7, 8] := rfl
theorem clr_82_2 : C.clr 82 2 = [1, 2, 9, 10, 11, 12, 13, 14, 15, 16, 17, 18, 19, 20] := rfl
theorem clr_82_3 : C.clr 82 3 = [1, 2, 9, 21, 22, 23, 24, 25, 26, 27, 28, 29] := rfl
attribute [go_sem] tsz_1 tag_1 tcon_1 tstr_1 tbool_1 tslc_1 tarr_1 tby_1 tzr_1 tsz_2 tag_2 tcon_2 tstr_2 tbool_2 tslc_2 tarr_2 tby_2 tzr_2 tsz_3 tag_3 tcon_3 tstr_3 tbool_3 tslc_3 tarr_3 tby_3 tzr_3 tsz_4 tag_4 tcon_4 tstr_4 tbool_4 tslc_4 tarr_4 tby_4 tzr_4 tsz_5 tag_5 tcon_5 tstr_5
attribute [go_sem] tbool_5 tslc_5 tarr_5 tby_5 tzr_5 tsz_9 tag_9 tcon_9 tstr_9 tbool_9 tslc_9 tarr_9 tby_9 tzr_9 tsz_12 tag_12 tcon_12 tstr_12 tbool_12 tslc_12 tarr_12 tby_12 tzr_12 tsz_20 tag_20 tcon_20 tstr_20 tbool_20 tslc_20 tarr_20 tby_20 tzr_20 tsz_21 tag_21 tcon_21 tstr_21 tbool_21 tslc_21 tarr_21 tby_21
attribute [go_sem] tzr_21 tsz_22 tag_22 tcon_22 tstr_22 tbool_22 tslc_22 tarr_22 tby_22 tzr_22 tsz_23 tag_23 tcon_23 tstr_23 tbool_23 tslc_23 tarr_23 tby_23 tzr_23 tfld_23_0 place_23_0 tfld_23_1 place_23_1 tfld_23_2 place_23_2 tbld_23 tsz_24 tag_24 tcon_24 tstr_24 tbool_24 tslc_24 tarr_24 tby_24 tzr_24 tfld_24_0 place_24_0 tfld_24_1 place_24_1 tfld_24_2
attribute [go_sem] place_24_2 tbld_24 tsz_25 tag_25 tcon_25 tstr_25 tbool_25 tslc_25 tarr_25 tby_25 tzr_25 tsz_26 tag_26 tcon_26 tstr_26 tbool_26 tslc_26 tarr_26 tby_26 tzr_26 tsz_27 tag_27 tcon_27 tstr_27 tbool_27 tslc_27 tarr_27 tby_27 tzr_27 tsz_28 tag_28 tcon_28 tstr_28 tbool_28 tslc_28 tarr_28 tby_28 tzr_28 tsz_30 tag_30
attribute [go_sem] tcon_30 tstr_30 tbool_30 tslc_30 tarr_30 tby_30 tzr_30 tsz_31 tag_31 tcon_31 tstr_31 tbool_31 tslc_31 tarr_31 tby_31 tzr_31 tsz_32 tag_32 tcon_32 tstr_32 tbool_32 tslc_32 tarr_32 tby_32 tzr_32 tsz_33 tag_33 tcon_33 tstr_33 tbool_33 tslc_33 tarr_33 tby_33 tzr_33 tsz_34 tag_34 tcon_34 tstr_34 tbool_34 tslc_34
attribute [go_sem] tarr_34 tby_34 tzr_34 tsz_35 tag_35 tcon_35 tstr_35 tbool_35 tslc_35 tarr_35 tby_35 tzr_35 tsz_36 tag_36 tcon_36 tstr_36 tbool_36 tslc_36 tarr_36 tby_36 tzr_36 tsz_38 tag_38 tcon_38 tstr_38 tbool_38 tslc_38 tarr_38 tby_38 tzr_38 tsz_39 tag_39 tcon_39 tstr_39 tbool_39 tslc_39 tarr_39 tby_39 tzr_39 tfld_39_0
attribute [go_sem] place_39_0 tfld_39_1 place_39_1 tbld_39 tsz_40 tag_40 tcon_40 tstr_40 tbool_40 tslc_40 tarr_40 tby_40 tzr_40 tfld_40_0 place_40_0 tfld_40_1 place_40_1 tbld_40 tsz_41 tag_41 tcon_41 tstr_41 tbool_41 tslc_41 tarr_41 tby_41 tzr_41 tsz_42 tag_42 tcon_42 tstr_42 tbool_42 tslc_42 tarr_42 tby_42 tzr_42 tsz_43 tag_43 tcon_43 tstr_43
attribute [go_sem] tbool_43 tslc_43 tarr_43 tby_43 tzr_43 tsz_44 tag_44 tcon_44 tstr_44 tbool_44 tslc_44 tarr_44 tby_44 tzr_44 tsz_45 tag_45 tcon_45 tstr_45 tbool_45 tslc_45 tarr_45 tby_45 tzr_45 tsz_46 tag_46 tcon_46 tstr_46 tbool_46 tslc_46 tarr_46 tby_46 tzr_46 tsz_47 tag_47 tcon_47 tstr_47 tbool_47 tslc_47 tarr_47 tby_47
attribute [go_sem] tzr_47 tsz_48 tag_48 tcon_48 tstr_48 tbool_48 tslc_48 tarr_48 tby_48 tzr_48 tsz_49 tag_49 tcon_49 tstr_49 tbool_49 tslc_49 tarr_49 tby_49 tzr_49 tsz_50 tag_50 tcon_50 tstr_50 tbool_50 tslc_50 tarr_50 tby_50 tzr_50 tsz_51 tag_51 tcon_51 tstr_51 tbool_51 tslc_51 tarr_51 tby_51 tzr_51 tsz_52 tag_52 tcon_52
attribute [go_sem] tstr_52 tbool_52 tslc_52 tarr_52 tby_52 tzr_52 tfld_52_0 place_52_0 tfld_52_1 place_52_1 tbld_52 tsz_53 tag_53 tcon_53 tstr_53 tbool_53 tslc_53 tarr_53 tby_53 tzr_53 tfld_53_0 place_53_0 tfld_53_1 place_53_1 tbld_53 tsz_54 tag_54 tcon_54 tstr_54 tbool_54 tslc_54 tarr_54 tby_54 tzr_54 tsz_55 tag_55 tcon_55 tstr_55 tbool_55 tslc_55
attribute [go_sem] tarr_55 tby_55 tzr_55 tsz_56 tag_56 tcon_56 tstr_56 tbool_56 tslc_56 tarr_56 tby_56 tzr_56 tsz_57 tag_57 tcon_57 tstr_57 tbool_57 tslc_57 tarr_57 tby_57 tzr_57 tsz_58 tag_58 tcon_58 tstr_58 tbool_58 tslc_58 tarr_58 tby_58 tzr_58 tsz_59 tag_59 tcon_59 tstr_59 tbool_59 tslc_59 tarr_59 tby_59 tzr_59 tsz_60
attribute [go_sem] tag_60 tcon_60 tstr_60 tbool_60 tslc_60 tarr_60 tby_60 tzr_60 tsz_61 tag_61 tcon_61 tstr_61 tbool_61 tslc_61 tarr_61 tby_61 tzr_61 tsz_62 tag_62 tcon_62 tstr_62 tbool_62 tslc_62 tarr_62 tby_62 tzr_62 tsz_63 tag_63 tcon_63 tstr_63 tbool_63 tslc_63 tarr_63 tby_63 tzr_63 tsz_64 tag_64 tcon_64 tstr_64 tbool_64
attribute [go_sem] tslc_64 tarr_64 tby_64 tzr_64 tsz_65 tag_65 tcon_65 tstr_65 tbool_65 tslc_65 tarr_65 tby_65 tzr_65 tsz_66 tag_66 tcon_66 tstr_66 tbool_66 tslc_66 tarr_66 tby_66 tzr_66 tsz_67 tag_67 tcon_67 tstr_67 tbool_67 tslc_67 tarr_67 tby_67 tzr_67 tfld_67_0 place_67_0 tfld_67_1 place_67_1 tbld_67 tsz_68 tag_68 tcon_68 tstr_68
attribute [go_sem] tbool_68 tslc_68 tarr_68 tby_68 tzr_68 tfld_68_0 place_68_0 tfld_68_1 place_68_1 tbld_68 tsz_69 tag_69 tcon_69 tstr_69 tbool_69 tslc_69 tarr_69 tby_69 tzr_69 tsz_72 tag_72 tcon_72 tstr_72 tbool_72 tslc_72 tarr_72 tby_72 tzr_72 tsz_73 tag_73 tcon_73 tstr_73 tbool_73 tslc_73 tarr_73 tby_73 tzr_73 tsz_74 tag_74 tcon_74
attribute [go_sem] tstr_74 tbool_74 tslc_74 tarr_74 tby_74 tzr_74 tsz_75 tag_75 tcon_75 tstr_75 tbool_75 tslc_75 tarr_75 tby_75 tzr_75 tsz_77 tag_77 tcon_77 tstr_77 tbool_77 tslc_77 tarr_77 tby_77 tzr_77 tfld_77_0 place_77_0 tbld_77 tsz_78 tag_78 tcon_78 tstr_78 tbool_78 tslc_78 tarr_78 tby_78 tzr_78 tfld_78_0 place_78_0 tbld_78 tsz_79
attribute [go_sem] tag_79 tcon_79 tstr_79 tbool_79 tslc_79 tarr_79 tby_79 tzr_79 tsz_80 tag_80 tcon_80 tstr_80 tbool_80 tslc_80 tarr_80 tby_80 tzr_80 tsz_81 tag_81 tcon_81 tstr_81 tbool_81 tslc_81 tarr_81 tby_81 tzr_81 tsz_82 tag_82 tcon_82 tstr_82 tbool_82 tslc_82 tarr_82 tby_82 tzr_82 tsz_83 tag_83 tcon_83 tstr_83 tbool_83
attribute [go_sem] tslc_83 tarr_83 tby_83 tzr_83 tsz_84 tag_84 tcon_84 tstr_84 tbool_84 tslc_84 tarr_84 tby_84 tzr_84 tsz_85 tag_85 tcon_85 tstr_85 tbool_85 tslc_85 tarr_85 tby_85 tzr_85 tsz_86 tag_86 tcon_86 tstr_86 tbool_86 tslc_86 tarr_86 tby_86 tzr_86 tsz_92 tag_92 tcon_92 tstr_92 tbool_92 tslc_92 tarr_92 tby_92 tzr_92
attribute [go_sem] tsz_93 tag_93 tcon_93 tstr_93 tbool_93 tslc_93 tarr_93 tby_93 tzr_93 tsz_96 tag_96 tcon_96 tstr_96 tbool_96 tslc_96 tarr_96 tby_96 tzr_96 tsz_97 tag_97 tcon_97 tstr_97 tbool_97 tslc_97 tarr_97 tby_97 tzr_97 C_P C_thr esc_3 Try.ntmps3 res_3 clr_3_0 clr_3_1 clr_3_2 clr_3_3 clr_3_4 clr_3_5 ord_3_5 ro_3_5
attribute [go_sem] clr_3_6 clr_3_7 clr_3_8 clr_3_9 esc_4 Try.ntmps4 res_4 clr_4_0 clr_4_1 clr_4_2 clr_4_3 clr_4_4 clr_4_5 clr_4_6 clr_4_7 clr_4_8 clr_4_9 clr_4_10 clr_4_11 clr_4_12 esc_5 Try.ntmps5 res_5 clr_5_0 clr_5_1 clr_5_2 clr_5_3 clr_5_4 clr_5_5 clr_5_6 clr_5_7 clr_5_8 ord_5_8 ro_5_8 esc_6 Try.ntmps6 res_6 clr_6_0 clr_6_1 clr_6_2
attribute [go_sem] clr_6_3 clr_6_4 clr_6_5 clr_6_6 clr_6_7 ord_6_7 ro_6_7 esc_7 Try.ntmps7 res_7 clr_7_0 clr_7_1 clr_7_2 clr_7_3 clr_7_4 clr_7_5 clr_7_6 clr_7_7 clr_7_8 clr_7_9 clr_7_10 clr_7_11 esc_8 Try.ntmps8 res_8 clr_8_0 clr_8_1 clr_8_2 clr_8_3 clr_8_4 clr_8_5 clr_8_6 clr_8_7 esc_9 Try.ntmps9 res_9 clr_9_0 clr_9_1 clr_9_2 clr_9_3
attribute [go_sem] clr_9_4 clr_9_5 clr_9_6 clr_9_7 clr_9_9 clr_9_10 clr_9_8 clr_9_11 clr_9_12 esc_10 Try.ntmps10 res_10 clr_10_0 clr_10_1 clr_10_2 clr_10_3 clr_10_4 clr_10_5 clr_10_6 clr_10_7 clr_10_8 clr_10_9 clr_10_10 clr_10_11 clr_10_12 clr_10_13 clr_10_14 clr_10_15 esc_11 Try.ntmps11 res_11 clr_11_0 clr_11_1 clr_11_2 clr_11_3 clr_11_4 clr_11_5 clr_11_6 ord_11_6 ro_11_6
attribute [go_sem] clr_11_7 ord_11_7 ro_11_7 clr_11_8 esc_12 Try.ntmps12 res_12 clr_12_0 clr_12_1 clr_12_2 clr_12_3 clr_12_4 clr_12_5 clr_12_6 clr_12_7 clr_12_8 clr_12_9 clr_12_10 clr_12_11 clr_12_12 clr_12_13 clr_12_14 esc_13 Try.ntmps13 res_13 clr_13_0 clr_13_1 clr_13_2 clr_13_3 clr_13_4 clr_13_5 clr_13_6 clr_13_8 clr_13_9 clr_13_7 clr_13_10 clr_13_11 clr_13_12 clr_13_13 clr_13_14
attribute [go_sem] ord_13_14 ro_13_14 esc_14 Try.ntmps14 res_14 clr_14_0 clr_14_1 clr_14_2 clr_14_3 clr_14_4 clr_14_5 clr_14_6 ord_14_6 ro_14_6 clr_14_7 ord_14_7 ro_14_7 esc_15 Try.ntmps15 res_15 clr_15_0 clr_15_1 clr_15_2 clr_15_3 clr_15_4 clr_15_5 clr_15_6 clr_15_7 clr_15_8 clr_15_9 clr_15_10 clr_15_11 clr_15_12 clr_15_13 clr_15_14 esc_16 Try.ntmps16 res_16 clr_16_0 clr_16_1
attribute [go_sem] clr_16_2 clr_16_3 clr_16_4 clr_16_5 esc_17 Try.ntmps17 res_17 clr_17_0 clr_17_1 clr_17_2 esc_18 Try.ntmps18 res_18 clr_18_0 clr_18_1 clr_18_2 clr_18_3 clr_18_4 clr_18_6 ord_18_6 ro_18_6 clr_18_7 clr_18_8 clr_18_5 clr_18_9 esc_19 Try.ntmps19 res_19 clr_19_0 clr_19_1 clr_19_2 clr_19_3 clr_19_4 esc_20 Try.ntmps20 res_20 clr_20_0 clr_20_1 clr_20_2 clr_20_3
attribute [go_sem] clr_20_4 esc_21 Try.ntmps21 res_21 clr_21_0 clr_21_1 clr_21_2 clr_21_3 esc_22 Try.ntmps22 res_22 clr_22_0 clr_22_1 clr_22_2 clr_22_3 clr_22_4 clr_22_5 esc_23 Try.ntmps23 res_23 clr_23_0 clr_23_1 esc_24 Try.ntmps24 res_24 clr_24_0 clr_24_1 clr_24_2 clr_24_3 clr_24_4 clr_24_5 clr_24_6 ord_24_6 ro_24_6 clr_24_7 clr_24_8 clr_24_9 esc_25 Try.ntmps25 res_25
attribute [go_sem] clr_25_0 clr_25_1 clr_25_2 clr_25_3 clr_25_4 esc_26 Try.ntmps26 res_26 clr_26_0 clr_26_1 esc_27 Try.ntmps27 res_27 clr_27_0 clr_27_1 clr_27_2 clr_27_3 clr_27_4 esc_28 Try.ntmps28 res_28 clr_28_0 clr_28_1 clr_28_2 clr_28_3 clr_28_4 clr_28_6 clr_28_7 clr_28_8 clr_28_5 clr_28_9 esc_29 Try.ntmps29 res_29 clr_29_0 clr_29_1 clr_29_2 clr_29_3 esc_30 Try.ntmps30
attribute [go_sem] res_30 clr_30_0 clr_30_1 clr_30_2 clr_30_3 clr_30_4 esc_31 Try.ntmps31 res_31 clr_31_0 clr_31_1 clr_31_2 clr_31_3 clr_31_4 clr_31_5 clr_31_7 clr_31_8 clr_31_9 clr_31_6 clr_31_10 clr_31_11 clr_31_12 clr_31_13 esc_32 Try.ntmps32 res_32 clr_32_0 clr_32_1 clr_32_2 clr_32_3 clr_32_4 clr_32_5 ord_32_5 ro_32_5 clr_32_6 clr_32_7 clr_32_8 esc_33 Try.ntmps33 res_33
attribute [go_sem] clr_33_0 clr_33_1 clr_33_2 clr_33_3 clr_33_5 ord_33_5 ro_33_5 clr_33_4 clr_33_6 clr_33_7 esc_34 Try.ntmps34 res_34 clr_34_0 clr_34_1 clr_34_2 clr_34_3 clr_34_4 clr_34_6 ord_34_6 ro_34_6 clr_34_7 clr_34_8 clr_34_5 clr_34_9 esc_35 Try.ntmps35 res_35 clr_35_0 clr_35_1 clr_35_2 clr_35_3 clr_35_4 clr_35_5 clr_35_6 clr_35_7 clr_35_8 esc_36 Try.ntmps36 res_36
attribute [go_sem] clr_36_0 clr_36_1 clr_36_2 clr_36_3 clr_36_4 clr_36_5 clr_36_6 clr_36_7 clr_36_9 clr_36_8 clr_36_10 esc_37 Try.ntmps37 res_37 clr_37_0 clr_37_1 clr_37_2 clr_37_3 clr_37_4 clr_37_6 clr_37_7 clr_37_8 clr_37_5 clr_37_9 esc_38 Try.ntmps38 res_38 clr_38_0 clr_38_1 clr_38_2 clr_38_3 clr_38_4 clr_38_6 clr_38_7 clr_38_8 clr_38_5 clr_38_9 esc_39 Try.ntmps39 res_39
attribute [go_sem] clr_39_0 clr_39_1 clr_39_2 clr_39_3 clr_39_5 clr_39_4 clr_39_6 esc_40 Try.ntmps40 res_40 clr_40_0 clr_40_1 clr_40_2 clr_40_3 clr_40_5 clr_40_6 clr_40_7 clr_40_4 clr_40_8 esc_41 Try.ntmps41 res_41 clr_41_0 clr_41_1 esc_42 Try.ntmps42 res_42 clr_42_0 clr_42_1 clr_42_2 clr_42_3 clr_42_4 clr_42_5 clr_42_6 clr_42_7 esc_43 Try.ntmps43 res_43 clr_43_0 clr_43_1
attribute [go_sem] clr_43_2 clr_43_3 clr_43_4 clr_43_5 clr_43_6 clr_43_7 clr_43_8 clr_43_9 esc_44 Try.ntmps44 res_44 clr_44_0 clr_44_1 clr_44_2 clr_44_3 esc_45 Try.ntmps45 res_45 clr_45_0 clr_45_1 clr_45_2 esc_46 Try.ntmps46 res_46 clr_46_0 clr_46_1 clr_46_2 clr_46_3 clr_46_4 clr_46_5 clr_46_7 ord_46_7 ro_46_7 clr_46_6 clr_46_8 esc_47 Try.ntmps47 res_47 clr_47_0 clr_47_1
attribute [go_sem] clr_47_2 clr_47_3 clr_47_4 clr_47_5 esc_48 Try.ntmps48 res_48 clr_48_0 clr_48_1 clr_48_2 clr_48_3 clr_48_4 clr_48_5 clr_48_6 clr_48_7 clr_48_9 ord_48_9 ro_48_9 clr_48_10 clr_48_11 clr_48_12 clr_48_8 clr_48_13 esc_49 Try.ntmps49 res_49 clr_49_0 clr_49_1 clr_49_2 clr_49_3 clr_49_4 clr_49_5 clr_49_6 clr_49_7 esc_50 Try.ntmps50 res_50 clr_50_0 clr_50_1 clr_50_2
attribute [go_sem] clr_50_3 clr_50_4 clr_50_5 clr_50_6 esc_51 Try.ntmps51 res_51 clr_51_0 clr_51_1 esc_52 Try.ntmps52 res_52 clr_52_0 clr_52_1 clr_52_2 clr_52_3 clr_52_4 clr_52_5 clr_52_6 clr_52_7 clr_52_8 esc_53 Try.ntmps53 res_53 clr_53_0 clr_53_1 esc_54 Try.ntmps54 res_54 clr_54_0 clr_54_1 esc_55 Try.ntmps55 res_55 clr_55_0 clr_55_1 clr_55_2 esc_56 Try.ntmps56 res_56
attribute [go_sem] clr_56_0 clr_56_1 clr_56_2 clr_56_3 clr_56_4 clr_56_5 esc_57 Try.ntmps57 res_57 clr_57_0 clr_57_1 esc_58 Try.ntmps58 res_58 clr_58_0 clr_58_1 clr_58_2 clr_58_3 clr_58_4 clr_58_5 clr_58_6 clr_58_7 clr_58_8 clr_58_9 clr_58_10 clr_58_11 ord_58_11 ro_58_11 clr_58_12 clr_58_13 clr_58_14 clr_58_15 ord_58_15 ro_58_15 esc_59 Try.ntmps59 res_59 clr_59_0 clr_59_1 esc_60
attribute [go_sem] Try.ntmps60 res_60 clr_60_0 clr_60_1 esc_61 Try.ntmps61 res_61 clr_61_0 clr_61_1 ord_61_1 ro_61_1 esc_62 Try.ntmps62 res_62 clr_62_0 clr_62_1 clr_62_2 clr_62_3 clr_62_4 clr_62_5 clr_62_6 clr_62_7 ord_62_7 ro_62_7 clr_62_8 clr_62_9 clr_62_10 clr_62_11 ord_62_11 ro_62_11 clr_62_12 clr_62_13 esc_63 Try.ntmps63 res_63 clr_63_0 clr_63_1 clr_63_2 esc_64 Try.ntmps64
attribute [go_sem] res_64 clr_64_0 clr_64_1 clr_64_2 clr_64_3 clr_64_4 clr_64_5 ord_64_5 ro_64_5 clr_64_6 clr_64_7 clr_64_8 clr_64_9 clr_64_10 clr_64_11 clr_64_12 clr_64_13 clr_64_14 clr_64_15 esc_65 Try.ntmps65 res_65 clr_65_0 clr_65_1 clr_65_2 clr_65_3 clr_65_4 clr_65_5 ord_65_5 ro_65_5 clr_65_6 esc_66 Try.ntmps66 res_66 clr_66_0 clr_66_1 clr_66_2 clr_66_3 clr_66_4 clr_66_5
attribute [go_sem] clr_66_6 clr_66_7 clr_66_8 clr_66_9 clr_66_10 esc_67 Try.ntmps67 res_67 clr_67_0 clr_67_1 clr_67_2 clr_67_3 clr_67_4 esc_68 Try.ntmps68 res_68 clr_68_0 clr_68_1 clr_68_2 clr_68_3 esc_69 Try.ntmps69 res_69 clr_69_0 esc_70 Try.ntmps70 res_70 clr_70_0 clr_70_1 clr_70_2 clr_70_3 clr_70_4 clr_70_5 clr_70_6 clr_70_7 clr_70_8 clr_70_9 clr_70_10 clr_70_11 clr_70_12
attribute [go_sem] esc_71 Try.ntmps71 res_71 clr_71_0 clr_71_1 esc_72 Try.ntmps72 res_72 clr_72_0 clr_72_1 clr_72_2 clr_72_3 clr_72_4 clr_72_5 esc_73 Try.ntmps73 res_73 clr_73_0 esc_74 Try.ntmps74 res_74 clr_74_0 clr_74_1 clr_74_2 clr_74_3 esc_75 Try.ntmps75 res_75 clr_75_0 clr_75_1 clr_75_2 clr_75_3 clr_75_4 clr_75_5 clr_75_6 clr_75_7 esc_76 Try.ntmps76 res_76 clr_76_0
attribute [go_sem] clr_76_1 clr_76_2 clr_76_3 clr_76_4 clr_76_5 clr_76_6 clr_76_7 clr_76_8 clr_76_9 clr_76_10 clr_76_11 clr_76_12 clr_76_13 clr_76_14 clr_76_15 esc_77 Try.ntmps77 res_77 clr_77_0 clr_77_1 clr_77_3 clr_77_4 clr_77_5 clr_77_6 clr_77_7 clr_77_8 clr_77_9 clr_77_10 clr_77_11 clr_77_12 clr_77_13 clr_77_14 clr_77_15 clr_77_16 clr_77_17 clr_77_2 clr_77_18 clr_77_19 clr_77_21 clr_77_22
attribute [go_sem] clr_77_23 clr_77_20 clr_77_24 esc_78 Try.ntmps78 res_78 clr_78_0 clr_78_1 clr_78_2 clr_78_3 esc_79 Try.ntmps79 res_79 clr_79_0 clr_79_1 clr_79_2 clr_79_3 clr_79_4 clr_79_5 clr_79_6 clr_79_8 clr_79_9 clr_79_10 clr_79_11 ord_79_11 ro_79_11 clr_79_12 clr_79_13 clr_79_14 clr_79_7 clr_79_15 clr_79_16 clr_79_17 esc_80 Try.ntmps80 res_80 clr_80_0 clr_80_1 esc_81 Try.ntmps81
attribute [go_sem] res_81 clr_81_0 clr_81_1 clr_81_2 clr_81_3 clr_81_4 clr_81_5 clr_81_6 esc_82 Try.ntmps82 res_82 clr_82_0 clr_82_1 clr_82_2 clr_82_3
end Go.Proofs.Ytojahppjdimdbaa

/- The tables of this program: types; which variables are shared, what is needed no more, in which order. Printed by gen.py. -/
import Derived.Test.YtmmhpmfgcenngaaKG
import Derived.Test.YtmmhpmfgcenngaaProg
import Derived.KernelRfl
set_option maxRecDepth 100000
namespace Go.Proofs.Ytmmhpmfgcenngaa
open Go.Proofs
theorem tsz_1 : tsz Try.prog 1 = some 1 := by kernel_rfl
theorem tag_1 : tag Try.prog 1 = some false := by kernel_rfl
theorem tcon_1 : tcon Try.prog 1 = true := by kernel_rfl
theorem tstr_1 : tstr Try.prog 1 = false := by kernel_rfl
theorem tbool_1 : tbool Try.prog 1 = false := by kernel_rfl
theorem tslc_1 : tslc Try.prog 1 = none := by kernel_rfl
theorem tarr_1 : tarr Try.prog 1 = none := by kernel_rfl
theorem tby_1 : tby Try.prog 1 = some 8 := by kernel_rfl
theorem tzr_1 : tzr Try.prog 1 = some [.raw .nilFunc] := by kernel_rfl
theorem tsz_2 : tsz Try.prog 2 = some 1 := by kernel_rfl
theorem tag_2 : tag Try.prog 2 = some false := by kernel_rfl
theorem tcon_2 : tcon Try.prog 2 = true := by kernel_rfl
theorem tstr_2 : tstr Try.prog 2 = false := by kernel_rfl
theorem tbool_2 : tbool Try.prog 2 = false := by kernel_rfl
theorem tslc_2 : tslc Try.prog 2 = none := by kernel_rfl
theorem tarr_2 : tarr Try.prog 2 = none := by kernel_rfl
theorem tby_2 : tby Try.prog 2 = some 8 := by kernel_rfl
theorem tzr_2 : tzr Try.prog 2 = some [.d (.int .i64 0)] := by kernel_rfl
theorem tsz_3 : tsz Try.prog 3 = some 1 := by kernel_rfl
theorem tag_3 : tag Try.prog 3 = some false := by kernel_rfl
theorem tcon_3 : tcon Try.prog 3 = true := by kernel_rfl
theorem tstr_3 : tstr Try.prog 3 = false := by kernel_rfl
theorem tbool_3 : tbool Try.prog 3 = false := by kernel_rfl
theorem tslc_3 : tslc Try.prog 3 = none := by kernel_rfl
theorem tarr_3 : tarr Try.prog 3 = none := by kernel_rfl
theorem tby_3 : tby Try.prog 3 = some 8 := by kernel_rfl
theorem tzr_3 : tzr Try.prog 3 = some [.d (.int .i64 0)] := by kernel_rfl
theorem tsz_4 : tsz Try.prog 4 = some 1 := by kernel_rfl
theorem tag_4 : tag Try.prog 4 = some false := by kernel_rfl
theorem tcon_4 : tcon Try.prog 4 = true := by kernel_rfl
theorem tstr_4 : tstr Try.prog 4 = false := by kernel_rfl
theorem tbool_4 : tbool Try.prog 4 = true := by kernel_rfl
theorem tslc_4 : tslc Try.prog 4 = none := by kernel_rfl
theorem tarr_4 : tarr Try.prog 4 = none := by kernel_rfl
theorem tby_4 : tby Try.prog 4 = some 1 := by kernel_rfl
theorem tzr_4 : tzr Try.prog 4 = some [.d (.bool false)] := by kernel_rfl
theorem tsz_5 : tsz Try.prog 5 = some 1 := by kernel_rfl
theorem tag_5 : tag Try.prog 5 = some false := by kernel_rfl
theorem tcon_5 : tcon Try.prog 5 = true := by kernel_rfl
theorem tstr_5 : tstr Try.prog 5 = false := by kernel_rfl
theorem tbool_5 : tbool Try.prog 5 = false := by kernel_rfl
theorem tslc_5 : tslc Try.prog 5 = none := by kernel_rfl
theorem tarr_5 : tarr Try.prog 5 = none := by kernel_rfl
theorem tby_5 : tby Try.prog 5 = some 1 := by kernel_rfl
theorem tzr_5 : tzr Try.prog 5 = some [.d (.int .u8 0)] := by kernel_rfl
theorem tsz_9 : tsz Try.prog 9 = some 1 := by kernel_rfl
theorem tag_9 : tag Try.prog 9 = some false := by kernel_rfl
theorem tcon_9 : tcon Try.prog 9 = true := by kernel_rfl
theorem tstr_9 : tstr Try.prog 9 = true := by kernel_rfl
theorem tbool_9 : tbool Try.prog 9 = false := by kernel_rfl
theorem tslc_9 : tslc Try.prog 9 = none := by kernel_rfl
theorem tarr_9 : tarr Try.prog 9 = none := by kernel_rfl
theorem tby_9 : tby Try.prog 9 = some 16 := by kernel_rfl
theorem tzr_9 : tzr Try.prog 9 = some [.d (.str ⟨#[]⟩)] := by kernel_rfl
theorem tsz_12 : tsz Try.prog 12 = some 1 := by kernel_rfl
theorem tag_12 : tag Try.prog 12 = some false := by kernel_rfl
theorem tcon_12 : tcon Try.prog 12 = true := by kernel_rfl
theorem tstr_12 : tstr Try.prog 12 = false := by kernel_rfl
theorem tbool_12 : tbool Try.prog 12 = false := by kernel_rfl
theorem tslc_12 : tslc Try.prog 12 = none := by kernel_rfl
theorem tarr_12 : tarr Try.prog 12 = none := by kernel_rfl
theorem tby_12 : tby Try.prog 12 = some 8 := by kernel_rfl
theorem tzr_12 : tzr Try.prog 12 = some [.d (.int .u64 0)] := by kernel_rfl
theorem tsz_20 : tsz Try.prog 20 = some 1 := by kernel_rfl
theorem tag_20 : tag Try.prog 20 = some false := by kernel_rfl
theorem tcon_20 : tcon Try.prog 20 = false := by kernel_rfl
theorem tstr_20 : tstr Try.prog 20 = false := by kernel_rfl
theorem tbool_20 : tbool Try.prog 20 = false := by kernel_rfl
theorem tslc_20 : tslc Try.prog 20 = none := by kernel_rfl
theorem tarr_20 : tarr Try.prog 20 = none := by kernel_rfl
theorem tby_20 : tby Try.prog 20 = some 16 := by kernel_rfl
theorem tzr_20 : tzr Try.prog 20 = some [.raw .nilIface] := by kernel_rfl
theorem tsz_21 : tsz Try.prog 21 = some 1 := by kernel_rfl
theorem tag_21 : tag Try.prog 21 = some false := by kernel_rfl
theorem tcon_21 : tcon Try.prog 21 = true := by kernel_rfl
theorem tstr_21 : tstr Try.prog 21 = false := by kernel_rfl
theorem tbool_21 : tbool Try.prog 21 = false := by kernel_rfl
theorem tslc_21 : tslc Try.prog 21 = none := by kernel_rfl
theorem tarr_21 : tarr Try.prog 21 = none := by kernel_rfl
theorem tby_21 : tby Try.prog 21 = some 4 := by kernel_rfl
theorem tzr_21 : tzr Try.prog 21 = some [.d (.int .i32 0)] := by kernel_rfl
theorem tsz_22 : tsz Try.prog 22 = some 1 := by kernel_rfl
theorem tag_22 : tag Try.prog 22 = some false := by kernel_rfl
theorem tcon_22 : tcon Try.prog 22 = true := by kernel_rfl
theorem tstr_22 : tstr Try.prog 22 = false := by kernel_rfl
theorem tbool_22 : tbool Try.prog 22 = false := by kernel_rfl
theorem tslc_22 : tslc Try.prog 22 = some 24 := by kernel_rfl
theorem tarr_22 : tarr Try.prog 22 = none := by kernel_rfl
theorem tby_22 : tby Try.prog 22 = some 24 := by kernel_rfl
theorem tzr_22 : tzr Try.prog 22 = some [.clip []] := by kernel_rfl
theorem tsz_23 : tsz Try.prog 23 = some 3 := by kernel_rfl
theorem tag_23 : tag Try.prog 23 = some true := by kernel_rfl
theorem tcon_23 : tcon Try.prog 23 = true := by kernel_rfl
theorem tstr_23 : tstr Try.prog 23 = false := by kernel_rfl
theorem tbool_23 : tbool Try.prog 23 = false := by kernel_rfl
theorem tslc_23 : tslc Try.prog 23 = none := by kernel_rfl
theorem tarr_23 : tarr Try.prog 23 = none := by kernel_rfl
theorem tby_23 : tby Try.prog 23 = some 40 := by kernel_rfl
theorem tzr_23 : tzr Try.prog 23 = some [.d (.int .i64 0), .d (.int .i64 0), .clip []] := by kernel_rfl
theorem tfld_23_0 : tfld Try.prog 23 0 = some (0, 1, 3) := by kernel_rfl
theorem place_23_0 : place Try.prog 23 0 = some (0, 1) := by kernel_rfl
theorem tfld_23_1 : tfld Try.prog 23 1 = some (1, 1, 3) := by kernel_rfl
theorem place_23_1 : place Try.prog 23 1 = some (1, 1) := by kernel_rfl
theorem tfld_23_2 : tfld Try.prog 23 2 = some (2, 1, 22) := by kernel_rfl
theorem place_23_2 : place Try.prog 23 2 = some (2, 1) := by kernel_rfl
theorem tbld_23 : tbld Try.prog 23 = true := by kernel_rfl
theorem tsz_24 : tsz Try.prog 24 = some 3 := by kernel_rfl
theorem tag_24 : tag Try.prog 24 = some true := by kernel_rfl
theorem tcon_24 : tcon Try.prog 24 = true := by kernel_rfl
theorem tstr_24 : tstr Try.prog 24 = false := by kernel_rfl
theorem tbool_24 : tbool Try.prog 24 = false := by kernel_rfl
theorem tslc_24 : tslc Try.prog 24 = none := by kernel_rfl
theorem tarr_24 : tarr Try.prog 24 = none := by kernel_rfl
theorem tby_24 : tby Try.prog 24 = some 40 := by kernel_rfl
theorem tzr_24 : tzr Try.prog 24 = some [.d (.int .i64 0), .d (.int .i64 0), .clip []] := by kernel_rfl
theorem tfld_24_0 : tfld Try.prog 24 0 = some (0, 1, 3) := by kernel_rfl
theorem place_24_0 : place Try.prog 24 0 = some (0, 1) := by kernel_rfl
theorem tfld_24_1 : tfld Try.prog 24 1 = some (1, 1, 3) := by kernel_rfl
theorem place_24_1 : place Try.prog 24 1 = some (1, 1) := by kernel_rfl
theorem tfld_24_2 : tfld Try.prog 24 2 = some (2, 1, 22) := by kernel_rfl
theorem place_24_2 : place Try.prog 24 2 = some (2, 1) := by kernel_rfl
theorem tbld_24 : tbld Try.prog 24 = true := by kernel_rfl
theorem tsz_25 : tsz Try.prog 25 = some 1 := by kernel_rfl
theorem tag_25 : tag Try.prog 25 = some false := by kernel_rfl
theorem tcon_25 : tcon Try.prog 25 = true := by kernel_rfl
theorem tstr_25 : tstr Try.prog 25 = false := by kernel_rfl
theorem tbool_25 : tbool Try.prog 25 = false := by kernel_rfl
theorem tslc_25 : tslc Try.prog 25 = none := by kernel_rfl
theorem tarr_25 : tarr Try.prog 25 = none := by kernel_rfl
theorem tby_25 : tby Try.prog 25 = some 8 := by kernel_rfl
theorem tzr_25 : tzr Try.prog 25 = some [.raw .nilFunc] := by kernel_rfl
theorem tsz_26 : tsz Try.prog 26 = some 1 := by kernel_rfl
theorem tag_26 : tag Try.prog 26 = some false := by kernel_rfl
theorem tcon_26 : tcon Try.prog 26 = true := by kernel_rfl
theorem tstr_26 : tstr Try.prog 26 = false := by kernel_rfl
theorem tbool_26 : tbool Try.prog 26 = false := by kernel_rfl
theorem tslc_26 : tslc Try.prog 26 = none := by kernel_rfl
theorem tarr_26 : tarr Try.prog 26 = none := by kernel_rfl
theorem tby_26 : tby Try.prog 26 = some 8 := by kernel_rfl
theorem tzr_26 : tzr Try.prog 26 = some [.raw .nilFunc] := by kernel_rfl
theorem tsz_27 : tsz Try.prog 27 = some 1 := by kernel_rfl
theorem tag_27 : tag Try.prog 27 = some false := by kernel_rfl
theorem tcon_27 : tcon Try.prog 27 = true := by kernel_rfl
theorem tstr_27 : tstr Try.prog 27 = false := by kernel_rfl
theorem tbool_27 : tbool Try.prog 27 = false := by kernel_rfl
theorem tslc_27 : tslc Try.prog 27 = none := by kernel_rfl
theorem tarr_27 : tarr Try.prog 27 = none := by kernel_rfl
theorem tby_27 : tby Try.prog 27 = some 8 := by kernel_rfl
theorem tzr_27 : tzr Try.prog 27 = some [.raw .nilFunc] := by kernel_rfl
theorem tsz_28 : tsz Try.prog 28 = some 1 := by kernel_rfl
theorem tag_28 : tag Try.prog 28 = some false := by kernel_rfl
theorem tcon_28 : tcon Try.prog 28 = true := by kernel_rfl
theorem tstr_28 : tstr Try.prog 28 = false := by kernel_rfl
theorem tbool_28 : tbool Try.prog 28 = false := by kernel_rfl
theorem tslc_28 : tslc Try.prog 28 = none := by kernel_rfl
theorem tarr_28 : tarr Try.prog 28 = none := by kernel_rfl
theorem tby_28 : tby Try.prog 28 = some 8 := by kernel_rfl
theorem tzr_28 : tzr Try.prog 28 = some [.raw .nilFunc] := by kernel_rfl
theorem tsz_29 : tsz Try.prog 29 = some 1 := by kernel_rfl
theorem tag_29 : tag Try.prog 29 = some false := by kernel_rfl
theorem tcon_29 : tcon Try.prog 29 = true := by kernel_rfl
theorem tstr_29 : tstr Try.prog 29 = false := by kernel_rfl
theorem tbool_29 : tbool Try.prog 29 = false := by kernel_rfl
theorem tslc_29 : tslc Try.prog 29 = none := by kernel_rfl
theorem tarr_29 : tarr Try.prog 29 = none := by kernel_rfl
theorem tby_29 : tby Try.prog 29 = some 8 := by kernel_rfl
theorem tzr_29 : tzr Try.prog 29 = some [.raw .nilFunc] := by kernel_rfl
theorem tsz_30 : tsz Try.prog 30 = some 1 := by kernel_rfl
theorem tag_30 : tag Try.prog 30 = some false := by kernel_rfl
theorem tcon_30 : tcon Try.prog 30 = true := by kernel_rfl
theorem tstr_30 : tstr Try.prog 30 = false := by kernel_rfl
theorem tbool_30 : tbool Try.prog 30 = false := by kernel_rfl
theorem tslc_30 : tslc Try.prog 30 = none := by kernel_rfl
theorem tarr_30 : tarr Try.prog 30 = none := by kernel_rfl
theorem tby_30 : tby Try.prog 30 = some 8 := by kernel_rfl
theorem tzr_30 : tzr Try.prog 30 = some [.raw .nilFunc] := by kernel_rfl
theorem tsz_31 : tsz Try.prog 31 = some 1 := by kernel_rfl
theorem tag_31 : tag Try.prog 31 = some false := by kernel_rfl
theorem tcon_31 : tcon Try.prog 31 = true := by kernel_rfl
theorem tstr_31 : tstr Try.prog 31 = false := by kernel_rfl
theorem tbool_31 : tbool Try.prog 31 = false := by kernel_rfl
theorem tslc_31 : tslc Try.prog 31 = none := by kernel_rfl
theorem tarr_31 : tarr Try.prog 31 = none := by kernel_rfl
theorem tby_31 : tby Try.prog 31 = some 8 := by kernel_rfl
theorem tzr_31 : tzr Try.prog 31 = some [.raw .nilFunc] := by kernel_rfl
theorem tsz_33 : tsz Try.prog 33 = some 1 := by kernel_rfl
theorem tag_33 : tag Try.prog 33 = some false := by kernel_rfl
theorem tcon_33 : tcon Try.prog 33 = true := by kernel_rfl
theorem tstr_33 : tstr Try.prog 33 = false := by kernel_rfl
theorem tbool_33 : tbool Try.prog 33 = false := by kernel_rfl
theorem tslc_33 : tslc Try.prog 33 = none := by kernel_rfl
theorem tarr_33 : tarr Try.prog 33 = none := by kernel_rfl
theorem tby_33 : tby Try.prog 33 = some 8 := by kernel_rfl
theorem tzr_33 : tzr Try.prog 33 = some [.raw .nilFunc] := by kernel_rfl
theorem tsz_34 : tsz Try.prog 34 = some 1 := by kernel_rfl
theorem tag_34 : tag Try.prog 34 = some false := by kernel_rfl
theorem tcon_34 : tcon Try.prog 34 = true := by kernel_rfl
theorem tstr_34 : tstr Try.prog 34 = false := by kernel_rfl
theorem tbool_34 : tbool Try.prog 34 = false := by kernel_rfl
theorem tslc_34 : tslc Try.prog 34 = none := by kernel_rfl
theorem tarr_34 : tarr Try.prog 34 = none := by kernel_rfl
theorem tby_34 : tby Try.prog 34 = some 8 := by kernel_rfl
theorem tzr_34 : tzr Try.prog 34 = some [.raw .nilFunc] := by kernel_rfl
theorem tsz_35 : tsz Try.prog 35 = some 1 := by kernel_rfl
theorem tag_35 : tag Try.prog 35 = some false := by kernel_rfl
theorem tcon_35 : tcon Try.prog 35 = true := by kernel_rfl
theorem tstr_35 : tstr Try.prog 35 = false := by kernel_rfl
theorem tbool_35 : tbool Try.prog 35 = false := by kernel_rfl
theorem tslc_35 : tslc Try.prog 35 = none := by kernel_rfl
theorem tarr_35 : tarr Try.prog 35 = none := by kernel_rfl
theorem tby_35 : tby Try.prog 35 = some 8 := by kernel_rfl
theorem tzr_35 : tzr Try.prog 35 = some [.raw .nilFunc] := by kernel_rfl
theorem tsz_36 : tsz Try.prog 36 = some 1 := by kernel_rfl
theorem tag_36 : tag Try.prog 36 = some false := by kernel_rfl
theorem tcon_36 : tcon Try.prog 36 = true := by kernel_rfl
theorem tstr_36 : tstr Try.prog 36 = false := by kernel_rfl
theorem tbool_36 : tbool Try.prog 36 = false := by kernel_rfl
theorem tslc_36 : tslc Try.prog 36 = none := by kernel_rfl
theorem tarr_36 : tarr Try.prog 36 = none := by kernel_rfl
theorem tby_36 : tby Try.prog 36 = some 8 := by kernel_rfl
theorem tzr_36 : tzr Try.prog 36 = some [.raw .nilFunc] := by kernel_rfl
theorem tsz_37 : tsz Try.prog 37 = some 1 := by kernel_rfl
theorem tag_37 : tag Try.prog 37 = some false := by kernel_rfl
theorem tcon_37 : tcon Try.prog 37 = true := by kernel_rfl
theorem tstr_37 : tstr Try.prog 37 = false := by kernel_rfl
theorem tbool_37 : tbool Try.prog 37 = false := by kernel_rfl
theorem tslc_37 : tslc Try.prog 37 = none := by kernel_rfl
theorem tarr_37 : tarr Try.prog 37 = none := by kernel_rfl
theorem tby_37 : tby Try.prog 37 = some 8 := by kernel_rfl
theorem tzr_37 : tzr Try.prog 37 = some [.raw .nilFunc] := by kernel_rfl
theorem tsz_38 : tsz Try.prog 38 = some 1 := by kernel_rfl
theorem tag_38 : tag Try.prog 38 = some false := by kernel_rfl
theorem tcon_38 : tcon Try.prog 38 = true := by kernel_rfl
theorem tstr_38 : tstr Try.prog 38 = false := by kernel_rfl
theorem tbool_38 : tbool Try.prog 38 = false := by kernel_rfl
theorem tslc_38 : tslc Try.prog 38 = none := by kernel_rfl
theorem tarr_38 : tarr Try.prog 38 = none := by kernel_rfl
theorem tby_38 : tby Try.prog 38 = some 8 := by kernel_rfl
theorem tzr_38 : tzr Try.prog 38 = some [.raw .nilFunc] := by kernel_rfl
theorem tsz_39 : tsz Try.prog 39 = some 1 := by kernel_rfl
theorem tag_39 : tag Try.prog 39 = some false := by kernel_rfl
theorem tcon_39 : tcon Try.prog 39 = true := by kernel_rfl
theorem tstr_39 : tstr Try.prog 39 = false := by kernel_rfl
theorem tbool_39 : tbool Try.prog 39 = false := by kernel_rfl
theorem tslc_39 : tslc Try.prog 39 = none := by kernel_rfl
theorem tarr_39 : tarr Try.prog 39 = none := by kernel_rfl
theorem tby_39 : tby Try.prog 39 = some 8 := by kernel_rfl
theorem tzr_39 : tzr Try.prog 39 = some [.raw .nilFunc] := by kernel_rfl
theorem tsz_40 : tsz Try.prog 40 = some 1 := by kernel_rfl
theorem tag_40 : tag Try.prog 40 = some false := by kernel_rfl
theorem tcon_40 : tcon Try.prog 40 = true := by kernel_rfl
theorem tstr_40 : tstr Try.prog 40 = false := by kernel_rfl
theorem tbool_40 : tbool Try.prog 40 = false := by kernel_rfl
theorem tslc_40 : tslc Try.prog 40 = none := by kernel_rfl
theorem tarr_40 : tarr Try.prog 40 = none := by kernel_rfl
theorem tby_40 : tby Try.prog 40 = some 8 := by kernel_rfl
theorem tzr_40 : tzr Try.prog 40 = some [.raw .nilFunc] := by kernel_rfl
theorem tsz_41 : tsz Try.prog 41 = some 1 := by kernel_rfl
theorem tag_41 : tag Try.prog 41 = some false := by kernel_rfl
theorem tcon_41 : tcon Try.prog 41 = true := by kernel_rfl
theorem tstr_41 : tstr Try.prog 41 = false := by kernel_rfl
theorem tbool_41 : tbool Try.prog 41 = false := by kernel_rfl
theorem tslc_41 : tslc Try.prog 41 = none := by kernel_rfl
theorem tarr_41 : tarr Try.prog 41 = none := by kernel_rfl
theorem tby_41 : tby Try.prog 41 = some 8 := by kernel_rfl
theorem tzr_41 : tzr Try.prog 41 = some [.raw .nilFunc] := by kernel_rfl
theorem tsz_42 : tsz Try.prog 42 = some 2 := by kernel_rfl
theorem tag_42 : tag Try.prog 42 = some true := by kernel_rfl
theorem tcon_42 : tcon Try.prog 42 = true := by kernel_rfl
theorem tstr_42 : tstr Try.prog 42 = false := by kernel_rfl
theorem tbool_42 : tbool Try.prog 42 = false := by kernel_rfl
theorem tslc_42 : tslc Try.prog 42 = none := by kernel_rfl
theorem tarr_42 : tarr Try.prog 42 = none := by kernel_rfl
theorem tby_42 : tby Try.prog 42 = some 16 := by kernel_rfl
theorem tzr_42 : tzr Try.prog 42 = some [.d (.int .i64 0), .d (.int .i64 0)] := by kernel_rfl
theorem tfld_42_0 : tfld Try.prog 42 0 = some (0, 1, 3) := by kernel_rfl
theorem place_42_0 : place Try.prog 42 0 = some (0, 1) := by kernel_rfl
theorem tfld_42_1 : tfld Try.prog 42 1 = some (1, 1, 3) := by kernel_rfl
theorem place_42_1 : place Try.prog 42 1 = some (1, 1) := by kernel_rfl
theorem tbld_42 : tbld Try.prog 42 = true := by kernel_rfl
theorem tsz_43 : tsz Try.prog 43 = some 2 := by kernel_rfl
theorem tag_43 : tag Try.prog 43 = some true := by kernel_rfl
theorem tcon_43 : tcon Try.prog 43 = true := by kernel_rfl
theorem tstr_43 : tstr Try.prog 43 = false := by kernel_rfl
theorem tbool_43 : tbool Try.prog 43 = false := by kernel_rfl
theorem tslc_43 : tslc Try.prog 43 = none := by kernel_rfl
theorem tarr_43 : tarr Try.prog 43 = none := by kernel_rfl
theorem tby_43 : tby Try.prog 43 = some 16 := by kernel_rfl
theorem tzr_43 : tzr Try.prog 43 = some [.d (.int .i64 0), .d (.int .i64 0)] := by kernel_rfl
theorem tfld_43_0 : tfld Try.prog 43 0 = some (0, 1, 3) := by kernel_rfl
theorem place_43_0 : place Try.prog 43 0 = some (0, 1) := by kernel_rfl
theorem tfld_43_1 : tfld Try.prog 43 1 = some (1, 1, 3) := by kernel_rfl
theorem place_43_1 : place Try.prog 43 1 = some (1, 1) := by kernel_rfl
theorem tbld_43 : tbld Try.prog 43 = true := by kernel_rfl
theorem tsz_44 : tsz Try.prog 44 = some 1 := by kernel_rfl
theorem tag_44 : tag Try.prog 44 = some false := by kernel_rfl
theorem tcon_44 : tcon Try.prog 44 = true := by kernel_rfl
theorem tstr_44 : tstr Try.prog 44 = false := by kernel_rfl
theorem tbool_44 : tbool Try.prog 44 = false := by kernel_rfl
theorem tslc_44 : tslc Try.prog 44 = none := by kernel_rfl
theorem tarr_44 : tarr Try.prog 44 = none := by kernel_rfl
theorem tby_44 : tby Try.prog 44 = some 8 := by kernel_rfl
theorem tzr_44 : tzr Try.prog 44 = some [.raw .nilFunc] := by kernel_rfl
theorem tsz_47 : tsz Try.prog 47 = some 1 := by kernel_rfl
theorem tag_47 : tag Try.prog 47 = some false := by kernel_rfl
theorem tcon_47 : tcon Try.prog 47 = true := by kernel_rfl
theorem tstr_47 : tstr Try.prog 47 = false := by kernel_rfl
theorem tbool_47 : tbool Try.prog 47 = false := by kernel_rfl
theorem tslc_47 : tslc Try.prog 47 = none := by kernel_rfl
theorem tarr_47 : tarr Try.prog 47 = none := by kernel_rfl
theorem tby_47 : tby Try.prog 47 = some 8 := by kernel_rfl
theorem tzr_47 : tzr Try.prog 47 = some [.raw .nilFunc] := by kernel_rfl
theorem tsz_48 : tsz Try.prog 48 = some 1 := by kernel_rfl
theorem tag_48 : tag Try.prog 48 = some false := by kernel_rfl
theorem tcon_48 : tcon Try.prog 48 = true := by kernel_rfl
theorem tstr_48 : tstr Try.prog 48 = false := by kernel_rfl
theorem tbool_48 : tbool Try.prog 48 = false := by kernel_rfl
theorem tslc_48 : tslc Try.prog 48 = none := by kernel_rfl
theorem tarr_48 : tarr Try.prog 48 = none := by kernel_rfl
theorem tby_48 : tby Try.prog 48 = some 8 := by kernel_rfl
theorem tzr_48 : tzr Try.prog 48 = some [.raw .nilFunc] := by kernel_rfl
theorem tsz_49 : tsz Try.prog 49 = some 1 := by kernel_rfl
theorem tag_49 : tag Try.prog 49 = some false := by kernel_rfl
theorem tcon_49 : tcon Try.prog 49 = true := by kernel_rfl
theorem tstr_49 : tstr Try.prog 49 = false := by kernel_rfl
theorem tbool_49 : tbool Try.prog 49 = false := by kernel_rfl
theorem tslc_49 : tslc Try.prog 49 = none := by kernel_rfl
theorem tarr_49 : tarr Try.prog 49 = none := by kernel_rfl
theorem tby_49 : tby Try.prog 49 = some 8 := by kernel_rfl
theorem tzr_49 : tzr Try.prog 49 = some [.raw .nilFunc] := by kernel_rfl
theorem tsz_55 : tsz Try.prog 55 = some 1 := by kernel_rfl
theorem tag_55 : tag Try.prog 55 = some false := by kernel_rfl
theorem tcon_55 : tcon Try.prog 55 = true := by kernel_rfl
theorem tstr_55 : tstr Try.prog 55 = false := by kernel_rfl
theorem tbool_55 : tbool Try.prog 55 = false := by kernel_rfl
theorem tslc_55 : tslc Try.prog 55 = none := by kernel_rfl
theorem tarr_55 : tarr Try.prog 55 = none := by kernel_rfl
theorem tby_55 : tby Try.prog 55 = some 8 := by kernel_rfl
theorem tzr_55 : tzr Try.prog 55 = some [.raw .nilFunc] := by kernel_rfl
theorem tsz_56 : tsz Try.prog 56 = some 1 := by kernel_rfl
theorem tag_56 : tag Try.prog 56 = some false := by kernel_rfl
theorem tcon_56 : tcon Try.prog 56 = true := by kernel_rfl
theorem tstr_56 : tstr Try.prog 56 = false := by kernel_rfl
theorem tbool_56 : tbool Try.prog 56 = false := by kernel_rfl
theorem tslc_56 : tslc Try.prog 56 = none := by kernel_rfl
theorem tarr_56 : tarr Try.prog 56 = none := by kernel_rfl
theorem tby_56 : tby Try.prog 56 = some 4 := by kernel_rfl
theorem tzr_56 : tzr Try.prog 56 = some [.d (.int .u32 0)] := by kernel_rfl
theorem tsz_59 : tsz Try.prog 59 = some 1 := by kernel_rfl
theorem tag_59 : tag Try.prog 59 = some false := by kernel_rfl
theorem tcon_59 : tcon Try.prog 59 = true := by kernel_rfl
theorem tstr_59 : tstr Try.prog 59 = false := by kernel_rfl
theorem tbool_59 : tbool Try.prog 59 = false := by kernel_rfl
theorem tslc_59 : tslc Try.prog 59 = none := by kernel_rfl
theorem tarr_59 : tarr Try.prog 59 = none := by kernel_rfl
theorem tby_59 : tby Try.prog 59 = some 8 := by kernel_rfl
theorem tzr_59 : tzr Try.prog 59 = some [.raw .nilFunc] := by kernel_rfl
theorem tsz_60 : tsz Try.prog 60 = some 1 := by kernel_rfl
theorem tag_60 : tag Try.prog 60 = some false := by kernel_rfl
theorem tcon_60 : tcon Try.prog 60 = true := by kernel_rfl
theorem tstr_60 : tstr Try.prog 60 = false := by kernel_rfl
theorem tbool_60 : tbool Try.prog 60 = false := by kernel_rfl
theorem tslc_60 : tslc Try.prog 60 = none := by kernel_rfl
theorem tarr_60 : tarr Try.prog 60 = none := by kernel_rfl
theorem tby_60 : tby Try.prog 60 = some 8 := by kernel_rfl
theorem tzr_60 : tzr Try.prog 60 = some [.raw (.pointer none)] := by kernel_rfl
def escT : Nat → List Nat
  | 9 => [3]
  | 15 => [4, 5]
  | 19 => [1]
  | 20 => [3, 4]
  | 24 => [3, 4, 5]
  | _ => []
def clrT' : Nat → Nat → List Nat
  | 3, 0 => [0, 2]
  | 3, 1 => [7]
  | 3, 2 => [8, 9]
  | 3, 3 => [4, 10, 11, 12, 13, 14, 15, 16, 17, 18, 19, 20]
  | 3, 4 => [1, 3, 21, 22]
  | 3, 5 => [3, 21, 23, 24, 25, 26, 27]
  | 3, 6 => [28, 29]
  | 3, 7 => [30, 31, 32, 33, 34, 35]
  | 3, 8 => [1, 5, 6, 36]
  | 3, 9 => [36, 37, 38, 39, 40, 41, 42, 43, 44, 45, 46]
  | 3, 10 => [1, 5, 6, 47, 48, 49, 50, 51, 52, 53, 54, 55, 56, 57, 58, 59, 60, 61, 62, 63, 64, 65, 66]
  | 4, 0 => [0, 4]
  | 4, 1 => [11]
  | 4, 2 => [12, 13]
  | 4, 3 => [6, 14, 15, 16, 17, 18, 19, 20, 21, 22, 23, 24, 25, 26, 27, 28, 29, 30, 31, 32, 33, 34, 35, 36, 37]
  | 4, 4 => [1, 2, 5, 38, 39]
  | 4, 5 => [5, 38, 40, 41, 42, 43, 44]
  | 4, 6 => [45, 46, 47]
  | 4, 7 => [1, 48, 49, 50, 51, 52, 53]
  | 4, 8 => [10, 54, 55, 56, 57, 58, 59, 60, 61, 62, 63, 64, 65, 66]
  | 4, 9 => [2, 7, 8, 9, 67]
  | 4, 10 => [8, 67, 68, 69, 70, 71]
  | 4, 11 => [9, 72, 73, 74, 75]
  | 4, 12 => [2, 7, 76, 77, 78, 79, 80, 81, 82]
  | 5, 0 => [0]
  | 5, 1 => [2, 3, 4]
  | 5, 2 => [1, 5, 6, 7, 8, 9, 10, 11, 12, 13, 14, 15, 16, 17, 18, 19, 20, 21, 22, 23, 24, 25, 26, 27, 28]
  | 6, 0 => [0, 6]
  | 6, 1 => [8, 9]
  | 6, 2 => [1, 2, 3, 7, 10, 11, 12, 13, 14, 15, 16, 17, 18, 19, 20, 21, 22]
  | 7, 0 => [0]
  | 7, 2 => [6]
  | 7, 4 => [10, 11, 12]
  | 7, 5 => [5, 13, 14, 15, 16, 17]
  | 7, 6 => [18]
  | 7, 7 => [1, 3, 7, 8, 9, 10, 19, 20, 21, 22, 23, 24]
  | 8, 0 => [0, 1, 4]
  | 8, 1 => [7, 8, 9, 10, 11, 12, 13, 14, 15, 16, 17, 18, 19, 20, 21, 22, 23, 24, 25, 26]
  | 8, 2 => [2, 3, 27]
  | 8, 3 => [2, 27, 28]
  | 8, 5 => [32, 33, 34, 35]
  | 8, 6 => [5, 6, 36, 37, 38, 39, 40, 41, 42]
  | 8, 7 => [3, 29, 30, 31, 43]
  | 8, 8 => [43, 44]
  | 8, 9 => [3, 29, 30, 31, 32]
  | 9, 0 => [0]
  | 9, 2 => [1, 4]
  | 9, 3 => [2, 3, 5, 6, 7, 8, 9]
  | 9, 4 => [3, 5, 10]
  | 10, 0 => [0]
  | 10, 1 => [6, 7, 8]
  | 10, 2 => [9, 10]
  | 10, 3 => [11, 12]
  | 10, 4 => [1, 4, 13, 14, 15, 16, 17]
  | 10, 5 => [2, 3, 5, 18, 19, 20, 21, 22, 23, 24, 25, 26, 27, 28, 29, 30, 31, 32, 33, 34, 35, 36, 37, 38, 39, 40, 41, 42, 43, 44, 45, 46, 47]
  | 11, 0 => [0, 2]
  | 11, 1 => [1, 3, 4, 5, 6, 7, 8, 9, 10, 11, 12, 13, 14]
  | 12, 0 => [0]
  | 12, 1 => [9, 10, 11, 12]
  | 12, 2 => [1, 2, 3, 13, 14, 15]
  | 12, 3 => [1, 2, 3, 8, 13, 16, 17, 18, 19, 20, 21, 22, 23, 24]
  | 12, 4 => [7, 25]
  | 13, 0 => [0, 7]
  | 13, 1 => [8, 9, 10, 11]
  | 13, 2 => [1, 2, 3, 12, 13]
  | 13, 3 => [1, 2, 3, 12, 14, 15, 16, 17, 18, 19, 20, 21]
  | 14, 0 => [0, 2]
  | 14, 2 => [1, 6]
  | 14, 4 => [10, 11, 12]
  | 14, 5 => [5, 13, 14, 15, 16]
  | 14, 6 => [17]
  | 14, 7 => [3, 7, 8, 9, 10, 18, 19]
  | 15, 0 => [0, 1, 2, 6]
  | 15, 1 => [3, 4, 5, 7, 8, 9]
  | 16, 0 => [0, 2]
  | 16, 1 => [5, 6]
  | 16, 2 => [1, 7]
  | 16, 3 => [7]
  | 16, 4 => [8, 9, 10, 11]
  | 16, 6 => [12, 15, 16, 17, 18, 19, 20]
  | 16, 7 => [4, 21]
  | 16, 8 => [1, 3, 22]
  | 16, 5 => [13, 14, 22]
  | 16, 9 => [1, 3, 12]
  | 17, 0 => [0, 2]
  | 17, 3 => [5, 6, 7, 8]
  | 17, 5 => [9, 12, 13, 14, 15, 16, 17, 18, 19]
  | 17, 4 => [10, 11]
  | 17, 6 => [1, 3, 4, 9, 20]
  | 18, 0 => [0, 2]
  | 18, 3 => [6, 7, 8, 9]
  | 18, 5 => [10, 13, 14, 15, 16, 17, 18]
  | 18, 6 => [19, 20]
  | 18, 7 => [5, 21, 22]
  | 18, 4 => [5, 11, 12, 21]
  | 18, 8 => [1, 3, 4, 10, 23, 24]
  | 19, 0 => [0, 2]
  | 19, 1 => [1, 3]
  | 20, 0 => [0, 1]
  | 20, 1 => [2, 7]
  | 20, 2 => [8, 9]
  | 20, 3 => [10]
  | 20, 4 => [3, 5, 6, 11, 12, 13, 14]
  | 20, 5 => [15]
  | 20, 6 => [3, 8]
  | 21, 0 => [0, 1, 4]
  | 21, 1 => [3, 5, 6]
  | 22, 0 => [0, 2]
  | 22, 1 => [3]
  | 22, 2 => [6]
  | 22, 3 => [1, 4, 5, 7, 8, 9, 10, 11, 12, 13, 14, 15]
  | 22, 4 => [5, 17]
  | 22, 5 => [1, 4, 16, 18, 19, 20, 21, 22, 23, 24, 25, 26]
  | 22, 6 => [4, 16, 28]
  | 22, 7 => [1, 27, 29, 30, 31, 32, 33, 34, 35, 36, 37]
  | 22, 8 => [1, 27, 38, 39, 40, 41, 42, 43, 44, 45, 46, 47, 48, 49, 50]
  | 23, 0 => [0, 6]
  | 23, 1 => [1, 2, 3, 7, 8, 9, 10, 11, 12, 13, 14, 15, 16, 17, 18, 19, 20, 21, 22, 23, 24]
  | 24, 0 => [0, 1, 2, 7]
  | 24, 1 => [11, 12]
  | 24, 2 => [13, 14]
  | 24, 3 => [15, 16, 17, 18, 19, 20, 21, 22, 23]
  | 24, 4 => [9, 15, 24]
  | 24, 5 => [3, 4, 5, 8, 25, 26]
  | 24, 6 => [4, 5, 25, 27, 28, 29, 30, 31, 32, 33]
  | 24, 7 => [9, 34]
  | 24, 8 => [3, 8, 10, 35, 36]
  | 24, 9 => [3, 8, 10, 35, 37, 38, 39, 40, 41]
  | 25, 0 => [0, 6, 7]
  | 25, 1 => [2, 8, 9, 10, 11, 12]
  | 25, 2 => [1, 3, 13, 14, 15, 16, 17]
  | 25, 3 => [1, 3, 13, 18]
  | 26, 0 => [0, 6, 7]
  | 26, 1 => [9, 10, 11, 12, 13, 14]
  | 26, 2 => [1, 2, 3, 8, 15]
  | 26, 3 => [2, 8, 17, 18, 19, 20, 21, 22, 23, 24, 25]
  | 26, 4 => [1, 3, 16]
  | 26, 5 => [1, 3, 16, 26, 27, 28, 29]
  | 27, 0 => [1, 6]
  | 27, 1 => [0, 2, 3, 5, 7, 8, 9, 10, 11, 12, 13, 14, 15, 16, 17, 18, 19, 20, 21, 22, 23, 24, 25, 26, 27, 28]
  | 28, 0 => [0, 1, 3, 4, 5]
  | 29, 0 => [0, 6]
  | 29, 1 => [10, 11, 12, 13]
  | 29, 2 => [1, 2, 3, 14]
  | 29, 3 => [14, 15]
  | 29, 5 => [19, 20, 21, 22]
  | 29, 6 => [23]
  | 29, 7 => [7, 24, 25, 26, 27, 28, 29, 30, 31, 32]
  | 29, 8 => [33, 34, 35]
  | 29, 9 => [8, 9, 33, 36, 37, 38, 39]
  | 29, 10 => [1, 2, 3, 16, 17, 18, 40]
  | 29, 11 => [40, 41]
  | 29, 12 => [1, 2, 3, 16, 17, 18, 19]
  | 30, 0 => [4, 5]
  | 30, 2 => [0]
  | 30, 4 => [14, 15, 16, 17]
  | 30, 5 => [7, 8, 18, 19, 20, 21, 22, 23, 24]
  | 30, 6 => [10, 25]
  | 30, 7 => [1, 6, 9, 11, 12, 13, 26]
  | 30, 8 => [9, 26, 27, 28, 29, 30]
  | 30, 9 => [31]
  | 30, 10 => [1, 6, 11, 12, 13, 14, 32]
  | 31, 0 => [1, 8]
  | 31, 1 => [2, 10]
  | 31, 2 => [0, 3, 11, 12, 13, 14, 15, 16, 17, 18, 19, 20, 21, 22, 23, 24, 25]
  | 31, 3 => [26, 27, 28]
  | 31, 4 => [4, 6, 9, 26, 29, 30, 31, 32, 33, 34]
  | 32, 0 => [0, 2]
  | 32, 1 => [1, 3, 4, 5, 6, 7, 8, 9, 10]
  | _, _ => []
def ordT : Nat → Nat → List Nat
  | 3, 9 => [0, 1, 2, 3, 4, 5, 6, 7, 8, 9, 10]
  | 3, 10 => [0, 1, 2, 3, 4, 5, 6, 7, 8, 9, 10, 11, 12, 13, 14, 15, 16, 17, 18, 19, 20]
  | 8, 6 => [0, 1, 2, 3, 4, 5, 6, 7]
  | _, _ => []
def roT : Nat → Nat → Bool
  | 3, 10 => true
  | 8, 6 => true
  | _, _ => false
noncomputable def C : Cfg := { P := Try.prog, esc := escT, thr := [19], clr := clrT', ord := ordT, ro := roT, ext := extT }
theorem C_P : C.P = Try.prog := rfl
theorem C_thr : C.thr = [19] := rfl
theorem res_3 : Try.f3.results.toList = [.tmp 2] := rfl
theorem esc_3 : C.esc 3 = [] := rfl
theorem clr_3_0 : C.clr 3 0 = [0, 2] := rfl
theorem clr_3_1 : C.clr 3 1 = [7] := rfl
theorem clr_3_2 : C.clr 3 2 = [8, 9] := rfl
theorem clr_3_3 : C.clr 3 3 = [4, 10, 11, 12, 13, 14, 15, 16, 17, 18, 19, 20] := rfl
theorem clr_3_4 : C.clr 3 4 = [1, 3, 21, 22] := rfl
theorem clr_3_5 : C.clr 3 5 = [3, 21, 23, 24, 25, 26, 27] := rfl
theorem clr_3_6 : C.clr 3 6 = [28, 29] := rfl
theorem clr_3_7 : C.clr 3 7 = [30, 31, 32, 33, 34, 35] := rfl
theorem clr_3_8 : C.clr 3 8 = [1, 5, 6, 36] := rfl
theorem clr_3_9 : C.clr 3 9 = [36, 37, 38, 39, 40, 41, 42, 43, 44, 45, 46] := rfl
theorem ord_3_9 : C.ord 3 9 = [0, 1, 2, 3, 4, 5, 6, 7, 8, 9, 10] := rfl
theorem ro_3_9 : C.ro 3 9 = false := rfl
theorem clr_3_10 : C.clr 3 10 = [1, 5, 6, 47, 48, 49, 50, 51, 52, 53, 54, 55, 56, 57, 58, 59, 60, 61, 62, 63, 64, 65, 66] := rfl
theorem ord_3_10 : C.ord 3 10 = [0, 1, 2, 3, 4, 5, 6, 7, 8, 9, 10, 11, 12, 13, 14, 15, 16, 17, 18, 19, 20] := rfl
theorem ro_3_10 : C.ro 3 10 = true := rfl
theorem res_4 : Try.f4.results.toList = [.tmp 4] := rfl
theorem esc_4 : C.esc 4 = [] := rfl
theorem clr_4_0 : C.clr 4 0 = [0, 4] := rfl
theorem clr_4_1 : C.clr 4 1 = [11] := rfl
theorem clr_4_2 : C.clr 4 2 = [12, 13] := rfl
theorem clr_4_3 : C.clr 4 3 = [6, 14, 15, 16, 17, 18, 19, 20, 21, 22, 23, 24, 25, 26, 27, 28, 29, 30, 31, 32, 33, 34, 35, 36, 37] := rfl
theorem clr_4_4 : C.clr 4 4 = [1, 2, 5, 38, 39] := rfl
theorem clr_4_5 : C.clr 4 5 = [5, 38, 40, 41, 42, 43, 44] := rfl
theorem clr_4_6 : C.clr 4 6 = [45, 46, 47] := rfl
theorem clr_4_7 : C.clr 4 7 = [1, 48, 49, 50, 51, 52, 53] := rfl
theorem clr_4_8 : C.clr 4 8 = [10, 54, 55, 56, 57, 58, 59, 60, 61, 62, 63, 64, 65, 66] := rfl
theorem clr_4_9 : C.clr 4 9 = [2, 7, 8, 9, 67] := rfl
theorem clr_4_10 : C.clr 4 10 = [8, 67, 68, 69, 70, 71] := rfl
theorem clr_4_11 : C.clr 4 11 = [9, 72, 73, 74, 75] := rfl
theorem clr_4_12 : C.clr 4 12 = [2, 7, 76, 77, 78, 79, 80, 81, 82] := rfl
theorem res_5 : Try.f5.results.toList = [.tmp 0] := rfl
theorem esc_5 : C.esc 5 = [] := rfl
theorem clr_5_0 : C.clr 5 0 = [0] := rfl
theorem clr_5_1 : C.clr 5 1 = [2, 3, 4] := rfl
theorem clr_5_2 : C.clr 5 2 = [1, 5, 6, 7, 8, 9, 10, 11, 12, 13, 14, 15, 16, 17, 18, 19, 20, 21, 22, 23, 24, 25, 26, 27, 28] := rfl
theorem res_6 : Try.f6.results.toList = [.tmp 6] := rfl
theorem esc_6 : C.esc 6 = [] := rfl
theorem clr_6_0 : C.clr 6 0 = [0, 6] := rfl
theorem clr_6_1 : C.clr 6 1 = [8, 9] := rfl
theorem clr_6_2 : C.clr 6 2 = [1, 2, 3, 7, 10, 11, 12, 13, 14, 15, 16, 17, 18, 19, 20, 21, 22] := rfl
theorem res_7 : Try.f7.results.toList = [.cell 2 24] := rfl
theorem esc_7 : C.esc 7 = [] := rfl
theorem clr_7_0 : C.clr 7 0 = [0] := rfl
theorem clr_7_1 : C.clr 7 1 = [] := rfl
theorem clr_7_2 : C.clr 7 2 = [6] := rfl
theorem clr_7_3 : C.clr 7 3 = [] := rfl
theorem clr_7_4 : C.clr 7 4 = [10, 11, 12] := rfl
theorem clr_7_5 : C.clr 7 5 = [5, 13, 14, 15, 16, 17] := rfl
theorem clr_7_6 : C.clr 7 6 = [18] := rfl
theorem clr_7_7 : C.clr 7 7 = [1, 3, 7, 8, 9, 10, 19, 20, 21, 22, 23, 24] := rfl
theorem res_8 : Try.f8.results.toList = [.tmp 4] := rfl
theorem esc_8 : C.esc 8 = [] := rfl
theorem clr_8_0 : C.clr 8 0 = [0, 1, 4] := rfl
theorem clr_8_1 : C.clr 8 1 = [7, 8, 9, 10, 11, 12, 13, 14, 15, 16, 17, 18, 19, 20, 21, 22, 23, 24, 25, 26] := rfl
theorem clr_8_2 : C.clr 8 2 = [2, 3, 27] := rfl
theorem clr_8_3 : C.clr 8 3 = [2, 27, 28] := rfl
theorem clr_8_4 : C.clr 8 4 = [] := rfl
theorem clr_8_5 : C.clr 8 5 = [32, 33, 34, 35] := rfl
theorem clr_8_6 : C.clr 8 6 = [5, 6, 36, 37, 38, 39, 40, 41, 42] := rfl
theorem ord_8_6 : C.ord 8 6 = [0, 1, 2, 3, 4, 5, 6, 7] := rfl
theorem ro_8_6 : C.ro 8 6 = true := rfl
theorem clr_8_7 : C.clr 8 7 = [3, 29, 30, 31, 43] := rfl
theorem clr_8_8 : C.clr 8 8 = [43, 44] := rfl
theorem clr_8_9 : C.clr 8 9 = [3, 29, 30, 31, 32] := rfl
theorem res_9 : Try.f9.results.toList = [.tmp 2] := rfl
theorem esc_9 : C.esc 9 = [3] := rfl
theorem clr_9_0 : C.clr 9 0 = [0] := rfl
theorem clr_9_1 : C.clr 9 1 = [] := rfl
theorem clr_9_2 : C.clr 9 2 = [1, 4] := rfl
theorem clr_9_3 : C.clr 9 3 = [2, 3, 5, 6, 7, 8, 9] := rfl
theorem clr_9_4 : C.clr 9 4 = [3, 5, 10] := rfl
theorem res_10 : Try.f10.results.toList = [.tmp 0] := rfl
theorem esc_10 : C.esc 10 = [] := rfl
theorem clr_10_0 : C.clr 10 0 = [0] := rfl
theorem clr_10_1 : C.clr 10 1 = [6, 7, 8] := rfl
theorem clr_10_2 : C.clr 10 2 = [9, 10] := rfl
theorem clr_10_3 : C.clr 10 3 = [11, 12] := rfl
theorem clr_10_4 : C.clr 10 4 = [1, 4, 13, 14, 15, 16, 17] := rfl
theorem clr_10_5 : C.clr 10 5 = [2, 3, 5, 18, 19, 20, 21, 22, 23, 24, 25, 26, 27, 28, 29, 30, 31, 32, 33, 34, 35, 36, 37, 38, 39, 40, 41, 42, 43, 44, 45, 46, 47] := rfl
theorem res_11 : Try.f11.results.toList = [.tmp 2] := rfl
theorem esc_11 : C.esc 11 = [] := rfl
theorem clr_11_0 : C.clr 11 0 = [0, 2] := rfl
theorem clr_11_1 : C.clr 11 1 = [1, 3, 4, 5, 6, 7, 8, 9, 10, 11, 12, 13, 14] := rfl
theorem res_12 : Try.f12.results.toList = [.cell 6 24] := rfl
theorem esc_12 : C.esc 12 = [] := rfl
theorem clr_12_0 : C.clr 12 0 = [0] := rfl
theorem clr_12_1 : C.clr 12 1 = [9, 10, 11, 12] := rfl
theorem clr_12_2 : C.clr 12 2 = [1, 2, 3, 13, 14, 15] := rfl
theorem clr_12_3 : C.clr 12 3 = [1, 2, 3, 8, 13, 16, 17, 18, 19, 20, 21, 22, 23, 24] := rfl
theorem clr_12_4 : C.clr 12 4 = [7, 25] := rfl
theorem res_13 : Try.f13.results.toList = [.cell 6 24, .tmp 7] := rfl
theorem esc_13 : C.esc 13 = [] := rfl
theorem clr_13_0 : C.clr 13 0 = [0, 7] := rfl
theorem clr_13_1 : C.clr 13 1 = [8, 9, 10, 11] := rfl
theorem clr_13_2 : C.clr 13 2 = [1, 2, 3, 12, 13] := rfl
theorem clr_13_3 : C.clr 13 3 = [1, 2, 3, 12, 14, 15, 16, 17, 18, 19, 20, 21] := rfl
theorem res_14 : Try.f14.results.toList = [.tmp 2] := rfl
theorem esc_14 : C.esc 14 = [] := rfl
theorem clr_14_0 : C.clr 14 0 = [0, 2] := rfl
theorem clr_14_1 : C.clr 14 1 = [] := rfl
theorem clr_14_2 : C.clr 14 2 = [1, 6] := rfl
theorem clr_14_3 : C.clr 14 3 = [] := rfl
theorem clr_14_4 : C.clr 14 4 = [10, 11, 12] := rfl
theorem clr_14_5 : C.clr 14 5 = [5, 13, 14, 15, 16] := rfl
theorem clr_14_6 : C.clr 14 6 = [17] := rfl
theorem clr_14_7 : C.clr 14 7 = [3, 7, 8, 9, 10, 18, 19] := rfl
theorem res_15 : Try.f15.results.toList = [.tmp 6] := rfl
theorem esc_15 : C.esc 15 = [4, 5] := rfl
theorem clr_15_0 : C.clr 15 0 = [0, 1, 2, 6] := rfl
theorem clr_15_1 : C.clr 15 1 = [3, 4, 5, 7, 8, 9] := rfl
theorem res_16 : Try.f16.results.toList = [.tmp 2] := rfl
theorem esc_16 : C.esc 16 = [] := rfl
theorem clr_16_0 : C.clr 16 0 = [0, 2] := rfl
theorem clr_16_1 : C.clr 16 1 = [5, 6] := rfl
theorem clr_16_2 : C.clr 16 2 = [1, 7] := rfl
theorem clr_16_3 : C.clr 16 3 = [7] := rfl
theorem clr_16_4 : C.clr 16 4 = [8, 9, 10, 11] := rfl
theorem clr_16_6 : C.clr 16 6 = [12, 15, 16, 17, 18, 19, 20] := rfl
theorem clr_16_7 : C.clr 16 7 = [4, 21] := rfl
theorem clr_16_8 : C.clr 16 8 = [1, 3, 22] := rfl
theorem clr_16_5 : C.clr 16 5 = [13, 14, 22] := rfl
theorem clr_16_9 : C.clr 16 9 = [1, 3, 12] := rfl
theorem res_17 : Try.f17.results.toList = [.tmp 2] := rfl
theorem esc_17 : C.esc 17 = [] := rfl
theorem clr_17_0 : C.clr 17 0 = [0, 2] := rfl
theorem clr_17_1 : C.clr 17 1 = [] := rfl
theorem clr_17_2 : C.clr 17 2 = [] := rfl
theorem clr_17_3 : C.clr 17 3 = [5, 6, 7, 8] := rfl
theorem clr_17_5 : C.clr 17 5 = [9, 12, 13, 14, 15, 16, 17, 18, 19] := rfl
theorem clr_17_4 : C.clr 17 4 = [10, 11] := rfl
theorem clr_17_6 : C.clr 17 6 = [1, 3, 4, 9, 20] := rfl
theorem res_18 : Try.f18.results.toList = [.tmp 2] := rfl
theorem esc_18 : C.esc 18 = [] := rfl
theorem clr_18_0 : C.clr 18 0 = [0, 2] := rfl
theorem clr_18_1 : C.clr 18 1 = [] := rfl
theorem clr_18_2 : C.clr 18 2 = [] := rfl
theorem clr_18_3 : C.clr 18 3 = [6, 7, 8, 9] := rfl
theorem clr_18_5 : C.clr 18 5 = [10, 13, 14, 15, 16, 17, 18] := rfl
theorem clr_18_6 : C.clr 18 6 = [19, 20] := rfl
theorem clr_18_7 : C.clr 18 7 = [5, 21, 22] := rfl
theorem clr_18_4 : C.clr 18 4 = [5, 11, 12, 21] := rfl
theorem clr_18_8 : C.clr 18 8 = [1, 3, 4, 10, 23, 24] := rfl
theorem res_19 : Try.f19.results.toList = [.tmp 2] := rfl
theorem esc_19 : C.esc 19 = [1] := rfl
theorem clr_19_0 : C.clr 19 0 = [0, 2] := rfl
theorem clr_19_1 : C.clr 19 1 = [1, 3] := rfl
theorem res_20 : Try.f20.results.toList = [.cell 4 4] := rfl
theorem esc_20 : C.esc 20 = [3, 4] := rfl
theorem clr_20_0 : C.clr 20 0 = [0, 1] := rfl
theorem clr_20_1 : C.clr 20 1 = [2, 7] := rfl
theorem clr_20_2 : C.clr 20 2 = [8, 9] := rfl
theorem clr_20_3 : C.clr 20 3 = [10] := rfl
theorem clr_20_4 : C.clr 20 4 = [3, 5, 6, 11, 12, 13, 14] := rfl
theorem clr_20_5 : C.clr 20 5 = [15] := rfl
theorem clr_20_6 : C.clr 20 6 = [3, 8] := rfl
theorem res_21 : Try.f21.results.toList = [.tmp 4] := rfl
theorem esc_21 : C.esc 21 = [] := rfl
theorem clr_21_0 : C.clr 21 0 = [0, 1, 4] := rfl
theorem clr_21_1 : C.clr 21 1 = [3, 5, 6] := rfl
theorem res_22 : Try.f22.results.toList = [.tmp 2] := rfl
theorem esc_22 : C.esc 22 = [] := rfl
theorem clr_22_0 : C.clr 22 0 = [0, 2] := rfl
theorem clr_22_1 : C.clr 22 1 = [3] := rfl
theorem clr_22_2 : C.clr 22 2 = [6] := rfl
theorem clr_22_3 : C.clr 22 3 = [1, 4, 5, 7, 8, 9, 10, 11, 12, 13, 14, 15] := rfl
theorem clr_22_4 : C.clr 22 4 = [5, 17] := rfl
theorem clr_22_5 : C.clr 22 5 = [1, 4, 16, 18, 19, 20, 21, 22, 23, 24, 25, 26] := rfl
theorem clr_22_6 : C.clr 22 6 = [4, 16, 28] := rfl
theorem clr_22_7 : C.clr 22 7 = [1, 27, 29, 30, 31, 32, 33, 34, 35, 36, 37] := rfl
theorem clr_22_8 : C.clr 22 8 = [1, 27, 38, 39, 40, 41, 42, 43, 44, 45, 46, 47, 48, 49, 50] := rfl
theorem res_23 : Try.f23.results.toList = [.tmp 6] := rfl
theorem esc_23 : C.esc 23 = [] := rfl
theorem clr_23_0 : C.clr 23 0 = [0, 6] := rfl
theorem clr_23_1 : C.clr 23 1 = [1, 2, 3, 7, 8, 9, 10, 11, 12, 13, 14, 15, 16, 17, 18, 19, 20, 21, 22, 23, 24] := rfl
theorem res_24 : Try.f24.results.toList = [.cell 6 24, .tmp 7] := rfl
theorem esc_24 : C.esc 24 = [3, 4, 5] := rfl
theorem clr_24_0 : C.clr 24 0 = [0, 1, 2, 7] := rfl
theorem clr_24_1 : C.clr 24 1 = [11, 12] := rfl
theorem clr_24_2 : C.clr 24 2 = [13, 14] := rfl
theorem clr_24_3 : C.clr 24 3 = [15, 16, 17, 18, 19, 20, 21, 22, 23] := rfl
theorem clr_24_4 : C.clr 24 4 = [9, 15, 24] := rfl
theorem clr_24_5 : C.clr 24 5 = [3, 4, 5, 8, 25, 26] := rfl
theorem clr_24_6 : C.clr 24 6 = [4, 5, 25, 27, 28, 29, 30, 31, 32, 33] := rfl
theorem clr_24_7 : C.clr 24 7 = [9, 34] := rfl
theorem clr_24_8 : C.clr 24 8 = [3, 8, 10, 35, 36] := rfl
theorem clr_24_9 : C.clr 24 9 = [3, 8, 10, 35, 37, 38, 39, 40, 41] := rfl
theorem res_25 : Try.f25.results.toList = [.tmp 6, .tmp 7] := rfl
theorem esc_25 : C.esc 25 = [] := rfl
theorem clr_25_0 : C.clr 25 0 = [0, 6, 7] := rfl
theorem clr_25_1 : C.clr 25 1 = [2, 8, 9, 10, 11, 12] := rfl
theorem clr_25_2 : C.clr 25 2 = [1, 3, 13, 14, 15, 16, 17] := rfl
theorem clr_25_3 : C.clr 25 3 = [1, 3, 13, 18] := rfl
theorem res_26 : Try.f26.results.toList = [.tmp 6, .tmp 7] := rfl
theorem esc_26 : C.esc 26 = [] := rfl
theorem clr_26_0 : C.clr 26 0 = [0, 6, 7] := rfl
theorem clr_26_1 : C.clr 26 1 = [9, 10, 11, 12, 13, 14] := rfl
theorem clr_26_2 : C.clr 26 2 = [1, 2, 3, 8, 15] := rfl
theorem clr_26_3 : C.clr 26 3 = [2, 8, 17, 18, 19, 20, 21, 22, 23, 24, 25] := rfl
theorem clr_26_4 : C.clr 26 4 = [1, 3, 16] := rfl
theorem clr_26_5 : C.clr 26 5 = [1, 3, 16, 26, 27, 28, 29] := rfl
theorem res_27 : Try.f27.results.toList = [.tmp 6] := rfl
theorem esc_27 : C.esc 27 = [] := rfl
theorem clr_27_0 : C.clr 27 0 = [1, 6] := rfl
theorem clr_27_1 : C.clr 27 1 = [0, 2, 3, 5, 7, 8, 9, 10, 11, 12, 13, 14, 15, 16, 17, 18, 19, 20, 21, 22, 23, 24, 25, 26, 27, 28] := rfl
theorem res_28 : Try.f28.results.toList = [] := rfl
theorem esc_28 : C.esc 28 = [] := rfl
theorem clr_28_0 : C.clr 28 0 = [0, 1, 3, 4, 5] := rfl
theorem res_29 : Try.f29.results.toList = [.tmp 6] := rfl
theorem esc_29 : C.esc 29 = [] := rfl
theorem clr_29_0 : C.clr 29 0 = [0, 6] := rfl
theorem clr_29_1 : C.clr 29 1 = [10, 11, 12, 13] := rfl
theorem clr_29_2 : C.clr 29 2 = [1, 2, 3, 14] := rfl
theorem clr_29_3 : C.clr 29 3 = [14, 15] := rfl
theorem clr_29_4 : C.clr 29 4 = [] := rfl
theorem clr_29_5 : C.clr 29 5 = [19, 20, 21, 22] := rfl
theorem clr_29_6 : C.clr 29 6 = [23] := rfl
theorem clr_29_7 : C.clr 29 7 = [7, 24, 25, 26, 27, 28, 29, 30, 31, 32] := rfl
theorem clr_29_8 : C.clr 29 8 = [33, 34, 35] := rfl
theorem clr_29_9 : C.clr 29 9 = [8, 9, 33, 36, 37, 38, 39] := rfl
theorem clr_29_10 : C.clr 29 10 = [1, 2, 3, 16, 17, 18, 40] := rfl
theorem clr_29_11 : C.clr 29 11 = [40, 41] := rfl
theorem clr_29_12 : C.clr 29 12 = [1, 2, 3, 16, 17, 18, 19] := rfl
theorem res_30 : Try.f30.results.toList = [.tmp 4, .tmp 5] := rfl
theorem esc_30 : C.esc 30 = [] := rfl
theorem clr_30_0 : C.clr 30 0 = [4, 5] := rfl
theorem clr_30_1 : C.clr 30 1 = [] := rfl
theorem clr_30_2 : C.clr 30 2 = [0] := rfl
theorem clr_30_3 : C.clr 30 3 = [] := rfl
theorem clr_30_4 : C.clr 30 4 = [14, 15, 16, 17] := rfl
theorem clr_30_5 : C.clr 30 5 = [7, 8, 18, 19, 20, 21, 22, 23, 24] := rfl
theorem clr_30_6 : C.clr 30 6 = [10, 25] := rfl
theorem clr_30_7 : C.clr 30 7 = [1, 6, 9, 11, 12, 13, 26] := rfl
theorem clr_30_8 : C.clr 30 8 = [9, 26, 27, 28, 29, 30] := rfl
theorem clr_30_9 : C.clr 30 9 = [31] := rfl
theorem clr_30_10 : C.clr 30 10 = [1, 6, 11, 12, 13, 14, 32] := rfl
theorem res_31 : Try.f31.results.toList = [.cell 7 24, .tmp 8] := rfl
theorem esc_31 : C.esc 31 = [] := rfl
theorem clr_31_0 : C.clr 31 0 = [1, 8] := rfl
theorem clr_31_1 : C.clr 31 1 = [2, 10] := rfl
theorem clr_31_2 : C.clr 31 2 = [0, 3, 11, 12, 13, 14, 15, 16, 17, 18, 19, 20, 21, 22, 23, 24, 25] := rfl
theorem clr_31_3 : C.clr 31 3 = [26, 27, 28] := rfl
theorem clr_31_4 : C.clr 31 4 = [4, 6, 9, 26, 29, 30, 31, 32, 33, 34] := rfl
theorem res_32 : Try.f32.results.toList = [.tmp 2] := rfl
theorem esc_32 : C.esc 32 = [] := rfl
theorem clr_32_0 : C.clr 32 0 = [0, 2] := rfl
theorem clr_32_1 : C.clr 32 1 = [1, 3, 4, 5, 6, 7, 8, 9, 10] := rfl
attribute [go_sem] tsz_1 tag_1 tcon_1 tstr_1 tbool_1 tslc_1 tarr_1 tby_1 tzr_1 tsz_2 tag_2 tcon_2 tstr_2 tbool_2 tslc_2 tarr_2 tby_2 tzr_2 tsz_3 tag_3 tcon_3 tstr_3 tbool_3 tslc_3 tarr_3 tby_3 tzr_3 tsz_4 tag_4 tcon_4 tstr_4 tbool_4 tslc_4 tarr_4 tby_4 tzr_4 tsz_5 tag_5 tcon_5 tstr_5
attribute [go_sem] tbool_5 tslc_5 tarr_5 tby_5 tzr_5 tsz_9 tag_9 tcon_9 tstr_9 tbool_9 tslc_9 tarr_9 tby_9 tzr_9 tsz_12 tag_12 tcon_12 tstr_12 tbool_12 tslc_12 tarr_12 tby_12 tzr_12 tsz_20 tag_20 tcon_20 tstr_20 tbool_20 tslc_20 tarr_20 tby_20 tzr_20 tsz_21 tag_21 tcon_21 tstr_21 tbool_21 tslc_21 tarr_21 tby_21
attribute [go_sem] tzr_21 tsz_22 tag_22 tcon_22 tstr_22 tbool_22 tslc_22 tarr_22 tby_22 tzr_22 tsz_23 tag_23 tcon_23 tstr_23 tbool_23 tslc_23 tarr_23 tby_23 tzr_23 tfld_23_0 place_23_0 tfld_23_1 place_23_1 tfld_23_2 place_23_2 tbld_23 tsz_24 tag_24 tcon_24 tstr_24 tbool_24 tslc_24 tarr_24 tby_24 tzr_24 tfld_24_0 place_24_0 tfld_24_1 place_24_1 tfld_24_2
attribute [go_sem] place_24_2 tbld_24 tsz_25 tag_25 tcon_25 tstr_25 tbool_25 tslc_25 tarr_25 tby_25 tzr_25 tsz_26 tag_26 tcon_26 tstr_26 tbool_26 tslc_26 tarr_26 tby_26 tzr_26 tsz_27 tag_27 tcon_27 tstr_27 tbool_27 tslc_27 tarr_27 tby_27 tzr_27 tsz_28 tag_28 tcon_28 tstr_28 tbool_28 tslc_28 tarr_28 tby_28 tzr_28 tsz_29 tag_29
attribute [go_sem] tcon_29 tstr_29 tbool_29 tslc_29 tarr_29 tby_29 tzr_29 tsz_30 tag_30 tcon_30 tstr_30 tbool_30 tslc_30 tarr_30 tby_30 tzr_30 tsz_31 tag_31 tcon_31 tstr_31 tbool_31 tslc_31 tarr_31 tby_31 tzr_31 tsz_33 tag_33 tcon_33 tstr_33 tbool_33 tslc_33 tarr_33 tby_33 tzr_33 tsz_34 tag_34 tcon_34 tstr_34 tbool_34 tslc_34
attribute [go_sem] tarr_34 tby_34 tzr_34 tsz_35 tag_35 tcon_35 tstr_35 tbool_35 tslc_35 tarr_35 tby_35 tzr_35 tsz_36 tag_36 tcon_36 tstr_36 tbool_36 tslc_36 tarr_36 tby_36 tzr_36 tsz_37 tag_37 tcon_37 tstr_37 tbool_37 tslc_37 tarr_37 tby_37 tzr_37 tsz_38 tag_38 tcon_38 tstr_38 tbool_38 tslc_38 tarr_38 tby_38 tzr_38 tsz_39
attribute [go_sem] tag_39 tcon_39 tstr_39 tbool_39 tslc_39 tarr_39 tby_39 tzr_39 tsz_40 tag_40 tcon_40 tstr_40 tbool_40 tslc_40 tarr_40 tby_40 tzr_40 tsz_41 tag_41 tcon_41 tstr_41 tbool_41 tslc_41 tarr_41 tby_41 tzr_41 tsz_42 tag_42 tcon_42 tstr_42 tbool_42 tslc_42 tarr_42 tby_42 tzr_42 tfld_42_0 place_42_0 tfld_42_1 place_42_1 tbld_42
attribute [go_sem] tsz_43 tag_43 tcon_43 tstr_43 tbool_43 tslc_43 tarr_43 tby_43 tzr_43 tfld_43_0 place_43_0 tfld_43_1 place_43_1 tbld_43 tsz_44 tag_44 tcon_44 tstr_44 tbool_44 tslc_44 tarr_44 tby_44 tzr_44 tsz_47 tag_47 tcon_47 tstr_47 tbool_47 tslc_47 tarr_47 tby_47 tzr_47 tsz_48 tag_48 tcon_48 tstr_48 tbool_48 tslc_48 tarr_48 tby_48
attribute [go_sem] tzr_48 tsz_49 tag_49 tcon_49 tstr_49 tbool_49 tslc_49 tarr_49 tby_49 tzr_49 tsz_55 tag_55 tcon_55 tstr_55 tbool_55 tslc_55 tarr_55 tby_55 tzr_55 tsz_56 tag_56 tcon_56 tstr_56 tbool_56 tslc_56 tarr_56 tby_56 tzr_56 tsz_59 tag_59 tcon_59 tstr_59 tbool_59 tslc_59 tarr_59 tby_59 tzr_59 tsz_60 tag_60 tcon_60
attribute [go_sem] tstr_60 tbool_60 tslc_60 tarr_60 tby_60 tzr_60 C_P C_thr esc_3 Try.ntmps3 res_3 clr_3_0 clr_3_1 clr_3_2 clr_3_3 clr_3_4 clr_3_5 clr_3_6 clr_3_7 clr_3_8 clr_3_9 ord_3_9 ro_3_9 clr_3_10 ord_3_10 ro_3_10 esc_4 Try.ntmps4 res_4 clr_4_0 clr_4_1 clr_4_2 clr_4_3 clr_4_4 clr_4_5 clr_4_6 clr_4_7 clr_4_8 clr_4_9 clr_4_10
attribute [go_sem] clr_4_11 clr_4_12 esc_5 Try.ntmps5 res_5 clr_5_0 clr_5_1 clr_5_2 esc_6 Try.ntmps6 res_6 clr_6_0 clr_6_1 clr_6_2 esc_7 Try.ntmps7 res_7 clr_7_0 clr_7_1 clr_7_2 clr_7_3 clr_7_4 clr_7_5 clr_7_6 clr_7_7 esc_8 Try.ntmps8 res_8 clr_8_0 clr_8_1 clr_8_2 clr_8_3 clr_8_4 clr_8_5 clr_8_6 ord_8_6 ro_8_6 clr_8_7 clr_8_8 clr_8_9
attribute [go_sem] esc_9 Try.ntmps9 res_9 clr_9_0 clr_9_1 clr_9_2 clr_9_3 clr_9_4 esc_10 Try.ntmps10 res_10 clr_10_0 clr_10_1 clr_10_2 clr_10_3 clr_10_4 clr_10_5 esc_11 Try.ntmps11 res_11 clr_11_0 clr_11_1 esc_12 Try.ntmps12 res_12 clr_12_0 clr_12_1 clr_12_2 clr_12_3 clr_12_4 esc_13 Try.ntmps13 res_13 clr_13_0 clr_13_1 clr_13_2 clr_13_3 esc_14 Try.ntmps14 res_14
attribute [go_sem] clr_14_0 clr_14_1 clr_14_2 clr_14_3 clr_14_4 clr_14_5 clr_14_6 clr_14_7 esc_15 Try.ntmps15 res_15 clr_15_0 clr_15_1 esc_16 Try.ntmps16 res_16 clr_16_0 clr_16_1 clr_16_2 clr_16_3 clr_16_4 clr_16_6 clr_16_7 clr_16_8 clr_16_5 clr_16_9 esc_17 Try.ntmps17 res_17 clr_17_0 clr_17_1 clr_17_2 clr_17_3 clr_17_5 clr_17_4 clr_17_6 esc_18 Try.ntmps18 res_18 clr_18_0
attribute [go_sem] clr_18_1 clr_18_2 clr_18_3 clr_18_5 clr_18_6 clr_18_7 clr_18_4 clr_18_8 esc_19 Try.ntmps19 res_19 clr_19_0 clr_19_1 esc_20 Try.ntmps20 res_20 clr_20_0 clr_20_1 clr_20_2 clr_20_3 clr_20_4 clr_20_5 clr_20_6 esc_21 Try.ntmps21 res_21 clr_21_0 clr_21_1 esc_22 Try.ntmps22 res_22 clr_22_0 clr_22_1 clr_22_2 clr_22_3 clr_22_4 clr_22_5 clr_22_6 clr_22_7 clr_22_8
attribute [go_sem] esc_23 Try.ntmps23 res_23 clr_23_0 clr_23_1 esc_24 Try.ntmps24 res_24 clr_24_0 clr_24_1 clr_24_2 clr_24_3 clr_24_4 clr_24_5 clr_24_6 clr_24_7 clr_24_8 clr_24_9 esc_25 Try.ntmps25 res_25 clr_25_0 clr_25_1 clr_25_2 clr_25_3 esc_26 Try.ntmps26 res_26 clr_26_0 clr_26_1 clr_26_2 clr_26_3 clr_26_4 clr_26_5 esc_27 Try.ntmps27 res_27 clr_27_0 clr_27_1 esc_28
attribute [go_sem] Try.ntmps28 res_28 clr_28_0 esc_29 Try.ntmps29 res_29 clr_29_0 clr_29_1 clr_29_2 clr_29_3 clr_29_4 clr_29_5 clr_29_6 clr_29_7 clr_29_8 clr_29_9 clr_29_10 clr_29_11 clr_29_12 esc_30 Try.ntmps30 res_30 clr_30_0 clr_30_1 clr_30_2 clr_30_3 clr_30_4 clr_30_5 clr_30_6 clr_30_7 clr_30_8 clr_30_9 clr_30_10 esc_31 Try.ntmps31 res_31 clr_31_0 clr_31_1 clr_31_2 clr_31_3
attribute [go_sem] clr_31_4 esc_32 Try.ntmps32 res_32 clr_32_0 clr_32_1
end Go.Proofs.Ytmmhpmfgcenngaa

/- The tables of this program: types; which variables are shared, what is needed no more, in which order. Printed by gen.py. -/
import Derived.Test.YtobocgjdlchemaaKG
import Derived.Test.YtobocgjdlchemaaProg
import Derived.KernelRfl
set_option maxRecDepth 100000
namespace Go.Proofs.Ytobocgjdlchemaa
open Go.Proofs
theorem tsz_1 : tsz Try.prog 1 = some 1 := by kernel_rfl
theorem tag_1 : tag Try.prog 1 = some false := by kernel_rfl
theorem tcon_1 : tcon Try.prog 1 = true := by kernel_rfl
theorem tstr_1 : tstr Try.prog 1 = false := by kernel_rfl
theorem tbool_1 : tbool Try.prog 1 = false := by kernel_rfl
theorem tslc_1 : tslc Try.prog 1 = none := by kernel_rfl
theorem tarr_1 : tarr Try.prog 1 = none := by kernel_rfl
theorem tby_1 : tby Try.prog 1 = some 8 := by kernel_rfl
theorem tzr_1 : tzr Try.prog 1 = some [.raw .nilFunc] := by kernel_rfl
theorem tsz_2 : tsz Try.prog 2 = some 1 := by kernel_rfl
theorem tag_2 : tag Try.prog 2 = some false := by kernel_rfl
theorem tcon_2 : tcon Try.prog 2 = true := by kernel_rfl
theorem tstr_2 : tstr Try.prog 2 = false := by kernel_rfl
theorem tbool_2 : tbool Try.prog 2 = false := by kernel_rfl
theorem tslc_2 : tslc Try.prog 2 = none := by kernel_rfl
theorem tarr_2 : tarr Try.prog 2 = none := by kernel_rfl
theorem tby_2 : tby Try.prog 2 = some 8 := by kernel_rfl
theorem tzr_2 : tzr Try.prog 2 = some [.d (.int .i64 0)] := by kernel_rfl
theorem tsz_3 : tsz Try.prog 3 = some 1 := by kernel_rfl
theorem tag_3 : tag Try.prog 3 = some false := by kernel_rfl
theorem tcon_3 : tcon Try.prog 3 = true := by kernel_rfl
theorem tstr_3 : tstr Try.prog 3 = false := by kernel_rfl
theorem tbool_3 : tbool Try.prog 3 = false := by kernel_rfl
theorem tslc_3 : tslc Try.prog 3 = none := by kernel_rfl
theorem tarr_3 : tarr Try.prog 3 = none := by kernel_rfl
theorem tby_3 : tby Try.prog 3 = some 8 := by kernel_rfl
theorem tzr_3 : tzr Try.prog 3 = some [.d (.int .i64 0)] := by kernel_rfl
theorem tsz_4 : tsz Try.prog 4 = some 1 := by kernel_rfl
theorem tag_4 : tag Try.prog 4 = some false := by kernel_rfl
theorem tcon_4 : tcon Try.prog 4 = true := by kernel_rfl
theorem tstr_4 : tstr Try.prog 4 = false := by kernel_rfl
theorem tbool_4 : tbool Try.prog 4 = true := by kernel_rfl
theorem tslc_4 : tslc Try.prog 4 = none := by kernel_rfl
theorem tarr_4 : tarr Try.prog 4 = none := by kernel_rfl
theorem tby_4 : tby Try.prog 4 = some 1 := by kernel_rfl
theorem tzr_4 : tzr Try.prog 4 = some [.d (.bool false)] := by kernel_rfl
theorem tsz_5 : tsz Try.prog 5 = some 1 := by kernel_rfl
theorem tag_5 : tag Try.prog 5 = some false := by kernel_rfl
theorem tcon_5 : tcon Try.prog 5 = true := by kernel_rfl
theorem tstr_5 : tstr Try.prog 5 = false := by kernel_rfl
theorem tbool_5 : tbool Try.prog 5 = false := by kernel_rfl
theorem tslc_5 : tslc Try.prog 5 = none := by kernel_rfl
theorem tarr_5 : tarr Try.prog 5 = none := by kernel_rfl
theorem tby_5 : tby Try.prog 5 = some 1 := by kernel_rfl
theorem tzr_5 : tzr Try.prog 5 = some [.d (.int .u8 0)] := by kernel_rfl
theorem tsz_9 : tsz Try.prog 9 = some 1 := by kernel_rfl
theorem tag_9 : tag Try.prog 9 = some false := by kernel_rfl
theorem tcon_9 : tcon Try.prog 9 = true := by kernel_rfl
theorem tstr_9 : tstr Try.prog 9 = true := by kernel_rfl
theorem tbool_9 : tbool Try.prog 9 = false := by kernel_rfl
theorem tslc_9 : tslc Try.prog 9 = none := by kernel_rfl
theorem tarr_9 : tarr Try.prog 9 = none := by kernel_rfl
theorem tby_9 : tby Try.prog 9 = some 16 := by kernel_rfl
theorem tzr_9 : tzr Try.prog 9 = some [.d (.str ⟨#[]⟩)] := by kernel_rfl
theorem tsz_12 : tsz Try.prog 12 = some 1 := by kernel_rfl
theorem tag_12 : tag Try.prog 12 = some false := by kernel_rfl
theorem tcon_12 : tcon Try.prog 12 = true := by kernel_rfl
theorem tstr_12 : tstr Try.prog 12 = false := by kernel_rfl
theorem tbool_12 : tbool Try.prog 12 = false := by kernel_rfl
theorem tslc_12 : tslc Try.prog 12 = none := by kernel_rfl
theorem tarr_12 : tarr Try.prog 12 = none := by kernel_rfl
theorem tby_12 : tby Try.prog 12 = some 8 := by kernel_rfl
theorem tzr_12 : tzr Try.prog 12 = some [.d (.int .u64 0)] := by kernel_rfl
theorem tsz_20 : tsz Try.prog 20 = some 1 := by kernel_rfl
theorem tag_20 : tag Try.prog 20 = some false := by kernel_rfl
theorem tcon_20 : tcon Try.prog 20 = false := by kernel_rfl
theorem tstr_20 : tstr Try.prog 20 = false := by kernel_rfl
theorem tbool_20 : tbool Try.prog 20 = false := by kernel_rfl
theorem tslc_20 : tslc Try.prog 20 = none := by kernel_rfl
theorem tarr_20 : tarr Try.prog 20 = none := by kernel_rfl
theorem tby_20 : tby Try.prog 20 = some 16 := by kernel_rfl
theorem tzr_20 : tzr Try.prog 20 = some [.raw .nilIface] := by kernel_rfl
theorem tsz_21 : tsz Try.prog 21 = some 1 := by kernel_rfl
theorem tag_21 : tag Try.prog 21 = some false := by kernel_rfl
theorem tcon_21 : tcon Try.prog 21 = true := by kernel_rfl
theorem tstr_21 : tstr Try.prog 21 = false := by kernel_rfl
theorem tbool_21 : tbool Try.prog 21 = false := by kernel_rfl
theorem tslc_21 : tslc Try.prog 21 = none := by kernel_rfl
theorem tarr_21 : tarr Try.prog 21 = none := by kernel_rfl
theorem tby_21 : tby Try.prog 21 = some 4 := by kernel_rfl
theorem tzr_21 : tzr Try.prog 21 = some [.d (.int .i32 0)] := by kernel_rfl
theorem tsz_22 : tsz Try.prog 22 = some 1 := by kernel_rfl
theorem tag_22 : tag Try.prog 22 = some false := by kernel_rfl
theorem tcon_22 : tcon Try.prog 22 = true := by kernel_rfl
theorem tstr_22 : tstr Try.prog 22 = false := by kernel_rfl
theorem tbool_22 : tbool Try.prog 22 = false := by kernel_rfl
theorem tslc_22 : tslc Try.prog 22 = some 24 := by kernel_rfl
theorem tarr_22 : tarr Try.prog 22 = none := by kernel_rfl
theorem tby_22 : tby Try.prog 22 = some 24 := by kernel_rfl
theorem tzr_22 : tzr Try.prog 22 = some [.clip []] := by kernel_rfl
theorem tsz_23 : tsz Try.prog 23 = some 3 := by kernel_rfl
theorem tag_23 : tag Try.prog 23 = some true := by kernel_rfl
theorem tcon_23 : tcon Try.prog 23 = true := by kernel_rfl
theorem tstr_23 : tstr Try.prog 23 = false := by kernel_rfl
theorem tbool_23 : tbool Try.prog 23 = false := by kernel_rfl
theorem tslc_23 : tslc Try.prog 23 = none := by kernel_rfl
theorem tarr_23 : tarr Try.prog 23 = none := by kernel_rfl
theorem tby_23 : tby Try.prog 23 = some 40 := by kernel_rfl
theorem tzr_23 : tzr Try.prog 23 = some [.d (.int .i64 0), .d (.int .i64 0), .clip []] := by kernel_rfl
theorem tfld_23_0 : tfld Try.prog 23 0 = some (0, 1, 3) := by kernel_rfl
theorem place_23_0 : place Try.prog 23 0 = some (0, 1) := by kernel_rfl
theorem tfld_23_1 : tfld Try.prog 23 1 = some (1, 1, 3) := by kernel_rfl
theorem place_23_1 : place Try.prog 23 1 = some (1, 1) := by kernel_rfl
theorem tfld_23_2 : tfld Try.prog 23 2 = some (2, 1, 22) := by kernel_rfl
theorem place_23_2 : place Try.prog 23 2 = some (2, 1) := by kernel_rfl
theorem tbld_23 : tbld Try.prog 23 = true := by kernel_rfl
theorem tsz_24 : tsz Try.prog 24 = some 3 := by kernel_rfl
theorem tag_24 : tag Try.prog 24 = some true := by kernel_rfl
theorem tcon_24 : tcon Try.prog 24 = true := by kernel_rfl
theorem tstr_24 : tstr Try.prog 24 = false := by kernel_rfl
theorem tbool_24 : tbool Try.prog 24 = false := by kernel_rfl
theorem tslc_24 : tslc Try.prog 24 = none := by kernel_rfl
theorem tarr_24 : tarr Try.prog 24 = none := by kernel_rfl
theorem tby_24 : tby Try.prog 24 = some 40 := by kernel_rfl
theorem tzr_24 : tzr Try.prog 24 = some [.d (.int .i64 0), .d (.int .i64 0), .clip []] := by kernel_rfl
theorem tfld_24_0 : tfld Try.prog 24 0 = some (0, 1, 3) := by kernel_rfl
theorem place_24_0 : place Try.prog 24 0 = some (0, 1) := by kernel_rfl
theorem tfld_24_1 : tfld Try.prog 24 1 = some (1, 1, 3) := by kernel_rfl
theorem place_24_1 : place Try.prog 24 1 = some (1, 1) := by kernel_rfl
theorem tfld_24_2 : tfld Try.prog 24 2 = some (2, 1, 22) := by kernel_rfl
theorem place_24_2 : place Try.prog 24 2 = some (2, 1) := by kernel_rfl
theorem tbld_24 : tbld Try.prog 24 = true := by kernel_rfl
theorem tsz_25 : tsz Try.prog 25 = some 1 := by kernel_rfl
theorem tag_25 : tag Try.prog 25 = some false := by kernel_rfl
theorem tcon_25 : tcon Try.prog 25 = true := by kernel_rfl
theorem tstr_25 : tstr Try.prog 25 = false := by kernel_rfl
theorem tbool_25 : tbool Try.prog 25 = false := by kernel_rfl
theorem tslc_25 : tslc Try.prog 25 = none := by kernel_rfl
theorem tarr_25 : tarr Try.prog 25 = none := by kernel_rfl
theorem tby_25 : tby Try.prog 25 = some 8 := by kernel_rfl
theorem tzr_25 : tzr Try.prog 25 = some [.raw .nilFunc] := by kernel_rfl
theorem tsz_26 : tsz Try.prog 26 = some 1 := by kernel_rfl
theorem tag_26 : tag Try.prog 26 = some false := by kernel_rfl
theorem tcon_26 : tcon Try.prog 26 = true := by kernel_rfl
theorem tstr_26 : tstr Try.prog 26 = false := by kernel_rfl
theorem tbool_26 : tbool Try.prog 26 = false := by kernel_rfl
theorem tslc_26 : tslc Try.prog 26 = none := by kernel_rfl
theorem tarr_26 : tarr Try.prog 26 = none := by kernel_rfl
theorem tby_26 : tby Try.prog 26 = some 8 := by kernel_rfl
theorem tzr_26 : tzr Try.prog 26 = some [.raw .nilFunc] := by kernel_rfl
theorem tsz_27 : tsz Try.prog 27 = some 1 := by kernel_rfl
theorem tag_27 : tag Try.prog 27 = some false := by kernel_rfl
theorem tcon_27 : tcon Try.prog 27 = true := by kernel_rfl
theorem tstr_27 : tstr Try.prog 27 = false := by kernel_rfl
theorem tbool_27 : tbool Try.prog 27 = false := by kernel_rfl
theorem tslc_27 : tslc Try.prog 27 = none := by kernel_rfl
theorem tarr_27 : tarr Try.prog 27 = none := by kernel_rfl
theorem tby_27 : tby Try.prog 27 = some 8 := by kernel_rfl
theorem tzr_27 : tzr Try.prog 27 = some [.raw .nilFunc] := by kernel_rfl
theorem tsz_28 : tsz Try.prog 28 = some 1 := by kernel_rfl
theorem tag_28 : tag Try.prog 28 = some false := by kernel_rfl
theorem tcon_28 : tcon Try.prog 28 = true := by kernel_rfl
theorem tstr_28 : tstr Try.prog 28 = false := by kernel_rfl
theorem tbool_28 : tbool Try.prog 28 = false := by kernel_rfl
theorem tslc_28 : tslc Try.prog 28 = none := by kernel_rfl
theorem tarr_28 : tarr Try.prog 28 = none := by kernel_rfl
theorem tby_28 : tby Try.prog 28 = some 8 := by kernel_rfl
theorem tzr_28 : tzr Try.prog 28 = some [.raw .nilFunc] := by kernel_rfl
theorem tsz_29 : tsz Try.prog 29 = some 1 := by kernel_rfl
theorem tag_29 : tag Try.prog 29 = some false := by kernel_rfl
theorem tcon_29 : tcon Try.prog 29 = true := by kernel_rfl
theorem tstr_29 : tstr Try.prog 29 = false := by kernel_rfl
theorem tbool_29 : tbool Try.prog 29 = false := by kernel_rfl
theorem tslc_29 : tslc Try.prog 29 = none := by kernel_rfl
theorem tarr_29 : tarr Try.prog 29 = none := by kernel_rfl
theorem tby_29 : tby Try.prog 29 = some 8 := by kernel_rfl
theorem tzr_29 : tzr Try.prog 29 = some [.raw .nilFunc] := by kernel_rfl
theorem tsz_30 : tsz Try.prog 30 = some 1 := by kernel_rfl
theorem tag_30 : tag Try.prog 30 = some false := by kernel_rfl
theorem tcon_30 : tcon Try.prog 30 = true := by kernel_rfl
theorem tstr_30 : tstr Try.prog 30 = false := by kernel_rfl
theorem tbool_30 : tbool Try.prog 30 = false := by kernel_rfl
theorem tslc_30 : tslc Try.prog 30 = none := by kernel_rfl
theorem tarr_30 : tarr Try.prog 30 = none := by kernel_rfl
theorem tby_30 : tby Try.prog 30 = some 8 := by kernel_rfl
theorem tzr_30 : tzr Try.prog 30 = some [.raw .nilFunc] := by kernel_rfl
theorem tsz_31 : tsz Try.prog 31 = some 1 := by kernel_rfl
theorem tag_31 : tag Try.prog 31 = some false := by kernel_rfl
theorem tcon_31 : tcon Try.prog 31 = true := by kernel_rfl
theorem tstr_31 : tstr Try.prog 31 = false := by kernel_rfl
theorem tbool_31 : tbool Try.prog 31 = false := by kernel_rfl
theorem tslc_31 : tslc Try.prog 31 = none := by kernel_rfl
theorem tarr_31 : tarr Try.prog 31 = none := by kernel_rfl
theorem tby_31 : tby Try.prog 31 = some 8 := by kernel_rfl
theorem tzr_31 : tzr Try.prog 31 = some [.raw .nilFunc] := by kernel_rfl
theorem tsz_33 : tsz Try.prog 33 = some 1 := by kernel_rfl
theorem tag_33 : tag Try.prog 33 = some false := by kernel_rfl
theorem tcon_33 : tcon Try.prog 33 = true := by kernel_rfl
theorem tstr_33 : tstr Try.prog 33 = false := by kernel_rfl
theorem tbool_33 : tbool Try.prog 33 = false := by kernel_rfl
theorem tslc_33 : tslc Try.prog 33 = none := by kernel_rfl
theorem tarr_33 : tarr Try.prog 33 = none := by kernel_rfl
theorem tby_33 : tby Try.prog 33 = some 8 := by kernel_rfl
theorem tzr_33 : tzr Try.prog 33 = some [.raw .nilFunc] := by kernel_rfl
theorem tsz_34 : tsz Try.prog 34 = some 1 := by kernel_rfl
theorem tag_34 : tag Try.prog 34 = some false := by kernel_rfl
theorem tcon_34 : tcon Try.prog 34 = true := by kernel_rfl
theorem tstr_34 : tstr Try.prog 34 = false := by kernel_rfl
theorem tbool_34 : tbool Try.prog 34 = false := by kernel_rfl
theorem tslc_34 : tslc Try.prog 34 = none := by kernel_rfl
theorem tarr_34 : tarr Try.prog 34 = none := by kernel_rfl
theorem tby_34 : tby Try.prog 34 = some 8 := by kernel_rfl
theorem tzr_34 : tzr Try.prog 34 = some [.raw .nilFunc] := by kernel_rfl
theorem tsz_35 : tsz Try.prog 35 = some 1 := by kernel_rfl
theorem tag_35 : tag Try.prog 35 = some false := by kernel_rfl
theorem tcon_35 : tcon Try.prog 35 = true := by kernel_rfl
theorem tstr_35 : tstr Try.prog 35 = false := by kernel_rfl
theorem tbool_35 : tbool Try.prog 35 = false := by kernel_rfl
theorem tslc_35 : tslc Try.prog 35 = none := by kernel_rfl
theorem tarr_35 : tarr Try.prog 35 = none := by kernel_rfl
theorem tby_35 : tby Try.prog 35 = some 8 := by kernel_rfl
theorem tzr_35 : tzr Try.prog 35 = some [.raw .nilFunc] := by kernel_rfl
theorem tsz_36 : tsz Try.prog 36 = some 1 := by kernel_rfl
theorem tag_36 : tag Try.prog 36 = some false := by kernel_rfl
theorem tcon_36 : tcon Try.prog 36 = true := by kernel_rfl
theorem tstr_36 : tstr Try.prog 36 = false := by kernel_rfl
theorem tbool_36 : tbool Try.prog 36 = false := by kernel_rfl
theorem tslc_36 : tslc Try.prog 36 = none := by kernel_rfl
theorem tarr_36 : tarr Try.prog 36 = none := by kernel_rfl
theorem tby_36 : tby Try.prog 36 = some 8 := by kernel_rfl
theorem tzr_36 : tzr Try.prog 36 = some [.d (.int .i64 0)] := by kernel_rfl
theorem tsz_38 : tsz Try.prog 38 = some 1 := by kernel_rfl
theorem tag_38 : tag Try.prog 38 = some false := by kernel_rfl
theorem tcon_38 : tcon Try.prog 38 = true := by kernel_rfl
theorem tstr_38 : tstr Try.prog 38 = false := by kernel_rfl
theorem tbool_38 : tbool Try.prog 38 = false := by kernel_rfl
theorem tslc_38 : tslc Try.prog 38 = none := by kernel_rfl
theorem tarr_38 : tarr Try.prog 38 = none := by kernel_rfl
theorem tby_38 : tby Try.prog 38 = some 8 := by kernel_rfl
theorem tzr_38 : tzr Try.prog 38 = some [.raw .nilFunc] := by kernel_rfl
theorem tsz_40 : tsz Try.prog 40 = some 1 := by kernel_rfl
theorem tag_40 : tag Try.prog 40 = some false := by kernel_rfl
theorem tcon_40 : tcon Try.prog 40 = true := by kernel_rfl
theorem tstr_40 : tstr Try.prog 40 = false := by kernel_rfl
theorem tbool_40 : tbool Try.prog 40 = false := by kernel_rfl
theorem tslc_40 : tslc Try.prog 40 = none := by kernel_rfl
theorem tarr_40 : tarr Try.prog 40 = none := by kernel_rfl
theorem tby_40 : tby Try.prog 40 = some 8 := by kernel_rfl
theorem tzr_40 : tzr Try.prog 40 = some [.raw .nilFunc] := by kernel_rfl
theorem tsz_41 : tsz Try.prog 41 = some 1 := by kernel_rfl
theorem tag_41 : tag Try.prog 41 = some false := by kernel_rfl
theorem tcon_41 : tcon Try.prog 41 = true := by kernel_rfl
theorem tstr_41 : tstr Try.prog 41 = false := by kernel_rfl
theorem tbool_41 : tbool Try.prog 41 = false := by kernel_rfl
theorem tslc_41 : tslc Try.prog 41 = some 3 := by kernel_rfl
theorem tarr_41 : tarr Try.prog 41 = none := by kernel_rfl
theorem tby_41 : tby Try.prog 41 = some 24 := by kernel_rfl
theorem tzr_41 : tzr Try.prog 41 = some [.clip []] := by kernel_rfl
theorem tsz_42 : tsz Try.prog 42 = some 1 := by kernel_rfl
theorem tag_42 : tag Try.prog 42 = some false := by kernel_rfl
theorem tcon_42 : tcon Try.prog 42 = true := by kernel_rfl
theorem tstr_42 : tstr Try.prog 42 = false := by kernel_rfl
theorem tbool_42 : tbool Try.prog 42 = false := by kernel_rfl
theorem tslc_42 : tslc Try.prog 42 = none := by kernel_rfl
theorem tarr_42 : tarr Try.prog 42 = none := by kernel_rfl
theorem tby_42 : tby Try.prog 42 = some 8 := by kernel_rfl
theorem tzr_42 : tzr Try.prog 42 = some [.raw .nilFunc] := by kernel_rfl
theorem tsz_43 : tsz Try.prog 43 = some 1 := by kernel_rfl
theorem tag_43 : tag Try.prog 43 = some false := by kernel_rfl
theorem tcon_43 : tcon Try.prog 43 = true := by kernel_rfl
theorem tstr_43 : tstr Try.prog 43 = false := by kernel_rfl
theorem tbool_43 : tbool Try.prog 43 = false := by kernel_rfl
theorem tslc_43 : tslc Try.prog 43 = none := by kernel_rfl
theorem tarr_43 : tarr Try.prog 43 = none := by kernel_rfl
theorem tby_43 : tby Try.prog 43 = some 8 := by kernel_rfl
theorem tzr_43 : tzr Try.prog 43 = some [.raw .nilFunc] := by kernel_rfl
theorem tsz_44 : tsz Try.prog 44 = some 1 := by kernel_rfl
theorem tag_44 : tag Try.prog 44 = some false := by kernel_rfl
theorem tcon_44 : tcon Try.prog 44 = true := by kernel_rfl
theorem tstr_44 : tstr Try.prog 44 = false := by kernel_rfl
theorem tbool_44 : tbool Try.prog 44 = false := by kernel_rfl
theorem tslc_44 : tslc Try.prog 44 = none := by kernel_rfl
theorem tarr_44 : tarr Try.prog 44 = none := by kernel_rfl
theorem tby_44 : tby Try.prog 44 = some 8 := by kernel_rfl
theorem tzr_44 : tzr Try.prog 44 = some [.raw .nilFunc] := by kernel_rfl
theorem tsz_45 : tsz Try.prog 45 = some 1 := by kernel_rfl
theorem tag_45 : tag Try.prog 45 = some false := by kernel_rfl
theorem tcon_45 : tcon Try.prog 45 = true := by kernel_rfl
theorem tstr_45 : tstr Try.prog 45 = false := by kernel_rfl
theorem tbool_45 : tbool Try.prog 45 = false := by kernel_rfl
theorem tslc_45 : tslc Try.prog 45 = none := by kernel_rfl
theorem tarr_45 : tarr Try.prog 45 = none := by kernel_rfl
theorem tby_45 : tby Try.prog 45 = some 8 := by kernel_rfl
theorem tzr_45 : tzr Try.prog 45 = some [.raw .nilFunc] := by kernel_rfl
theorem tsz_46 : tsz Try.prog 46 = some 1 := by kernel_rfl
theorem tag_46 : tag Try.prog 46 = some false := by kernel_rfl
theorem tcon_46 : tcon Try.prog 46 = true := by kernel_rfl
theorem tstr_46 : tstr Try.prog 46 = false := by kernel_rfl
theorem tbool_46 : tbool Try.prog 46 = false := by kernel_rfl
theorem tslc_46 : tslc Try.prog 46 = none := by kernel_rfl
theorem tarr_46 : tarr Try.prog 46 = none := by kernel_rfl
theorem tby_46 : tby Try.prog 46 = some 8 := by kernel_rfl
theorem tzr_46 : tzr Try.prog 46 = some [.raw .nilFunc] := by kernel_rfl
theorem tsz_47 : tsz Try.prog 47 = some 1 := by kernel_rfl
theorem tag_47 : tag Try.prog 47 = some false := by kernel_rfl
theorem tcon_47 : tcon Try.prog 47 = true := by kernel_rfl
theorem tstr_47 : tstr Try.prog 47 = false := by kernel_rfl
theorem tbool_47 : tbool Try.prog 47 = false := by kernel_rfl
theorem tslc_47 : tslc Try.prog 47 = none := by kernel_rfl
theorem tarr_47 : tarr Try.prog 47 = none := by kernel_rfl
theorem tby_47 : tby Try.prog 47 = some 8 := by kernel_rfl
theorem tzr_47 : tzr Try.prog 47 = some [.raw .nilFunc] := by kernel_rfl
theorem tsz_48 : tsz Try.prog 48 = some 1 := by kernel_rfl
theorem tag_48 : tag Try.prog 48 = some false := by kernel_rfl
theorem tcon_48 : tcon Try.prog 48 = true := by kernel_rfl
theorem tstr_48 : tstr Try.prog 48 = false := by kernel_rfl
theorem tbool_48 : tbool Try.prog 48 = false := by kernel_rfl
theorem tslc_48 : tslc Try.prog 48 = none := by kernel_rfl
theorem tarr_48 : tarr Try.prog 48 = none := by kernel_rfl
theorem tby_48 : tby Try.prog 48 = some 8 := by kernel_rfl
theorem tzr_48 : tzr Try.prog 48 = some [.raw .nilFunc] := by kernel_rfl
theorem tsz_49 : tsz Try.prog 49 = some 1 := by kernel_rfl
theorem tag_49 : tag Try.prog 49 = some false := by kernel_rfl
theorem tcon_49 : tcon Try.prog 49 = true := by kernel_rfl
theorem tstr_49 : tstr Try.prog 49 = false := by kernel_rfl
theorem tbool_49 : tbool Try.prog 49 = false := by kernel_rfl
theorem tslc_49 : tslc Try.prog 49 = none := by kernel_rfl
theorem tarr_49 : tarr Try.prog 49 = none := by kernel_rfl
theorem tby_49 : tby Try.prog 49 = some 8 := by kernel_rfl
theorem tzr_49 : tzr Try.prog 49 = some [.raw .nilFunc] := by kernel_rfl
theorem tsz_50 : tsz Try.prog 50 = some 2 := by kernel_rfl
theorem tag_50 : tag Try.prog 50 = some true := by kernel_rfl
theorem tcon_50 : tcon Try.prog 50 = true := by kernel_rfl
theorem tstr_50 : tstr Try.prog 50 = false := by kernel_rfl
theorem tbool_50 : tbool Try.prog 50 = false := by kernel_rfl
theorem tslc_50 : tslc Try.prog 50 = none := by kernel_rfl
theorem tarr_50 : tarr Try.prog 50 = none := by kernel_rfl
theorem tby_50 : tby Try.prog 50 = some 16 := by kernel_rfl
theorem tzr_50 : tzr Try.prog 50 = some [.d (.int .i64 0), .d (.int .i64 0)] := by kernel_rfl
theorem tfld_50_0 : tfld Try.prog 50 0 = some (0, 1, 3) := by kernel_rfl
theorem place_50_0 : place Try.prog 50 0 = some (0, 1) := by kernel_rfl
theorem tfld_50_1 : tfld Try.prog 50 1 = some (1, 1, 3) := by kernel_rfl
theorem place_50_1 : place Try.prog 50 1 = some (1, 1) := by kernel_rfl
theorem tbld_50 : tbld Try.prog 50 = true := by kernel_rfl
theorem tsz_51 : tsz Try.prog 51 = some 2 := by kernel_rfl
theorem tag_51 : tag Try.prog 51 = some true := by kernel_rfl
theorem tcon_51 : tcon Try.prog 51 = true := by kernel_rfl
theorem tstr_51 : tstr Try.prog 51 = false := by kernel_rfl
theorem tbool_51 : tbool Try.prog 51 = false := by kernel_rfl
theorem tslc_51 : tslc Try.prog 51 = none := by kernel_rfl
theorem tarr_51 : tarr Try.prog 51 = none := by kernel_rfl
theorem tby_51 : tby Try.prog 51 = some 16 := by kernel_rfl
theorem tzr_51 : tzr Try.prog 51 = some [.d (.int .i64 0), .d (.int .i64 0)] := by kernel_rfl
theorem tfld_51_0 : tfld Try.prog 51 0 = some (0, 1, 3) := by kernel_rfl
theorem place_51_0 : place Try.prog 51 0 = some (0, 1) := by kernel_rfl
theorem tfld_51_1 : tfld Try.prog 51 1 = some (1, 1, 3) := by kernel_rfl
theorem place_51_1 : place Try.prog 51 1 = some (1, 1) := by kernel_rfl
theorem tbld_51 : tbld Try.prog 51 = true := by kernel_rfl
theorem tsz_52 : tsz Try.prog 52 = some 1 := by kernel_rfl
theorem tag_52 : tag Try.prog 52 = some false := by kernel_rfl
theorem tcon_52 : tcon Try.prog 52 = true := by kernel_rfl
theorem tstr_52 : tstr Try.prog 52 = false := by kernel_rfl
theorem tbool_52 : tbool Try.prog 52 = false := by kernel_rfl
theorem tslc_52 : tslc Try.prog 52 = none := by kernel_rfl
theorem tarr_52 : tarr Try.prog 52 = none := by kernel_rfl
theorem tby_52 : tby Try.prog 52 = some 8 := by kernel_rfl
theorem tzr_52 : tzr Try.prog 52 = some [.raw .nilFunc] := by kernel_rfl
theorem tsz_53 : tsz Try.prog 53 = some 1 := by kernel_rfl
theorem tag_53 : tag Try.prog 53 = some false := by kernel_rfl
theorem tcon_53 : tcon Try.prog 53 = true := by kernel_rfl
theorem tstr_53 : tstr Try.prog 53 = false := by kernel_rfl
theorem tbool_53 : tbool Try.prog 53 = false := by kernel_rfl
theorem tslc_53 : tslc Try.prog 53 = none := by kernel_rfl
theorem tarr_53 : tarr Try.prog 53 = none := by kernel_rfl
theorem tby_53 : tby Try.prog 53 = some 8 := by kernel_rfl
theorem tzr_53 : tzr Try.prog 53 = some [.raw .nilFunc] := by kernel_rfl
theorem tsz_54 : tsz Try.prog 54 = some 1 := by kernel_rfl
theorem tag_54 : tag Try.prog 54 = some false := by kernel_rfl
theorem tcon_54 : tcon Try.prog 54 = true := by kernel_rfl
theorem tstr_54 : tstr Try.prog 54 = false := by kernel_rfl
theorem tbool_54 : tbool Try.prog 54 = false := by kernel_rfl
theorem tslc_54 : tslc Try.prog 54 = none := by kernel_rfl
theorem tarr_54 : tarr Try.prog 54 = none := by kernel_rfl
theorem tby_54 : tby Try.prog 54 = some 8 := by kernel_rfl
theorem tzr_54 : tzr Try.prog 54 = some [.raw .nilFunc] := by kernel_rfl
theorem tsz_55 : tsz Try.prog 55 = some 1 := by kernel_rfl
theorem tag_55 : tag Try.prog 55 = some false := by kernel_rfl
theorem tcon_55 : tcon Try.prog 55 = true := by kernel_rfl
theorem tstr_55 : tstr Try.prog 55 = false := by kernel_rfl
theorem tbool_55 : tbool Try.prog 55 = false := by kernel_rfl
theorem tslc_55 : tslc Try.prog 55 = none := by kernel_rfl
theorem tarr_55 : tarr Try.prog 55 = none := by kernel_rfl
theorem tby_55 : tby Try.prog 55 = some 8 := by kernel_rfl
theorem tzr_55 : tzr Try.prog 55 = some [.raw .nilFunc] := by kernel_rfl
theorem tsz_58 : tsz Try.prog 58 = some 1 := by kernel_rfl
theorem tag_58 : tag Try.prog 58 = some false := by kernel_rfl
theorem tcon_58 : tcon Try.prog 58 = true := by kernel_rfl
theorem tstr_58 : tstr Try.prog 58 = false := by kernel_rfl
theorem tbool_58 : tbool Try.prog 58 = false := by kernel_rfl
theorem tslc_58 : tslc Try.prog 58 = none := by kernel_rfl
theorem tarr_58 : tarr Try.prog 58 = none := by kernel_rfl
theorem tby_58 : tby Try.prog 58 = some 8 := by kernel_rfl
theorem tzr_58 : tzr Try.prog 58 = some [.raw .nilFunc] := by kernel_rfl
theorem tsz_59 : tsz Try.prog 59 = some 1 := by kernel_rfl
theorem tag_59 : tag Try.prog 59 = some false := by kernel_rfl
theorem tcon_59 : tcon Try.prog 59 = true := by kernel_rfl
theorem tstr_59 : tstr Try.prog 59 = false := by kernel_rfl
theorem tbool_59 : tbool Try.prog 59 = false := by kernel_rfl
theorem tslc_59 : tslc Try.prog 59 = none := by kernel_rfl
theorem tarr_59 : tarr Try.prog 59 = none := by kernel_rfl
theorem tby_59 : tby Try.prog 59 = some 8 := by kernel_rfl
theorem tzr_59 : tzr Try.prog 59 = some [.raw .nilFunc] := by kernel_rfl
theorem tsz_60 : tsz Try.prog 60 = some 1 := by kernel_rfl
theorem tag_60 : tag Try.prog 60 = some false := by kernel_rfl
theorem tcon_60 : tcon Try.prog 60 = true := by kernel_rfl
theorem tstr_60 : tstr Try.prog 60 = false := by kernel_rfl
theorem tbool_60 : tbool Try.prog 60 = false := by kernel_rfl
theorem tslc_60 : tslc Try.prog 60 = none := by kernel_rfl
theorem tarr_60 : tarr Try.prog 60 = none := by kernel_rfl
theorem tby_60 : tby Try.prog 60 = some 8 := by kernel_rfl
theorem tzr_60 : tzr Try.prog 60 = some [.raw .nilFunc] := by kernel_rfl
theorem tsz_61 : tsz Try.prog 61 = some 1 := by kernel_rfl
theorem tag_61 : tag Try.prog 61 = some false := by kernel_rfl
theorem tcon_61 : tcon Try.prog 61 = true := by kernel_rfl
theorem tstr_61 : tstr Try.prog 61 = false := by kernel_rfl
theorem tbool_61 : tbool Try.prog 61 = false := by kernel_rfl
theorem tslc_61 : tslc Try.prog 61 = none := by kernel_rfl
theorem tarr_61 : tarr Try.prog 61 = none := by kernel_rfl
theorem tby_61 : tby Try.prog 61 = some 8 := by kernel_rfl
theorem tzr_61 : tzr Try.prog 61 = some [.raw .nilFunc] := by kernel_rfl
theorem tsz_62 : tsz Try.prog 62 = some 2 := by kernel_rfl
theorem tag_62 : tag Try.prog 62 = some true := by kernel_rfl
theorem tcon_62 : tcon Try.prog 62 = true := by kernel_rfl
theorem tstr_62 : tstr Try.prog 62 = false := by kernel_rfl
theorem tbool_62 : tbool Try.prog 62 = false := by kernel_rfl
theorem tslc_62 : tslc Try.prog 62 = none := by kernel_rfl
theorem tarr_62 : tarr Try.prog 62 = none := by kernel_rfl
theorem tby_62 : tby Try.prog 62 = some 32 := by kernel_rfl
theorem tzr_62 : tzr Try.prog 62 = some [.clip [], .d (.int .i64 0)] := by kernel_rfl
theorem tfld_62_0 : tfld Try.prog 62 0 = some (0, 1, 22) := by kernel_rfl
theorem place_62_0 : place Try.prog 62 0 = some (0, 1) := by kernel_rfl
theorem tfld_62_1 : tfld Try.prog 62 1 = some (1, 1, 3) := by kernel_rfl
theorem place_62_1 : place Try.prog 62 1 = some (1, 1) := by kernel_rfl
theorem tbld_62 : tbld Try.prog 62 = true := by kernel_rfl
theorem tsz_63 : tsz Try.prog 63 = some 2 := by kernel_rfl
theorem tag_63 : tag Try.prog 63 = some true := by kernel_rfl
theorem tcon_63 : tcon Try.prog 63 = true := by kernel_rfl
theorem tstr_63 : tstr Try.prog 63 = false := by kernel_rfl
theorem tbool_63 : tbool Try.prog 63 = false := by kernel_rfl
theorem tslc_63 : tslc Try.prog 63 = none := by kernel_rfl
theorem tarr_63 : tarr Try.prog 63 = none := by kernel_rfl
theorem tby_63 : tby Try.prog 63 = some 32 := by kernel_rfl
theorem tzr_63 : tzr Try.prog 63 = some [.clip [], .d (.int .i64 0)] := by kernel_rfl
theorem tfld_63_0 : tfld Try.prog 63 0 = some (0, 1, 22) := by kernel_rfl
theorem place_63_0 : place Try.prog 63 0 = some (0, 1) := by kernel_rfl
theorem tfld_63_1 : tfld Try.prog 63 1 = some (1, 1, 3) := by kernel_rfl
theorem place_63_1 : place Try.prog 63 1 = some (1, 1) := by kernel_rfl
theorem tbld_63 : tbld Try.prog 63 = true := by kernel_rfl
theorem tsz_64 : tsz Try.prog 64 = some 1 := by kernel_rfl
theorem tag_64 : tag Try.prog 64 = some false := by kernel_rfl
theorem tcon_64 : tcon Try.prog 64 = true := by kernel_rfl
theorem tstr_64 : tstr Try.prog 64 = false := by kernel_rfl
theorem tbool_64 : tbool Try.prog 64 = false := by kernel_rfl
theorem tslc_64 : tslc Try.prog 64 = none := by kernel_rfl
theorem tarr_64 : tarr Try.prog 64 = none := by kernel_rfl
theorem tby_64 : tby Try.prog 64 = some 8 := by kernel_rfl
theorem tzr_64 : tzr Try.prog 64 = some [.raw .nilFunc] := by kernel_rfl
theorem tsz_65 : tsz Try.prog 65 = some 1 := by kernel_rfl
theorem tag_65 : tag Try.prog 65 = some false := by kernel_rfl
theorem tcon_65 : tcon Try.prog 65 = true := by kernel_rfl
theorem tstr_65 : tstr Try.prog 65 = false := by kernel_rfl
theorem tbool_65 : tbool Try.prog 65 = false := by kernel_rfl
theorem tslc_65 : tslc Try.prog 65 = none := by kernel_rfl
theorem tarr_65 : tarr Try.prog 65 = none := by kernel_rfl
theorem tby_65 : tby Try.prog 65 = some 8 := by kernel_rfl
theorem tzr_65 : tzr Try.prog 65 = some [.raw .nilFunc] := by kernel_rfl
theorem tsz_66 : tsz Try.prog 66 = some 1 := by kernel_rfl
theorem tag_66 : tag Try.prog 66 = some false := by kernel_rfl
theorem tcon_66 : tcon Try.prog 66 = true := by kernel_rfl
theorem tstr_66 : tstr Try.prog 66 = false := by kernel_rfl
theorem tbool_66 : tbool Try.prog 66 = false := by kernel_rfl
theorem tslc_66 : tslc Try.prog 66 = none := by kernel_rfl
theorem tarr_66 : tarr Try.prog 66 = none := by kernel_rfl
theorem tby_66 : tby Try.prog 66 = some 8 := by kernel_rfl
theorem tzr_66 : tzr Try.prog 66 = some [.raw (.pointer none)] := by kernel_rfl
theorem tsz_67 : tsz Try.prog 67 = some 1 := by kernel_rfl
theorem tag_67 : tag Try.prog 67 = some false := by kernel_rfl
theorem tcon_67 : tcon Try.prog 67 = true := by kernel_rfl
theorem tstr_67 : tstr Try.prog 67 = false := by kernel_rfl
theorem tbool_67 : tbool Try.prog 67 = false := by kernel_rfl
theorem tslc_67 : tslc Try.prog 67 = none := by kernel_rfl
theorem tarr_67 : tarr Try.prog 67 = none := by kernel_rfl
theorem tby_67 : tby Try.prog 67 = some 8 := by kernel_rfl
theorem tzr_67 : tzr Try.prog 67 = some [.raw .nilFunc] := by kernel_rfl
theorem tsz_68 : tsz Try.prog 68 = some 1 := by kernel_rfl
theorem tag_68 : tag Try.prog 68 = some false := by kernel_rfl
theorem tcon_68 : tcon Try.prog 68 = true := by kernel_rfl
theorem tstr_68 : tstr Try.prog 68 = false := by kernel_rfl
theorem tbool_68 : tbool Try.prog 68 = false := by kernel_rfl
theorem tslc_68 : tslc Try.prog 68 = none := by kernel_rfl
theorem tarr_68 : tarr Try.prog 68 = none := by kernel_rfl
theorem tby_68 : tby Try.prog 68 = some 8 := by kernel_rfl
theorem tzr_68 : tzr Try.prog 68 = some [.raw .nilFunc] := by kernel_rfl
theorem tsz_70 : tsz Try.prog 70 = some 1 := by kernel_rfl
theorem tag_70 : tag Try.prog 70 = some true := by kernel_rfl
theorem tcon_70 : tcon Try.prog 70 = true := by kernel_rfl
theorem tstr_70 : tstr Try.prog 70 = false := by kernel_rfl
theorem tbool_70 : tbool Try.prog 70 = false := by kernel_rfl
theorem tslc_70 : tslc Try.prog 70 = none := by kernel_rfl
theorem tarr_70 : tarr Try.prog 70 = none := by kernel_rfl
theorem tby_70 : tby Try.prog 70 = some 8 := by kernel_rfl
theorem tzr_70 : tzr Try.prog 70 = some [.d (.int .i64 0)] := by kernel_rfl
theorem tfld_70_0 : tfld Try.prog 70 0 = some (0, 1, 3) := by kernel_rfl
theorem place_70_0 : place Try.prog 70 0 = some (0, 1) := by kernel_rfl
theorem tbld_70 : tbld Try.prog 70 = true := by kernel_rfl
theorem tsz_71 : tsz Try.prog 71 = some 1 := by kernel_rfl
theorem tag_71 : tag Try.prog 71 = some true := by kernel_rfl
theorem tcon_71 : tcon Try.prog 71 = true := by kernel_rfl
theorem tstr_71 : tstr Try.prog 71 = false := by kernel_rfl
theorem tbool_71 : tbool Try.prog 71 = false := by kernel_rfl
theorem tslc_71 : tslc Try.prog 71 = none := by kernel_rfl
theorem tarr_71 : tarr Try.prog 71 = none := by kernel_rfl
theorem tby_71 : tby Try.prog 71 = some 8 := by kernel_rfl
theorem tzr_71 : tzr Try.prog 71 = some [.d (.int .i64 0)] := by kernel_rfl
theorem tfld_71_0 : tfld Try.prog 71 0 = some (0, 1, 3) := by kernel_rfl
theorem place_71_0 : place Try.prog 71 0 = some (0, 1) := by kernel_rfl
theorem tbld_71 : tbld Try.prog 71 = true := by kernel_rfl
theorem tsz_72 : tsz Try.prog 72 = some 1 := by kernel_rfl
theorem tag_72 : tag Try.prog 72 = some false := by kernel_rfl
theorem tcon_72 : tcon Try.prog 72 = true := by kernel_rfl
theorem tstr_72 : tstr Try.prog 72 = false := by kernel_rfl
theorem tbool_72 : tbool Try.prog 72 = false := by kernel_rfl
theorem tslc_72 : tslc Try.prog 72 = none := by kernel_rfl
theorem tarr_72 : tarr Try.prog 72 = none := by kernel_rfl
theorem tby_72 : tby Try.prog 72 = some 8 := by kernel_rfl
theorem tzr_72 : tzr Try.prog 72 = some [.raw .nilFunc] := by kernel_rfl
theorem tsz_73 : tsz Try.prog 73 = some 1 := by kernel_rfl
theorem tag_73 : tag Try.prog 73 = some false := by kernel_rfl
theorem tcon_73 : tcon Try.prog 73 = true := by kernel_rfl
theorem tstr_73 : tstr Try.prog 73 = false := by kernel_rfl
theorem tbool_73 : tbool Try.prog 73 = false := by kernel_rfl
theorem tslc_73 : tslc Try.prog 73 = none := by kernel_rfl
theorem tarr_73 : tarr Try.prog 73 = none := by kernel_rfl
theorem tby_73 : tby Try.prog 73 = some 8 := by kernel_rfl
theorem tzr_73 : tzr Try.prog 73 = some [.raw .nilFunc] := by kernel_rfl
theorem tsz_74 : tsz Try.prog 74 = some 1 := by kernel_rfl
theorem tag_74 : tag Try.prog 74 = some false := by kernel_rfl
theorem tcon_74 : tcon Try.prog 74 = true := by kernel_rfl
theorem tstr_74 : tstr Try.prog 74 = false := by kernel_rfl
theorem tbool_74 : tbool Try.prog 74 = false := by kernel_rfl
theorem tslc_74 : tslc Try.prog 74 = none := by kernel_rfl
theorem tarr_74 : tarr Try.prog 74 = none := by kernel_rfl
theorem tby_74 : tby Try.prog 74 = some 8 := by kernel_rfl
theorem tzr_74 : tzr Try.prog 74 = some [.raw .nilFunc] := by kernel_rfl
theorem tsz_75 : tsz Try.prog 75 = some 1 := by kernel_rfl
theorem tag_75 : tag Try.prog 75 = some false := by kernel_rfl
theorem tcon_75 : tcon Try.prog 75 = true := by kernel_rfl
theorem tstr_75 : tstr Try.prog 75 = false := by kernel_rfl
theorem tbool_75 : tbool Try.prog 75 = false := by kernel_rfl
theorem tslc_75 : tslc Try.prog 75 = none := by kernel_rfl
theorem tarr_75 : tarr Try.prog 75 = none := by kernel_rfl
theorem tby_75 : tby Try.prog 75 = some 8 := by kernel_rfl
theorem tzr_75 : tzr Try.prog 75 = some [.raw .nilFunc] := by kernel_rfl
theorem tsz_76 : tsz Try.prog 76 = some 1 := by kernel_rfl
theorem tag_76 : tag Try.prog 76 = some false := by kernel_rfl
theorem tcon_76 : tcon Try.prog 76 = true := by kernel_rfl
theorem tstr_76 : tstr Try.prog 76 = false := by kernel_rfl
theorem tbool_76 : tbool Try.prog 76 = false := by kernel_rfl
theorem tslc_76 : tslc Try.prog 76 = none := by kernel_rfl
theorem tarr_76 : tarr Try.prog 76 = none := by kernel_rfl
theorem tby_76 : tby Try.prog 76 = some 8 := by kernel_rfl
theorem tzr_76 : tzr Try.prog 76 = some [.raw .nilFunc] := by kernel_rfl
theorem tsz_77 : tsz Try.prog 77 = some 1 := by kernel_rfl
theorem tag_77 : tag Try.prog 77 = some false := by kernel_rfl
theorem tcon_77 : tcon Try.prog 77 = true := by kernel_rfl
theorem tstr_77 : tstr Try.prog 77 = false := by kernel_rfl
theorem tbool_77 : tbool Try.prog 77 = false := by kernel_rfl
theorem tslc_77 : tslc Try.prog 77 = some 22 := by kernel_rfl
theorem tarr_77 : tarr Try.prog 77 = none := by kernel_rfl
theorem tby_77 : tby Try.prog 77 = some 24 := by kernel_rfl
theorem tzr_77 : tzr Try.prog 77 = some [.clip []] := by kernel_rfl
theorem tsz_78 : tsz Try.prog 78 = some 1 := by kernel_rfl
theorem tag_78 : tag Try.prog 78 = some false := by kernel_rfl
theorem tcon_78 : tcon Try.prog 78 = true := by kernel_rfl
theorem tstr_78 : tstr Try.prog 78 = false := by kernel_rfl
theorem tbool_78 : tbool Try.prog 78 = false := by kernel_rfl
theorem tslc_78 : tslc Try.prog 78 = none := by kernel_rfl
theorem tarr_78 : tarr Try.prog 78 = none := by kernel_rfl
theorem tby_78 : tby Try.prog 78 = some 8 := by kernel_rfl
theorem tzr_78 : tzr Try.prog 78 = some [.raw .nilFunc] := by kernel_rfl
theorem tsz_79 : tsz Try.prog 79 = some 1 := by kernel_rfl
theorem tag_79 : tag Try.prog 79 = some false := by kernel_rfl
theorem tcon_79 : tcon Try.prog 79 = true := by kernel_rfl
theorem tstr_79 : tstr Try.prog 79 = false := by kernel_rfl
theorem tbool_79 : tbool Try.prog 79 = false := by kernel_rfl
theorem tslc_79 : tslc Try.prog 79 = none := by kernel_rfl
theorem tarr_79 : tarr Try.prog 79 = none := by kernel_rfl
theorem tby_79 : tby Try.prog 79 = some 8 := by kernel_rfl
theorem tzr_79 : tzr Try.prog 79 = some [.raw .nilFunc] := by kernel_rfl
theorem tsz_85 : tsz Try.prog 85 = some 1 := by kernel_rfl
theorem tag_85 : tag Try.prog 85 = some false := by kernel_rfl
theorem tcon_85 : tcon Try.prog 85 = true := by kernel_rfl
theorem tstr_85 : tstr Try.prog 85 = false := by kernel_rfl
theorem tbool_85 : tbool Try.prog 85 = false := by kernel_rfl
theorem tslc_85 : tslc Try.prog 85 = none := by kernel_rfl
theorem tarr_85 : tarr Try.prog 85 = none := by kernel_rfl
theorem tby_85 : tby Try.prog 85 = some 8 := by kernel_rfl
theorem tzr_85 : tzr Try.prog 85 = some [.raw .nilFunc] := by kernel_rfl
theorem tsz_86 : tsz Try.prog 86 = some 1 := by kernel_rfl
theorem tag_86 : tag Try.prog 86 = some false := by kernel_rfl
theorem tcon_86 : tcon Try.prog 86 = true := by kernel_rfl
theorem tstr_86 : tstr Try.prog 86 = false := by kernel_rfl
theorem tbool_86 : tbool Try.prog 86 = false := by kernel_rfl
theorem tslc_86 : tslc Try.prog 86 = none := by kernel_rfl
theorem tarr_86 : tarr Try.prog 86 = none := by kernel_rfl
theorem tby_86 : tby Try.prog 86 = some 4 := by kernel_rfl
theorem tzr_86 : tzr Try.prog 86 = some [.d (.int .u32 0)] := by kernel_rfl
theorem tsz_89 : tsz Try.prog 89 = some 1 := by kernel_rfl
theorem tag_89 : tag Try.prog 89 = some false := by kernel_rfl
theorem tcon_89 : tcon Try.prog 89 = true := by kernel_rfl
theorem tstr_89 : tstr Try.prog 89 = false := by kernel_rfl
theorem tbool_89 : tbool Try.prog 89 = false := by kernel_rfl
theorem tslc_89 : tslc Try.prog 89 = none := by kernel_rfl
theorem tarr_89 : tarr Try.prog 89 = none := by kernel_rfl
theorem tby_89 : tby Try.prog 89 = some 8 := by kernel_rfl
theorem tzr_89 : tzr Try.prog 89 = some [.raw .nilFunc] := by kernel_rfl
theorem tsz_90 : tsz Try.prog 90 = some 1 := by kernel_rfl
theorem tag_90 : tag Try.prog 90 = some false := by kernel_rfl
theorem tcon_90 : tcon Try.prog 90 = true := by kernel_rfl
theorem tstr_90 : tstr Try.prog 90 = false := by kernel_rfl
theorem tbool_90 : tbool Try.prog 90 = false := by kernel_rfl
theorem tslc_90 : tslc Try.prog 90 = none := by kernel_rfl
theorem tarr_90 : tarr Try.prog 90 = none := by kernel_rfl
theorem tby_90 : tby Try.prog 90 = some 8 := by kernel_rfl
theorem tzr_90 : tzr Try.prog 90 = some [.raw (.pointer none)] := by kernel_rfl
def escT : Nat → List Nat
  | 10 => [3]
  | 19 => [4, 5]
  | 21 => [4, 5]
  | 25 => [1]
  | 26 => [3, 4]
  | 30 => [3, 4, 5]
  | 35 => [3, 4, 5, 8]
  | 45 => [2, 3]
  | 48 => [2, 3, 7]
  | _ => []
def clrT' : Nat → Nat → List Nat
  | 3, 0 => [0, 2]
  | 3, 1 => [7]
  | 3, 2 => [8, 9]
  | 3, 3 => [4, 10, 11, 12, 13, 14, 15, 16, 17, 18, 19, 20]
  | 3, 4 => [1, 3, 21, 22]
  | 3, 5 => [3, 21, 23, 24, 25, 26, 27]
  | 3, 6 => [28, 29]
  | 3, 7 => [30, 31, 32, 33, 34, 35]
  | 3, 8 => [1, 5, 6, 36]
  | 3, 9 => [36, 37, 38, 39, 40, 41, 42, 43, 44, 45, 46]
  | 3, 10 => [1, 5, 6, 47, 48, 49, 50, 51, 52, 53, 54, 55, 56, 57, 58, 59, 60, 61, 62, 63, 64, 65, 66]
  | 4, 0 => [0, 4]
  | 4, 1 => [11]
  | 4, 2 => [12, 13]
  | 4, 3 => [6, 14, 15, 16, 17, 18, 19, 20, 21, 22, 23, 24, 25, 26, 27, 28, 29, 30, 31, 32, 33, 34, 35, 36, 37]
  | 4, 4 => [1, 2, 5, 38, 39]
  | 4, 5 => [5, 38, 40, 41, 42, 43, 44]
  | 4, 6 => [45, 46, 47]
  | 4, 7 => [1, 48, 49, 50, 51, 52, 53]
  | 4, 8 => [10, 54, 55, 56, 57, 58, 59, 60, 61, 62, 63, 64, 65, 66]
  | 4, 9 => [2, 7, 8, 9, 67]
  | 4, 10 => [8, 67, 68, 69, 70, 71]
  | 4, 11 => [9, 72, 73, 74, 75]
  | 4, 12 => [2, 7, 76, 77, 78, 79, 80, 81, 82]
  | 5, 0 => [0, 6]
  | 5, 1 => [23]
  | 5, 2 => [24, 25]
  | 5, 3 => [26, 27]
  | 5, 4 => [28, 29]
  | 5, 5 => [30, 31]
  | 5, 6 => [8, 9, 10, 11, 32, 33, 34, 35, 36, 37, 38, 39, 40, 41, 42, 43, 44, 45, 46, 47, 48, 49, 50, 51, 52, 53]
  | 5, 7 => [1, 2, 3, 7, 54, 55]
  | 5, 8 => [7, 54]
  | 5, 9 => [56, 57, 58]
  | 5, 11 => [59, 62, 63, 64, 65, 66]
  | 5, 12 => [13, 67, 68, 69, 70, 71, 72, 73, 74, 75]
  | 5, 13 => [1, 2, 3, 12, 76]
  | 5, 10 => [60, 61, 76]
  | 5, 14 => [12, 59]
  | 5, 15 => [77, 78, 79]
  | 5, 17 => [80, 83, 84, 85, 86, 87]
  | 5, 18 => [1, 2, 3, 14, 88]
  | 5, 16 => [81, 82, 88]
  | 5, 19 => [14, 80, 89, 90, 91, 92, 93, 94]
  | 5, 20 => [15, 95, 96, 97, 98, 99, 100]
  | 5, 21 => [1, 2, 101, 102, 103, 104, 105, 106, 107, 108, 109]
  | 5, 22 => [3, 19, 110, 111, 112, 113, 114, 115]
  | 5, 23 => [16, 17, 18, 20, 21, 22, 116, 117, 118, 119, 120, 121, 122, 123, 124, 125, 126, 127, 128, 129, 130, 131, 132, 133, 134]
  | 6, 0 => [0]
  | 6, 1 => [2, 3, 4]
  | 6, 2 => [1, 5, 6, 7, 8, 9, 10, 11, 12, 13, 14, 15, 16, 17, 18, 19, 20, 21, 22, 23, 24, 25, 26, 27, 28]
  | 7, 0 => [0, 6]
  | 7, 1 => [8, 9]
  | 7, 2 => [1, 2, 3, 7, 10, 11, 12, 13, 14, 15, 16, 17, 18, 19, 20, 21, 22]
  | 8, 0 => [0]
  | 8, 2 => [6]
  | 8, 4 => [10, 11, 12]
  | 8, 5 => [5, 13, 14, 15, 16, 17]
  | 8, 6 => [18]
  | 8, 7 => [1, 3, 7, 8, 9, 10, 19, 20, 21, 22, 23, 24]
  | 9, 0 => [0, 1, 4]
  | 9, 1 => [7, 8, 9, 10, 11, 12, 13, 14, 15, 16, 17, 18, 19, 20, 21, 22, 23, 24, 25, 26]
  | 9, 2 => [2, 3, 27]
  | 9, 3 => [2, 27, 28]
  | 9, 5 => [32, 33, 34, 35]
  | 9, 6 => [5, 6, 36, 37, 38, 39, 40, 41, 42]
  | 9, 7 => [3, 29, 30, 31, 43]
  | 9, 8 => [43, 44]
  | 9, 9 => [3, 29, 30, 31, 32]
  | 10, 0 => [0]
  | 10, 2 => [1, 4]
  | 10, 3 => [2, 3, 5, 6, 7, 8, 9]
  | 10, 4 => [3, 5, 10]
  | 11, 0 => [0]
  | 11, 1 => [6, 7, 8]
  | 11, 2 => [9, 10]
  | 11, 3 => [11, 12]
  | 11, 4 => [1, 4, 13, 14, 15, 16, 17]
  | 11, 5 => [2, 3, 5, 18, 19, 20, 21, 22, 23, 24, 25, 26, 27, 28, 29, 30, 31, 32, 33, 34, 35, 36, 37, 38, 39, 40, 41, 42, 43, 44, 45, 46, 47]
  | 12, 0 => [0, 2]
  | 12, 1 => [1, 3, 4, 5, 6, 7, 8, 9, 10, 11, 12, 13, 14]
  | 13, 0 => [0]
  | 13, 1 => [9, 10, 11, 12]
  | 13, 2 => [1, 2, 3, 13, 14, 15]
  | 13, 3 => [1, 2, 3, 8, 13, 16, 17, 18, 19, 20, 21, 22, 23, 24]
  | 13, 4 => [7, 25]
  | 14, 0 => [0, 7]
  | 14, 1 => [8, 9, 10, 11]
  | 14, 2 => [1, 2, 3, 12, 13]
  | 14, 3 => [1, 2, 3, 12, 14, 15, 16, 17, 18, 19, 20, 21]
  | 15, 0 => [0]
  | 15, 1 => [5, 6, 7]
  | 15, 2 => [8, 9, 10]
  | 15, 3 => [1, 2, 11, 12, 13, 14, 15, 16, 17]
  | 15, 4 => [3, 4, 18, 19, 20, 21, 22, 23, 24, 25, 26, 27, 28, 29, 30, 31, 32, 33, 34, 35, 36, 37, 38]
  | 16, 0 => [6]
  | 16, 1 => [9, 10]
  | 16, 2 => [0, 1, 2, 11]
  | 16, 3 => [11]
  | 16, 4 => [12, 13, 14]
  | 16, 6 => [15, 18, 19, 20, 21, 22, 23, 24]
  | 16, 7 => [8, 25]
  | 16, 8 => [0, 1, 2, 7, 26]
  | 16, 5 => [16, 17, 26]
  | 16, 9 => [0, 1, 2, 7, 15]
  | 17, 0 => [0, 2]
  | 17, 1 => [5, 6, 7, 8, 9, 10, 11, 12]
  | 17, 2 => [1, 13]
  | 17, 3 => [13]
  | 17, 4 => [14, 15, 16, 17]
  | 17, 6 => [18, 21, 22, 23, 24, 25, 26]
  | 17, 7 => [4, 27]
  | 17, 8 => [1, 3, 28]
  | 17, 5 => [19, 20, 28]
  | 17, 9 => [1, 3, 18]
  | 18, 0 => [0, 7]
  | 18, 1 => [10, 11, 12, 13, 14, 15, 16, 17, 18, 19, 20, 21, 22, 23, 24, 25, 26, 27]
  | 18, 2 => [1, 2, 3, 28, 29]
  | 18, 3 => [1, 2, 3, 28, 30, 31, 32, 33, 34, 35, 36]
  | 18, 4 => [38, 39]
  | 18, 5 => [8, 9, 37, 40, 41]
  | 18, 6 => [9, 37, 43, 44]
  | 18, 7 => [8, 42, 45]
  | 18, 8 => [8, 42, 46]
  | 19, 0 => [1, 2, 6, 7]
  | 19, 1 => [8, 9, 10, 11]
  | 19, 2 => [0, 4, 5, 12]
  | 19, 3 => [0, 4, 5, 12, 13, 14, 15, 16, 17]
  | 20, 0 => [0, 2]
  | 20, 2 => [1, 6]
  | 20, 4 => [10, 11, 12]
  | 20, 5 => [5, 13, 14, 15, 16]
  | 20, 6 => [17]
  | 20, 7 => [3, 7, 8, 9, 10, 18, 19]
  | 21, 0 => [0, 1, 2, 6]
  | 21, 1 => [3, 4, 5, 7, 8, 9]
  | 22, 0 => [0, 2]
  | 22, 1 => [5, 6]
  | 22, 2 => [1, 7]
  | 22, 3 => [7]
  | 22, 4 => [8, 9, 10, 11]
  | 22, 6 => [12, 15, 16, 17, 18, 19, 20]
  | 22, 7 => [4, 21]
  | 22, 8 => [1, 3, 22]
  | 22, 5 => [13, 14, 22]
  | 22, 9 => [1, 3, 12]
  | 23, 0 => [0, 2]
  | 23, 3 => [5, 6, 7, 8]
  | 23, 5 => [9, 12, 13, 14, 15, 16, 17, 18, 19]
  | 23, 4 => [10, 11]
  | 23, 6 => [1, 3, 4, 9, 20]
  | 24, 0 => [0, 2]
  | 24, 3 => [6, 7, 8, 9]
  | 24, 5 => [10, 13, 14, 15, 16, 17, 18]
  | 24, 6 => [19, 20]
  | 24, 7 => [5, 21, 22]
  | 24, 4 => [5, 11, 12, 21]
  | 24, 8 => [1, 3, 4, 10, 23, 24]
  | 25, 0 => [0, 2]
  | 25, 1 => [1, 3]
  | 26, 0 => [0, 1]
  | 26, 1 => [2, 7]
  | 26, 2 => [8, 9]
  | 26, 3 => [10]
  | 26, 4 => [3, 5, 6, 11, 12, 13, 14]
  | 26, 5 => [15]
  | 26, 6 => [3, 8]
  | 27, 0 => [0, 1, 4]
  | 27, 1 => [3, 5, 6]
  | 28, 0 => [0, 2]
  | 28, 1 => [3]
  | 28, 2 => [6]
  | 28, 3 => [1, 4, 5, 7, 8, 9, 10, 11, 12, 13, 14, 15]
  | 28, 4 => [5, 17]
  | 28, 5 => [1, 4, 16, 18, 19, 20, 21, 22, 23, 24, 25, 26]
  | 28, 6 => [4, 16, 28]
  | 28, 7 => [1, 27, 29, 30, 31, 32, 33, 34, 35, 36, 37]
  | 28, 8 => [1, 27, 38, 39, 40, 41, 42, 43, 44, 45, 46, 47, 48, 49, 50]
  | 29, 0 => [0, 6]
  | 29, 1 => [1, 2, 3, 7, 8, 9, 10, 11, 12, 13, 14, 15, 16, 17, 18, 19, 20, 21, 22, 23, 24]
  | 30, 0 => [0, 1, 2, 7]
  | 30, 1 => [11, 12]
  | 30, 2 => [13, 14]
  | 30, 3 => [15, 16, 17, 18, 19, 20, 21, 22, 23]
  | 30, 4 => [9, 15, 24]
  | 30, 5 => [3, 4, 5, 8, 25, 26]
  | 30, 6 => [4, 5, 25, 27, 28, 29, 30, 31, 32, 33]
  | 30, 7 => [9, 34]
  | 30, 8 => [3, 8, 10, 35, 36]
  | 30, 9 => [3, 8, 10, 35, 37, 38, 39, 40, 41]
  | 31, 0 => [0, 6, 7]
  | 31, 1 => [2, 8, 9, 10, 11, 12]
  | 31, 2 => [1, 3, 13, 14, 15, 16, 17]
  | 31, 3 => [1, 3, 13, 18]
  | 32, 0 => [0, 6, 7]
  | 32, 1 => [9, 10, 11, 12, 13, 14]
  | 32, 2 => [1, 2, 3, 8, 15]
  | 32, 3 => [2, 8, 17, 18, 19, 20, 21, 22, 23, 24, 25]
  | 32, 4 => [1, 3, 16]
  | 32, 5 => [1, 3, 16, 26, 27, 28, 29]
  | 33, 0 => [0, 2]
  | 33, 1 => [1, 3, 4, 5]
  | 34, 0 => [4]
  | 34, 1 => [0, 1, 5, 6, 7, 8]
  | 35, 0 => [0, 1, 2, 7]
  | 35, 1 => [11, 12, 13, 14, 15, 16, 17, 18]
  | 35, 2 => [8, 19, 20, 21, 22, 23, 24, 25]
  | 35, 3 => [27, 28]
  | 35, 4 => [3, 4, 5, 9, 10, 26, 29, 30]
  | 35, 5 => [10, 26, 32, 33, 34]
  | 35, 6 => [3, 4, 5, 9, 31, 35, 36, 37, 38, 39, 40]
  | 35, 7 => [31, 42, 43, 44, 45, 46]
  | 35, 8 => [3, 4, 5, 9, 41, 47]
  | 35, 9 => [41, 49, 50]
  | 35, 10 => [3, 4, 5, 9, 48, 51]
  | 35, 11 => [3, 4, 5, 9, 48, 52, 53, 54, 55, 56, 57, 58, 59, 60, 61, 62]
  | 36, 0 => [4, 5]
  | 36, 2 => [0]
  | 36, 4 => [14, 15, 16, 17]
  | 36, 5 => [7, 8, 18, 19, 20, 21, 22, 23, 24]
  | 36, 6 => [25]
  | 36, 7 => [1, 6, 9, 10, 11, 12, 13, 26, 27]
  | 36, 8 => [9, 10, 26, 28, 29, 30, 31]
  | 36, 9 => [32]
  | 36, 10 => [1, 6, 11, 12, 13, 14, 33]
  | 37, 0 => [1, 7]
  | 37, 1 => [0, 2, 3, 5, 8, 9, 10, 11, 12, 13, 14, 15, 16]
  | 38, 0 => [1, 6]
  | 38, 1 => [0, 2, 3, 5, 7, 8, 9, 10, 11, 12, 13, 14, 15, 16, 17, 18, 19, 20, 21, 22, 23, 24, 25, 26, 27, 28]
  | 39, 0 => [0, 1, 3, 4, 5]
  | 40, 0 => [0, 6]
  | 40, 1 => [10, 11, 12, 13]
  | 40, 2 => [1, 2, 3, 14]
  | 40, 3 => [14, 15]
  | 40, 5 => [19, 20, 21, 22]
  | 40, 6 => [23]
  | 40, 7 => [7, 24, 25, 26, 27, 28, 29, 30, 31, 32]
  | 40, 8 => [33, 34, 35]
  | 40, 9 => [8, 9, 33, 36, 37, 38, 39]
  | 40, 10 => [1, 2, 3, 16, 17, 18, 40]
  | 40, 11 => [40, 41]
  | 40, 12 => [1, 2, 3, 16, 17, 18, 19]
  | 41, 0 => [4, 5]
  | 41, 2 => [0]
  | 41, 4 => [14, 15, 16, 17]
  | 41, 5 => [7, 8, 18, 19, 20, 21, 22, 23, 24]
  | 41, 6 => [10, 25]
  | 41, 7 => [1, 6, 9, 11, 12, 13, 26]
  | 41, 8 => [9, 26, 27, 28, 29, 30]
  | 41, 9 => [31]
  | 41, 10 => [1, 6, 11, 12, 13, 14, 32]
  | 42, 0 => [1, 8]
  | 42, 1 => [2, 10]
  | 42, 2 => [0, 3, 11, 12, 13, 14, 15, 16, 17, 18, 19, 20, 21, 22, 23, 24, 25]
  | 42, 3 => [26, 27, 28]
  | 42, 4 => [4, 6, 9, 26, 29, 30, 31, 32, 33, 34]
  | 43, 0 => [4]
  | 43, 1 => [6]
  | 43, 3 => [9, 10]
  | 43, 4 => [11, 12, 13, 14, 15]
  | 43, 5 => [0, 1, 5, 7, 8, 16, 17]
  | 43, 6 => [5, 16, 18]
  | 43, 7 => [0, 1, 7, 8, 9]
  | 44, 0 => [1, 9]
  | 44, 1 => [0, 2, 3, 10, 11, 12, 13, 14, 15, 16, 17]
  | 44, 2 => [4, 5, 7, 18, 19, 20, 21, 22, 23, 24, 25]
  | 44, 3 => [4, 5, 7, 18, 26, 27, 28, 29, 30, 31]
  | 45, 0 => [0, 1, 5]
  | 45, 1 => [6, 7, 8, 9, 10, 11, 12]
  | 45, 2 => [2, 3, 13, 14]
  | 45, 3 => [2, 3, 13, 15, 16, 17, 18]
  | 46, 0 => [0, 2]
  | 46, 1 => [1, 3, 4, 5, 6, 7, 8, 9, 10]
  | 47, 0 => [0, 2]
  | 47, 2 => [1, 3, 4, 5, 6, 7, 8, 9, 10, 11, 12, 13, 14, 15, 16, 17, 18, 19, 20, 21, 22, 23, 24]
  | 48, 1 => [4]
  | 48, 2 => [0, 5, 6, 7, 8]
  | 48, 3 => [9, 10]
  | 48, 4 => [11, 12]
  | 48, 5 => [11, 13]
  | 49, 1 => [0, 1, 2, 5, 6, 7, 8]
  | 50, 0 => [1, 2]
  | 50, 1 => [11, 12, 13, 14, 15, 16, 17]
  | 50, 2 => [18, 19, 20, 21]
  | 50, 3 => [22, 23]
  | 50, 4 => [22, 24, 25, 26, 27, 28]
  | 50, 5 => [29]
  | 50, 7 => [33, 34, 35, 36]
  | 50, 8 => [37]
  | 50, 9 => [8, 38, 39, 40, 41, 42, 43, 44, 45, 46, 47, 48, 49, 50, 51, 52]
  | 50, 10 => [53, 54, 55]
  | 50, 11 => [9, 10, 53, 56, 57, 58, 59, 60, 61, 62, 63, 64]
  | 50, 12 => [65]
  | 50, 13 => [30, 31, 32, 33, 66, 67]
  | 50, 14 => [0, 4, 5, 7, 68, 69]
  | 50, 15 => [0, 4, 5, 7, 68, 70, 71, 72, 73, 74, 75, 76, 77]
  | 51, 0 => [0, 2]
  | 51, 1 => [1, 3, 4, 5]
  | 52, 0 => [5]
  | 52, 1 => [6, 7, 8, 9, 10]
  | 52, 2 => [4]
  | 52, 3 => [0, 1, 2, 3, 11, 12, 13]
  | 52, 4 => [0, 1, 3, 11, 14]
  | 52, 5 => [2, 15, 16]
  | 53, 0 => [0, 2, 3]
  | 54, 0 => [0]
  | 54, 1 => [6, 7, 8, 9]
  | 54, 2 => [1, 10]
  | 54, 4 => [14, 15, 16]
  | 54, 5 => [5, 17, 18, 19, 20, 21, 22, 23]
  | 54, 6 => [24]
  | 54, 7 => [11, 12, 13, 14, 25, 26, 27, 28, 29, 30]
  | 54, 8 => [3, 31]
  | 55, 0 => [1]
  | 55, 1 => [7, 8]
  | 55, 2 => [0, 2, 4, 9, 10]
  | 55, 3 => [9, 11]
  | 55, 4 => [14]
  | 55, 5 => [12, 13, 15, 16, 17, 18]
  | 55, 6 => [19, 20]
  | 55, 7 => [0, 2, 4, 19, 21, 22, 23, 24, 25, 26, 27, 28, 29, 30, 31, 32, 33]
  | 55, 8 => [0, 13, 35]
  | 55, 9 => [36]
  | 55, 10 => [12, 37]
  | 55, 11 => [2, 4, 12, 34, 38, 39, 40, 41, 42, 43, 44, 45, 46, 47]
  | 55, 12 => [2, 12, 34, 48]
  | 55, 13 => [4, 49]
  | 56, 0 => [0]
  | 56, 1 => [5, 6, 7, 8]
  | 56, 2 => [1, 2, 9, 10, 11, 12, 13, 14, 15, 16, 17, 18, 19, 20]
  | 56, 3 => [1, 2, 9, 21, 22, 23, 24, 25, 26, 27, 28, 29]
  | 57, 0 => [2]
  | 57, 4 => [12, 13, 14]
  | 57, 5 => [5, 15, 16, 17, 18]
  | 57, 6 => [19]
  | 57, 7 => [20, 21]
  | 57, 8 => [20, 22]
  | 57, 9 => [3, 9, 10, 11, 12, 23, 24]
  | 57, 10 => [0]
  | 57, 12 => [28, 29, 30]
  | 57, 13 => [8, 31, 32, 33]
  | 57, 14 => [34]
  | 57, 15 => [6, 25, 26, 27, 28, 35]
  | 58, 0 => [4]
  | 58, 1 => [5]
  | 58, 2 => [6, 7]
  | 58, 3 => [6, 8, 9, 10, 11, 12, 13, 14]
  | 58, 4 => [15]
  | 58, 5 => [1, 16, 17, 18, 19, 20, 21, 22, 23, 24, 25]
  | 58, 6 => [0, 1, 16, 26]
  | _, _ => []
def ordT : Nat → Nat → List Nat
  | 3, 9 => [0, 1, 2, 3, 4, 5, 6, 7, 8, 9, 10]
  | 3, 10 => [0, 1, 2, 3, 4, 5, 6, 7, 8, 9, 10, 11, 12, 13, 14, 15, 16, 17, 18, 19, 20]
  | 9, 6 => [0, 1, 2, 3, 4, 5, 6, 7]
  | 35, 11 => [0, 1, 2, 3, 4, 5, 6, 7, 8, 9, 10, 11, 12]
  | 37, 1 => [0, 1, 2, 3, 4, 5, 6, 7, 8, 9, 10]
  | 50, 11 => [0, 1, 2, 3, 4, 5, 6, 7, 8, 9]
  | 50, 15 => [0, 1, 2, 3, 5, 6, 4, 7, 8]
  | 54, 5 => [0, 1, 2, 3, 4, 5, 6, 7]
  | 55, 7 => [0, 1, 2, 3, 4, 5, 6, 7, 8, 10, 11, 9, 12, 13]
  | 55, 11 => [0, 1, 2, 3, 4, 5, 6, 7, 8, 9, 10]
  | _, _ => []
def roT : Nat → Nat → Bool
  | 3, 10 => true
  | 9, 6 => true
  | _, _ => false
noncomputable def C : Cfg := { P := Try.prog, esc := escT, thr := [25], clr := clrT', ord := ordT, ro := roT, ext := extT }
theorem C_P : C.P = Try.prog := rfl
theorem C_thr : C.thr = [25] := rfl
theorem res_3 : Try.f3.results.toList = [.tmp 2] := rfl
theorem esc_3 : C.esc 3 = [] := rfl
theorem clr_3_0 : C.clr 3 0 = [0, 2] := rfl
theorem clr_3_1 : C.clr 3 1 = [7] := rfl
theorem clr_3_2 : C.clr 3 2 = [8, 9] := rfl
theorem clr_3_3 : C.clr 3 3 = [4, 10, 11, 12, 13, 14, 15, 16, 17, 18, 19, 20] := rfl
theorem clr_3_4 : C.clr 3 4 = [1, 3, 21, 22] := rfl
theorem clr_3_5 : C.clr 3 5 = [3, 21, 23, 24, 25, 26, 27] := rfl
theorem clr_3_6 : C.clr 3 6 = [28, 29] := rfl
theorem clr_3_7 : C.clr 3 7 = [30, 31, 32, 33, 34, 35] := rfl
theorem clr_3_8 : C.clr 3 8 = [1, 5, 6, 36] := rfl
theorem clr_3_9 : C.clr 3 9 = [36, 37, 38, 39, 40, 41, 42, 43, 44, 45, 46] := rfl
theorem ord_3_9 : C.ord 3 9 = [0, 1, 2, 3, 4, 5, 6, 7, 8, 9, 10] := rfl
theorem ro_3_9 : C.ro 3 9 = false := rfl
theorem clr_3_10 : C.clr 3 10 = [1, 5, 6, 47, 48, 49, 50, 51, 52, 53, 54, 55, 56, 57, 58, 59, 60, 61, 62, 63, 64, 65, 66] := rfl
theorem ord_3_10 : C.ord 3 10 = [0, 1, 2, 3, 4, 5, 6, 7, 8, 9, 10, 11, 12, 13, 14, 15, 16, 17, 18, 19, 20] := rfl
theorem ro_3_10 : C.ro 3 10 = true := rfl
theorem res_4 : Try.f4.results.toList = [.tmp 4] := rfl
theorem esc_4 : C.esc 4 = [] := rfl
theorem clr_4_0 : C.clr 4 0 = [0, 4] := rfl
theorem clr_4_1 : C.clr 4 1 = [11] := rfl
theorem clr_4_2 : C.clr 4 2 = [12, 13] := rfl
theorem clr_4_3 : C.clr 4 3 = [6, 14, 15, 16, 17, 18, 19, 20, 21, 22, 23, 24, 25, 26, 27, 28, 29, 30, 31, 32, 33, 34, 35, 36, 37] := rfl
theorem clr_4_4 : C.clr 4 4 = [1, 2, 5, 38, 39] := rfl
theorem clr_4_5 : C.clr 4 5 = [5, 38, 40, 41, 42, 43, 44] := rfl
theorem clr_4_6 : C.clr 4 6 = [45, 46, 47] := rfl
theorem clr_4_7 : C.clr 4 7 = [1, 48, 49, 50, 51, 52, 53] := rfl
theorem clr_4_8 : C.clr 4 8 = [10, 54, 55, 56, 57, 58, 59, 60, 61, 62, 63, 64, 65, 66] := rfl
theorem clr_4_9 : C.clr 4 9 = [2, 7, 8, 9, 67] := rfl
theorem clr_4_10 : C.clr 4 10 = [8, 67, 68, 69, 70, 71] := rfl
theorem clr_4_11 : C.clr 4 11 = [9, 72, 73, 74, 75] := rfl
theorem clr_4_12 : C.clr 4 12 = [2, 7, 76, 77, 78, 79, 80, 81, 82] := rfl
theorem res_5 : Try.f5.results.toList = [.tmp 6] := rfl
theorem esc_5 : C.esc 5 = [] := rfl
theorem clr_5_0 : C.clr 5 0 = [0, 6] := rfl
theorem clr_5_1 : C.clr 5 1 = [23] := rfl
theorem clr_5_2 : C.clr 5 2 = [24, 25] := rfl
theorem clr_5_3 : C.clr 5 3 = [26, 27] := rfl
theorem clr_5_4 : C.clr 5 4 = [28, 29] := rfl
theorem clr_5_5 : C.clr 5 5 = [30, 31] := rfl
theorem clr_5_6 : C.clr 5 6 = [8, 9, 10, 11, 32, 33, 34, 35, 36, 37, 38, 39, 40, 41, 42, 43, 44, 45, 46, 47, 48, 49, 50, 51, 52, 53] := rfl
theorem clr_5_7 : C.clr 5 7 = [1, 2, 3, 7, 54, 55] := rfl
theorem clr_5_8 : C.clr 5 8 = [7, 54] := rfl
theorem clr_5_9 : C.clr 5 9 = [56, 57, 58] := rfl
theorem clr_5_11 : C.clr 5 11 = [59, 62, 63, 64, 65, 66] := rfl
theorem clr_5_12 : C.clr 5 12 = [13, 67, 68, 69, 70, 71, 72, 73, 74, 75] := rfl
theorem clr_5_13 : C.clr 5 13 = [1, 2, 3, 12, 76] := rfl
theorem clr_5_10 : C.clr 5 10 = [60, 61, 76] := rfl
theorem clr_5_14 : C.clr 5 14 = [12, 59] := rfl
theorem clr_5_15 : C.clr 5 15 = [77, 78, 79] := rfl
theorem clr_5_17 : C.clr 5 17 = [80, 83, 84, 85, 86, 87] := rfl
theorem clr_5_18 : C.clr 5 18 = [1, 2, 3, 14, 88] := rfl
theorem clr_5_16 : C.clr 5 16 = [81, 82, 88] := rfl
theorem clr_5_19 : C.clr 5 19 = [14, 80, 89, 90, 91, 92, 93, 94] := rfl
theorem clr_5_20 : C.clr 5 20 = [15, 95, 96, 97, 98, 99, 100] := rfl
theorem clr_5_21 : C.clr 5 21 = [1, 2, 101, 102, 103, 104, 105, 106, 107, 108, 109] := rfl
theorem clr_5_22 : C.clr 5 22 = [3, 19, 110, 111, 112, 113, 114, 115] := rfl
theorem clr_5_23 : C.clr 5 23 = [16, 17, 18, 20, 21, 22, 116, 117, 118, 119, 120, 121, 122, 123, 124, 125, 126, 127, 128, 129, 130, 131, 132, 133, 134] := rfl
theorem res_6 : Try.f6.results.toList = [.tmp 0] := rfl
theorem esc_6 : C.esc 6 = [] := rfl
theorem clr_6_0 : C.clr 6 0 = [0] := rfl
theorem clr_6_1 : C.clr 6 1 = [2, 3, 4] := rfl
theorem clr_6_2 : C.clr 6 2 = [1, 5, 6, 7, 8, 9, 10, 11, 12, 13, 14, 15, 16, 17, 18, 19, 20, 21, 22, 23, 24, 25, 26, 27, 28] := rfl
theorem res_7 : Try.f7.results.toList = [.tmp 6] := rfl
theorem esc_7 : C.esc 7 = [] := rfl
theorem clr_7_0 : C.clr 7 0 = [0, 6] := rfl
theorem clr_7_1 : C.clr 7 1 = [8, 9] := rfl
theorem clr_7_2 : C.clr 7 2 = [1, 2, 3, 7, 10, 11, 12, 13, 14, 15, 16, 17, 18, 19, 20, 21, 22] := rfl
theorem res_8 : Try.f8.results.toList = [.cell 2 24] := rfl
theorem esc_8 : C.esc 8 = [] := rfl
theorem clr_8_0 : C.clr 8 0 = [0] := rfl
theorem clr_8_1 : C.clr 8 1 = [] := rfl
theorem clr_8_2 : C.clr 8 2 = [6] := rfl
theorem clr_8_3 : C.clr 8 3 = [] := rfl
theorem clr_8_4 : C.clr 8 4 = [10, 11, 12] := rfl
theorem clr_8_5 : C.clr 8 5 = [5, 13, 14, 15, 16, 17] := rfl
theorem clr_8_6 : C.clr 8 6 = [18] := rfl
theorem clr_8_7 : C.clr 8 7 = [1, 3, 7, 8, 9, 10, 19, 20, 21, 22, 23, 24] := rfl
theorem res_9 : Try.f9.results.toList = [.tmp 4] := rfl
theorem esc_9 : C.esc 9 = [] := rfl
theorem clr_9_0 : C.clr 9 0 = [0, 1, 4] := rfl
theorem clr_9_1 : C.clr 9 1 = [7, 8, 9, 10, 11, 12, 13, 14, 15, 16, 17, 18, 19, 20, 21, 22, 23, 24, 25, 26] := rfl
theorem clr_9_2 : C.clr 9 2 = [2, 3, 27] := rfl
theorem clr_9_3 : C.clr 9 3 = [2, 27, 28] := rfl
theorem clr_9_4 : C.clr 9 4 = [] := rfl
theorem clr_9_5 : C.clr 9 5 = [32, 33, 34, 35] := rfl
theorem clr_9_6 : C.clr 9 6 = [5, 6, 36, 37, 38, 39, 40, 41, 42] := rfl
theorem ord_9_6 : C.ord 9 6 = [0, 1, 2, 3, 4, 5, 6, 7] := rfl
theorem ro_9_6 : C.ro 9 6 = true := rfl
theorem clr_9_7 : C.clr 9 7 = [3, 29, 30, 31, 43] := rfl
theorem clr_9_8 : C.clr 9 8 = [43, 44] := rfl
theorem clr_9_9 : C.clr 9 9 = [3, 29, 30, 31, 32] := rfl
theorem res_10 : Try.f10.results.toList = [.tmp 2] := rfl
theorem esc_10 : C.esc 10 = [3] := rfl
theorem clr_10_0 : C.clr 10 0 = [0] := rfl
theorem clr_10_1 : C.clr 10 1 = [] := rfl
theorem clr_10_2 : C.clr 10 2 = [1, 4] := rfl
theorem clr_10_3 : C.clr 10 3 = [2, 3, 5, 6, 7, 8, 9] := rfl
theorem clr_10_4 : C.clr 10 4 = [3, 5, 10] := rfl
theorem res_11 : Try.f11.results.toList = [.tmp 0] := rfl
theorem esc_11 : C.esc 11 = [] := rfl
theorem clr_11_0 : C.clr 11 0 = [0] := rfl
theorem clr_11_1 : C.clr 11 1 = [6, 7, 8] := rfl
theorem clr_11_2 : C.clr 11 2 = [9, 10] := rfl
theorem clr_11_3 : C.clr 11 3 = [11, 12] := rfl
theorem clr_11_4 : C.clr 11 4 = [1, 4, 13, 14, 15, 16, 17] := rfl
theorem clr_11_5 : C.clr 11 5 = [2, 3, 5, 18, 19, 20, 21, 22, 23, 24, 25, 26, 27, 28, 29, 30, 31, 32, 33, 34, 35, 36, 37, 38, 39, 40, 41, 42, 43, 44, 45, 46, 47] := rfl
theorem res_12 : Try.f12.results.toList = [.tmp 2] := rfl
theorem esc_12 : C.esc 12 = [] := rfl
theorem clr_12_0 : C.clr 12 0 = [0, 2] := rfl
theorem clr_12_1 : C.clr 12 1 = [1, 3, 4, 5, 6, 7, 8, 9, 10, 11, 12, 13, 14] := rfl
theorem res_13 : Try.f13.results.toList = [.cell 6 24] := rfl
theorem esc_13 : C.esc 13 = [] := rfl
theorem clr_13_0 : C.clr 13 0 = [0] := rfl
theorem clr_13_1 : C.clr 13 1 = [9, 10, 11, 12] := rfl
theorem clr_13_2 : C.clr 13 2 = [1, 2, 3, 13, 14, 15] := rfl
theorem clr_13_3 : C.clr 13 3 = [1, 2, 3, 8, 13, 16, 17, 18, 19, 20, 21, 22, 23, 24] := rfl
theorem clr_13_4 : C.clr 13 4 = [7, 25] := rfl
theorem res_14 : Try.f14.results.toList = [.cell 6 24, .tmp 7] := rfl
theorem esc_14 : C.esc 14 = [] := rfl
theorem clr_14_0 : C.clr 14 0 = [0, 7] := rfl
theorem clr_14_1 : C.clr 14 1 = [8, 9, 10, 11] := rfl
theorem clr_14_2 : C.clr 14 2 = [1, 2, 3, 12, 13] := rfl
theorem clr_14_3 : C.clr 14 3 = [1, 2, 3, 12, 14, 15, 16, 17, 18, 19, 20, 21] := rfl
theorem res_15 : Try.f15.results.toList = [.tmp 0] := rfl
theorem esc_15 : C.esc 15 = [] := rfl
theorem clr_15_0 : C.clr 15 0 = [0] := rfl
theorem clr_15_1 : C.clr 15 1 = [5, 6, 7] := rfl
theorem clr_15_2 : C.clr 15 2 = [8, 9, 10] := rfl
theorem clr_15_3 : C.clr 15 3 = [1, 2, 11, 12, 13, 14, 15, 16, 17] := rfl
theorem clr_15_4 : C.clr 15 4 = [3, 4, 18, 19, 20, 21, 22, 23, 24, 25, 26, 27, 28, 29, 30, 31, 32, 33, 34, 35, 36, 37, 38] := rfl
theorem res_16 : Try.f16.results.toList = [.tmp 6] := rfl
theorem esc_16 : C.esc 16 = [] := rfl
theorem clr_16_0 : C.clr 16 0 = [6] := rfl
theorem clr_16_1 : C.clr 16 1 = [9, 10] := rfl
theorem clr_16_2 : C.clr 16 2 = [0, 1, 2, 11] := rfl
theorem clr_16_3 : C.clr 16 3 = [11] := rfl
theorem clr_16_4 : C.clr 16 4 = [12, 13, 14] := rfl
theorem clr_16_6 : C.clr 16 6 = [15, 18, 19, 20, 21, 22, 23, 24] := rfl
theorem clr_16_7 : C.clr 16 7 = [8, 25] := rfl
theorem clr_16_8 : C.clr 16 8 = [0, 1, 2, 7, 26] := rfl
theorem clr_16_5 : C.clr 16 5 = [16, 17, 26] := rfl
theorem clr_16_9 : C.clr 16 9 = [0, 1, 2, 7, 15] := rfl
theorem res_17 : Try.f17.results.toList = [.tmp 2] := rfl
theorem esc_17 : C.esc 17 = [] := rfl
theorem clr_17_0 : C.clr 17 0 = [0, 2] := rfl
theorem clr_17_1 : C.clr 17 1 = [5, 6, 7, 8, 9, 10, 11, 12] := rfl
theorem clr_17_2 : C.clr 17 2 = [1, 13] := rfl
theorem clr_17_3 : C.clr 17 3 = [13] := rfl
theorem clr_17_4 : C.clr 17 4 = [14, 15, 16, 17] := rfl
theorem clr_17_6 : C.clr 17 6 = [18, 21, 22, 23, 24, 25, 26] := rfl
theorem clr_17_7 : C.clr 17 7 = [4, 27] := rfl
theorem clr_17_8 : C.clr 17 8 = [1, 3, 28] := rfl
theorem clr_17_5 : C.clr 17 5 = [19, 20, 28] := rfl
theorem clr_17_9 : C.clr 17 9 = [1, 3, 18] := rfl
theorem res_18 : Try.f18.results.toList = [.cell 6 24, .tmp 7] := rfl
theorem esc_18 : C.esc 18 = [] := rfl
theorem clr_18_0 : C.clr 18 0 = [0, 7] := rfl
theorem clr_18_1 : C.clr 18 1 = [10, 11, 12, 13, 14, 15, 16, 17, 18, 19, 20, 21, 22, 23, 24, 25, 26, 27] := rfl
theorem clr_18_2 : C.clr 18 2 = [1, 2, 3, 28, 29] := rfl
theorem clr_18_3 : C.clr 18 3 = [1, 2, 3, 28, 30, 31, 32, 33, 34, 35, 36] := rfl
theorem clr_18_4 : C.clr 18 4 = [38, 39] := rfl
theorem clr_18_5 : C.clr 18 5 = [8, 9, 37, 40, 41] := rfl
theorem clr_18_6 : C.clr 18 6 = [9, 37, 43, 44] := rfl
theorem clr_18_7 : C.clr 18 7 = [8, 42, 45] := rfl
theorem clr_18_8 : C.clr 18 8 = [8, 42, 46] := rfl
theorem res_19 : Try.f19.results.toList = [.tmp 6, .tmp 7] := rfl
theorem esc_19 : C.esc 19 = [4, 5] := rfl
theorem clr_19_0 : C.clr 19 0 = [1, 2, 6, 7] := rfl
theorem clr_19_1 : C.clr 19 1 = [8, 9, 10, 11] := rfl
theorem clr_19_2 : C.clr 19 2 = [0, 4, 5, 12] := rfl
theorem clr_19_3 : C.clr 19 3 = [0, 4, 5, 12, 13, 14, 15, 16, 17] := rfl
theorem res_20 : Try.f20.results.toList = [.tmp 2] := rfl
theorem esc_20 : C.esc 20 = [] := rfl
theorem clr_20_0 : C.clr 20 0 = [0, 2] := rfl
theorem clr_20_1 : C.clr 20 1 = [] := rfl
theorem clr_20_2 : C.clr 20 2 = [1, 6] := rfl
theorem clr_20_3 : C.clr 20 3 = [] := rfl
theorem clr_20_4 : C.clr 20 4 = [10, 11, 12] := rfl
theorem clr_20_5 : C.clr 20 5 = [5, 13, 14, 15, 16] := rfl
theorem clr_20_6 : C.clr 20 6 = [17] := rfl
theorem clr_20_7 : C.clr 20 7 = [3, 7, 8, 9, 10, 18, 19] := rfl
theorem res_21 : Try.f21.results.toList = [.tmp 6] := rfl
theorem esc_21 : C.esc 21 = [4, 5] := rfl
theorem clr_21_0 : C.clr 21 0 = [0, 1, 2, 6] := rfl
theorem clr_21_1 : C.clr 21 1 = [3, 4, 5, 7, 8, 9] := rfl
theorem res_22 : Try.f22.results.toList = [.tmp 2] := rfl
theorem esc_22 : C.esc 22 = [] := rfl
theorem clr_22_0 : C.clr 22 0 = [0, 2] := rfl
theorem clr_22_1 : C.clr 22 1 = [5, 6] := rfl
theorem clr_22_2 : C.clr 22 2 = [1, 7] := rfl
theorem clr_22_3 : C.clr 22 3 = [7] := rfl
theorem clr_22_4 : C.clr 22 4 = [8, 9, 10, 11] := rfl
theorem clr_22_6 : C.clr 22 6 = [12, 15, 16, 17, 18, 19, 20] := rfl
theorem clr_22_7 : C.clr 22 7 = [4, 21] := rfl
theorem clr_22_8 : C.clr 22 8 = [1, 3, 22] := rfl
theorem clr_22_5 : C.clr 22 5 = [13, 14, 22] := rfl
theorem clr_22_9 : C.clr 22 9 = [1, 3, 12] := rfl
theorem res_23 : Try.f23.results.toList = [.tmp 2] := rfl
theorem esc_23 : C.esc 23 = [] := rfl
theorem clr_23_0 : C.clr 23 0 = [0, 2] := rfl
theorem clr_23_1 : C.clr 23 1 = [] := rfl
theorem clr_23_2 : C.clr 23 2 = [] := rfl
theorem clr_23_3 : C.clr 23 3 = [5, 6, 7, 8] := rfl
theorem clr_23_5 : C.clr 23 5 = [9, 12, 13, 14, 15, 16, 17, 18, 19] := rfl
theorem clr_23_4 : C.clr 23 4 = [10, 11] := rfl
theorem clr_23_6 : C.clr 23 6 = [1, 3, 4, 9, 20] := rfl
theorem res_24 : Try.f24.results.toList = [.tmp 2] := rfl
theorem esc_24 : C.esc 24 = [] := rfl
theorem clr_24_0 : C.clr 24 0 = [0, 2] := rfl
theorem clr_24_1 : C.clr 24 1 = [] := rfl
theorem clr_24_2 : C.clr 24 2 = [] := rfl
theorem clr_24_3 : C.clr 24 3 = [6, 7, 8, 9] := rfl
theorem clr_24_5 : C.clr 24 5 = [10, 13, 14, 15, 16, 17, 18] := rfl
theorem clr_24_6 : C.clr 24 6 = [19, 20] := rfl
theorem clr_24_7 : C.clr 24 7 = [5, 21, 22] := rfl
theorem clr_24_4 : C.clr 24 4 = [5, 11, 12, 21] := rfl
theorem clr_24_8 : C.clr 24 8 = [1, 3, 4, 10, 23, 24] := rfl
theorem res_25 : Try.f25.results.toList = [.tmp 2] := rfl
theorem esc_25 : C.esc 25 = [1] := rfl
theorem clr_25_0 : C.clr 25 0 = [0, 2] := rfl
theorem clr_25_1 : C.clr 25 1 = [1, 3] := rfl
theorem res_26 : Try.f26.results.toList = [.cell 4 4] := rfl
theorem esc_26 : C.esc 26 = [3, 4] := rfl
theorem clr_26_0 : C.clr 26 0 = [0, 1] := rfl
theorem clr_26_1 : C.clr 26 1 = [2, 7] := rfl
theorem clr_26_2 : C.clr 26 2 = [8, 9] := rfl
theorem clr_26_3 : C.clr 26 3 = [10] := rfl
theorem clr_26_4 : C.clr 26 4 = [3, 5, 6, 11, 12, 13, 14] := rfl
theorem clr_26_5 : C.clr 26 5 = [15] := rfl
theorem clr_26_6 : C.clr 26 6 = [3, 8] := rfl
theorem res_27 : Try.f27.results.toList = [.tmp 4] := rfl
theorem esc_27 : C.esc 27 = [] := rfl
theorem clr_27_0 : C.clr 27 0 = [0, 1, 4] := rfl
theorem clr_27_1 : C.clr 27 1 = [3, 5, 6] := rfl
theorem res_28 : Try.f28.results.toList = [.tmp 2] := rfl
theorem esc_28 : C.esc 28 = [] := rfl
theorem clr_28_0 : C.clr 28 0 = [0, 2] := rfl
theorem clr_28_1 : C.clr 28 1 = [3] := rfl
theorem clr_28_2 : C.clr 28 2 = [6] := rfl
theorem clr_28_3 : C.clr 28 3 = [1, 4, 5, 7, 8, 9, 10, 11, 12, 13, 14, 15] := rfl
theorem clr_28_4 : C.clr 28 4 = [5, 17] := rfl
theorem clr_28_5 : C.clr 28 5 = [1, 4, 16, 18, 19, 20, 21, 22, 23, 24, 25, 26] := rfl
theorem clr_28_6 : C.clr 28 6 = [4, 16, 28] := rfl
theorem clr_28_7 : C.clr 28 7 = [1, 27, 29, 30, 31, 32, 33, 34, 35, 36, 37] := rfl
theorem clr_28_8 : C.clr 28 8 = [1, 27, 38, 39, 40, 41, 42, 43, 44, 45, 46, 47, 48, 49, 50] := rfl
theorem res_29 : Try.f29.results.toList = [.tmp 6] := rfl
theorem esc_29 : C.esc 29 = [] := rfl
theorem clr_29_0 : C.clr 29 0 = [0, 6] := rfl
theorem clr_29_1 : C.clr 29 1 = [1, 2, 3, 7, 8, 9, 10, 11, 12, 13, 14, 15, 16, 17, 18, 19, 20, 21, 22, 23, 24] := rfl
theorem res_30 : Try.f30.results.toList = [.cell 6 24, .tmp 7] := rfl
theorem esc_30 : C.esc 30 = [3, 4, 5] := rfl
theorem clr_30_0 : C.clr 30 0 = [0, 1, 2, 7] := rfl
theorem clr_30_1 : C.clr 30 1 = [11, 12] := rfl
theorem clr_30_2 : C.clr 30 2 = [13, 14] := rfl
theorem clr_30_3 : C.clr 30 3 = [15, 16, 17, 18, 19, 20, 21, 22, 23] := rfl
theorem clr_30_4 : C.clr 30 4 = [9, 15, 24] := rfl
theorem clr_30_5 : C.clr 30 5 = [3, 4, 5, 8, 25, 26] := rfl
theorem clr_30_6 : C.clr 30 6 = [4, 5, 25, 27, 28, 29, 30, 31, 32, 33] := rfl
theorem clr_30_7 : C.clr 30 7 = [9, 34] := rfl
theorem clr_30_8 : C.clr 30 8 = [3, 8, 10, 35, 36] := rfl
theorem clr_30_9 : C.clr 30 9 = [3, 8, 10, 35, 37, 38, 39, 40, 41] := rfl
theorem res_31 : Try.f31.results.toList = [.tmp 6, .tmp 7] := rfl
theorem esc_31 : C.esc 31 = [] := rfl
theorem clr_31_0 : C.clr 31 0 = [0, 6, 7] := rfl
theorem clr_31_1 : C.clr 31 1 = [2, 8, 9, 10, 11, 12] := rfl
theorem clr_31_2 : C.clr 31 2 = [1, 3, 13, 14, 15, 16, 17] := rfl
theorem clr_31_3 : C.clr 31 3 = [1, 3, 13, 18] := rfl
theorem res_32 : Try.f32.results.toList = [.tmp 6, .tmp 7] := rfl
theorem esc_32 : C.esc 32 = [] := rfl
theorem clr_32_0 : C.clr 32 0 = [0, 6, 7] := rfl
theorem clr_32_1 : C.clr 32 1 = [9, 10, 11, 12, 13, 14] := rfl
theorem clr_32_2 : C.clr 32 2 = [1, 2, 3, 8, 15] := rfl
theorem clr_32_3 : C.clr 32 3 = [2, 8, 17, 18, 19, 20, 21, 22, 23, 24, 25] := rfl
theorem clr_32_4 : C.clr 32 4 = [1, 3, 16] := rfl
theorem clr_32_5 : C.clr 32 5 = [1, 3, 16, 26, 27, 28, 29] := rfl
theorem res_33 : Try.f33.results.toList = [.tmp 2] := rfl
theorem esc_33 : C.esc 33 = [] := rfl
theorem clr_33_0 : C.clr 33 0 = [0, 2] := rfl
theorem clr_33_1 : C.clr 33 1 = [1, 3, 4, 5] := rfl
theorem res_34 : Try.f34.results.toList = [.tmp 4] := rfl
theorem esc_34 : C.esc 34 = [] := rfl
theorem clr_34_0 : C.clr 34 0 = [4] := rfl
theorem clr_34_1 : C.clr 34 1 = [0, 1, 5, 6, 7, 8] := rfl
theorem res_35 : Try.f35.results.toList = [.cell 6 24, .tmp 7] := rfl
theorem esc_35 : C.esc 35 = [3, 4, 5, 8] := rfl
theorem clr_35_0 : C.clr 35 0 = [0, 1, 2, 7] := rfl
theorem clr_35_1 : C.clr 35 1 = [11, 12, 13, 14, 15, 16, 17, 18] := rfl
theorem clr_35_2 : C.clr 35 2 = [8, 19, 20, 21, 22, 23, 24, 25] := rfl
theorem clr_35_3 : C.clr 35 3 = [27, 28] := rfl
theorem clr_35_4 : C.clr 35 4 = [3, 4, 5, 9, 10, 26, 29, 30] := rfl
theorem clr_35_5 : C.clr 35 5 = [10, 26, 32, 33, 34] := rfl
theorem clr_35_6 : C.clr 35 6 = [3, 4, 5, 9, 31, 35, 36, 37, 38, 39, 40] := rfl
theorem clr_35_7 : C.clr 35 7 = [31, 42, 43, 44, 45, 46] := rfl
theorem clr_35_8 : C.clr 35 8 = [3, 4, 5, 9, 41, 47] := rfl
theorem clr_35_9 : C.clr 35 9 = [41, 49, 50] := rfl
theorem clr_35_10 : C.clr 35 10 = [3, 4, 5, 9, 48, 51] := rfl
theorem clr_35_11 : C.clr 35 11 = [3, 4, 5, 9, 48, 52, 53, 54, 55, 56, 57, 58, 59, 60, 61, 62] := rfl
theorem ord_35_11 : C.ord 35 11 = [0, 1, 2, 3, 4, 5, 6, 7, 8, 9, 10, 11, 12] := rfl
theorem ro_35_11 : C.ro 35 11 = false := rfl
theorem res_36 : Try.f36.results.toList = [.tmp 4, .tmp 5] := rfl
theorem esc_36 : C.esc 36 = [] := rfl
theorem clr_36_0 : C.clr 36 0 = [4, 5] := rfl
theorem clr_36_1 : C.clr 36 1 = [] := rfl
theorem clr_36_2 : C.clr 36 2 = [0] := rfl
theorem clr_36_3 : C.clr 36 3 = [] := rfl
theorem clr_36_4 : C.clr 36 4 = [14, 15, 16, 17] := rfl
theorem clr_36_5 : C.clr 36 5 = [7, 8, 18, 19, 20, 21, 22, 23, 24] := rfl
theorem clr_36_6 : C.clr 36 6 = [25] := rfl
theorem clr_36_7 : C.clr 36 7 = [1, 6, 9, 10, 11, 12, 13, 26, 27] := rfl
theorem clr_36_8 : C.clr 36 8 = [9, 10, 26, 28, 29, 30, 31] := rfl
theorem clr_36_9 : C.clr 36 9 = [32] := rfl
theorem clr_36_10 : C.clr 36 10 = [1, 6, 11, 12, 13, 14, 33] := rfl
theorem res_37 : Try.f37.results.toList = [.cell 6 24, .tmp 7] := rfl
theorem esc_37 : C.esc 37 = [] := rfl
theorem clr_37_0 : C.clr 37 0 = [1, 7] := rfl
theorem clr_37_1 : C.clr 37 1 = [0, 2, 3, 5, 8, 9, 10, 11, 12, 13, 14, 15, 16] := rfl
theorem ord_37_1 : C.ord 37 1 = [0, 1, 2, 3, 4, 5, 6, 7, 8, 9, 10] := rfl
theorem ro_37_1 : C.ro 37 1 = false := rfl
theorem res_38 : Try.f38.results.toList = [.tmp 6] := rfl
theorem esc_38 : C.esc 38 = [] := rfl
theorem clr_38_0 : C.clr 38 0 = [1, 6] := rfl
theorem clr_38_1 : C.clr 38 1 = [0, 2, 3, 5, 7, 8, 9, 10, 11, 12, 13, 14, 15, 16, 17, 18, 19, 20, 21, 22, 23, 24, 25, 26, 27, 28] := rfl
theorem res_39 : Try.f39.results.toList = [] := rfl
theorem esc_39 : C.esc 39 = [] := rfl
theorem clr_39_0 : C.clr 39 0 = [0, 1, 3, 4, 5] := rfl
theorem res_40 : Try.f40.results.toList = [.tmp 6] := rfl
theorem esc_40 : C.esc 40 = [] := rfl
theorem clr_40_0 : C.clr 40 0 = [0, 6] := rfl
theorem clr_40_1 : C.clr 40 1 = [10, 11, 12, 13] := rfl
theorem clr_40_2 : C.clr 40 2 = [1, 2, 3, 14] := rfl
theorem clr_40_3 : C.clr 40 3 = [14, 15] := rfl
theorem clr_40_4 : C.clr 40 4 = [] := rfl
theorem clr_40_5 : C.clr 40 5 = [19, 20, 21, 22] := rfl
theorem clr_40_6 : C.clr 40 6 = [23] := rfl
theorem clr_40_7 : C.clr 40 7 = [7, 24, 25, 26, 27, 28, 29, 30, 31, 32] := rfl
theorem clr_40_8 : C.clr 40 8 = [33, 34, 35] := rfl
theorem clr_40_9 : C.clr 40 9 = [8, 9, 33, 36, 37, 38, 39] := rfl
theorem clr_40_10 : C.clr 40 10 = [1, 2, 3, 16, 17, 18, 40] := rfl
theorem clr_40_11 : C.clr 40 11 = [40, 41] := rfl
theorem clr_40_12 : C.clr 40 12 = [1, 2, 3, 16, 17, 18, 19] := rfl
theorem res_41 : Try.f41.results.toList = [.tmp 4, .tmp 5] := rfl
theorem esc_41 : C.esc 41 = [] := rfl
theorem clr_41_0 : C.clr 41 0 = [4, 5] := rfl
theorem clr_41_1 : C.clr 41 1 = [] := rfl
theorem clr_41_2 : C.clr 41 2 = [0] := rfl
theorem clr_41_3 : C.clr 41 3 = [] := rfl
theorem clr_41_4 : C.clr 41 4 = [14, 15, 16, 17] := rfl
theorem clr_41_5 : C.clr 41 5 = [7, 8, 18, 19, 20, 21, 22, 23, 24] := rfl
theorem clr_41_6 : C.clr 41 6 = [10, 25] := rfl
theorem clr_41_7 : C.clr 41 7 = [1, 6, 9, 11, 12, 13, 26] := rfl
theorem clr_41_8 : C.clr 41 8 = [9, 26, 27, 28, 29, 30] := rfl
theorem clr_41_9 : C.clr 41 9 = [31] := rfl
theorem clr_41_10 : C.clr 41 10 = [1, 6, 11, 12, 13, 14, 32] := rfl
theorem res_42 : Try.f42.results.toList = [.cell 7 24, .tmp 8] := rfl
theorem esc_42 : C.esc 42 = [] := rfl
theorem clr_42_0 : C.clr 42 0 = [1, 8] := rfl
theorem clr_42_1 : C.clr 42 1 = [2, 10] := rfl
theorem clr_42_2 : C.clr 42 2 = [0, 3, 11, 12, 13, 14, 15, 16, 17, 18, 19, 20, 21, 22, 23, 24, 25] := rfl
theorem clr_42_3 : C.clr 42 3 = [26, 27, 28] := rfl
theorem clr_42_4 : C.clr 42 4 = [4, 6, 9, 26, 29, 30, 31, 32, 33, 34] := rfl
theorem res_43 : Try.f43.results.toList = [.tmp 4] := rfl
theorem esc_43 : C.esc 43 = [] := rfl
theorem clr_43_0 : C.clr 43 0 = [4] := rfl
theorem clr_43_1 : C.clr 43 1 = [6] := rfl
theorem clr_43_2 : C.clr 43 2 = [] := rfl
theorem clr_43_3 : C.clr 43 3 = [9, 10] := rfl
theorem clr_43_4 : C.clr 43 4 = [11, 12, 13, 14, 15] := rfl
theorem clr_43_5 : C.clr 43 5 = [0, 1, 5, 7, 8, 16, 17] := rfl
theorem clr_43_6 : C.clr 43 6 = [5, 16, 18] := rfl
theorem clr_43_7 : C.clr 43 7 = [0, 1, 7, 8, 9] := rfl
theorem res_44 : Try.f44.results.toList = [.cell 8 24, .tmp 9] := rfl
theorem esc_44 : C.esc 44 = [] := rfl
theorem clr_44_0 : C.clr 44 0 = [1, 9] := rfl
theorem clr_44_1 : C.clr 44 1 = [0, 2, 3, 10, 11, 12, 13, 14, 15, 16, 17] := rfl
theorem clr_44_2 : C.clr 44 2 = [4, 5, 7, 18, 19, 20, 21, 22, 23, 24, 25] := rfl
theorem clr_44_3 : C.clr 44 3 = [4, 5, 7, 18, 26, 27, 28, 29, 30, 31] := rfl
theorem res_45 : Try.f45.results.toList = [.cell 4 24, .tmp 5] := rfl
theorem esc_45 : C.esc 45 = [2, 3] := rfl
theorem clr_45_0 : C.clr 45 0 = [0, 1, 5] := rfl
theorem clr_45_1 : C.clr 45 1 = [6, 7, 8, 9, 10, 11, 12] := rfl
theorem clr_45_2 : C.clr 45 2 = [2, 3, 13, 14] := rfl
theorem clr_45_3 : C.clr 45 3 = [2, 3, 13, 15, 16, 17, 18] := rfl
theorem res_46 : Try.f46.results.toList = [.tmp 2] := rfl
theorem esc_46 : C.esc 46 = [] := rfl
theorem clr_46_0 : C.clr 46 0 = [0, 2] := rfl
theorem clr_46_1 : C.clr 46 1 = [1, 3, 4, 5, 6, 7, 8, 9, 10] := rfl
theorem res_47 : Try.f47.results.toList = [.tmp 2] := rfl
theorem esc_47 : C.esc 47 = [] := rfl
theorem clr_47_0 : C.clr 47 0 = [0, 2] := rfl
theorem clr_47_1 : C.clr 47 1 = [] := rfl
theorem clr_47_2 : C.clr 47 2 = [1, 3, 4, 5, 6, 7, 8, 9, 10, 11, 12, 13, 14, 15, 16, 17, 18, 19, 20, 21, 22, 23, 24] := rfl
theorem res_48 : Try.f48.results.toList = [.cell 2 24, .cell 3 36] := rfl
theorem esc_48 : C.esc 48 = [2, 3, 7] := rfl
theorem clr_48_0 : C.clr 48 0 = [] := rfl
theorem clr_48_1 : C.clr 48 1 = [4] := rfl
theorem clr_48_2 : C.clr 48 2 = [0, 5, 6, 7, 8] := rfl
theorem clr_48_3 : C.clr 48 3 = [9, 10] := rfl
theorem clr_48_4 : C.clr 48 4 = [11, 12] := rfl
theorem clr_48_5 : C.clr 48 5 = [11, 13] := rfl
theorem res_49 : Try.f49.results.toList = [.cell 4 24] := rfl
theorem esc_49 : C.esc 49 = [] := rfl
theorem clr_49_0 : C.clr 49 0 = [] := rfl
theorem clr_49_1 : C.clr 49 1 = [0, 1, 2, 5, 6, 7, 8] := rfl
theorem res_50 : Try.f50.results.toList = [.cell 6 24] := rfl
theorem esc_50 : C.esc 50 = [] := rfl
theorem clr_50_0 : C.clr 50 0 = [1, 2] := rfl
theorem clr_50_1 : C.clr 50 1 = [11, 12, 13, 14, 15, 16, 17] := rfl
theorem clr_50_2 : C.clr 50 2 = [18, 19, 20, 21] := rfl
theorem clr_50_3 : C.clr 50 3 = [22, 23] := rfl
theorem clr_50_4 : C.clr 50 4 = [22, 24, 25, 26, 27, 28] := rfl
theorem clr_50_5 : C.clr 50 5 = [29] := rfl
theorem clr_50_6 : C.clr 50 6 = [] := rfl
theorem clr_50_7 : C.clr 50 7 = [33, 34, 35, 36] := rfl
theorem clr_50_8 : C.clr 50 8 = [37] := rfl
theorem clr_50_9 : C.clr 50 9 = [8, 38, 39, 40, 41, 42, 43, 44, 45, 46, 47, 48, 49, 50, 51, 52] := rfl
theorem clr_50_10 : C.clr 50 10 = [53, 54, 55] := rfl
theorem clr_50_11 : C.clr 50 11 = [9, 10, 53, 56, 57, 58, 59, 60, 61, 62, 63, 64] := rfl
theorem ord_50_11 : C.ord 50 11 = [0, 1, 2, 3, 4, 5, 6, 7, 8, 9] := rfl
theorem ro_50_11 : C.ro 50 11 = false := rfl
theorem clr_50_12 : C.clr 50 12 = [65] := rfl
theorem clr_50_13 : C.clr 50 13 = [30, 31, 32, 33, 66, 67] := rfl
theorem clr_50_14 : C.clr 50 14 = [0, 4, 5, 7, 68, 69] := rfl
theorem clr_50_15 : C.clr 50 15 = [0, 4, 5, 7, 68, 70, 71, 72, 73, 74, 75, 76, 77] := rfl
theorem ord_50_15 : C.ord 50 15 = [0, 1, 2, 3, 5, 6, 4, 7, 8] := rfl
theorem ro_50_15 : C.ro 50 15 = false := rfl
theorem res_51 : Try.f51.results.toList = [.tmp 2] := rfl
theorem esc_51 : C.esc 51 = [] := rfl
theorem clr_51_0 : C.clr 51 0 = [0, 2] := rfl
theorem clr_51_1 : C.clr 51 1 = [1, 3, 4, 5] := rfl
theorem res_52 : Try.f52.results.toList = [] := rfl
theorem esc_52 : C.esc 52 = [] := rfl
theorem clr_52_0 : C.clr 52 0 = [5] := rfl
theorem clr_52_1 : C.clr 52 1 = [6, 7, 8, 9, 10] := rfl
theorem clr_52_2 : C.clr 52 2 = [4] := rfl
theorem clr_52_3 : C.clr 52 3 = [0, 1, 2, 3, 11, 12, 13] := rfl
theorem clr_52_4 : C.clr 52 4 = [0, 1, 3, 11, 14] := rfl
theorem clr_52_5 : C.clr 52 5 = [2, 15, 16] := rfl
theorem res_53 : Try.f53.results.toList = [] := rfl
theorem esc_53 : C.esc 53 = [] := rfl
theorem clr_53_0 : C.clr 53 0 = [0, 2, 3] := rfl
theorem res_54 : Try.f54.results.toList = [.cell 2 63] := rfl
theorem esc_54 : C.esc 54 = [] := rfl
theorem clr_54_0 : C.clr 54 0 = [0] := rfl
theorem clr_54_1 : C.clr 54 1 = [6, 7, 8, 9] := rfl
theorem clr_54_2 : C.clr 54 2 = [1, 10] := rfl
theorem clr_54_3 : C.clr 54 3 = [] := rfl
theorem clr_54_4 : C.clr 54 4 = [14, 15, 16] := rfl
theorem clr_54_5 : C.clr 54 5 = [5, 17, 18, 19, 20, 21, 22, 23] := rfl
theorem ord_54_5 : C.ord 54 5 = [0, 1, 2, 3, 4, 5, 6, 7] := rfl
theorem ro_54_5 : C.ro 54 5 = false := rfl
theorem clr_54_6 : C.clr 54 6 = [24] := rfl
theorem clr_54_7 : C.clr 54 7 = [11, 12, 13, 14, 25, 26, 27, 28, 29, 30] := rfl
theorem clr_54_8 : C.clr 54 8 = [3, 31] := rfl
theorem res_55 : Try.f55.results.toList = [.cell 6 24] := rfl
theorem esc_55 : C.esc 55 = [] := rfl
theorem clr_55_0 : C.clr 55 0 = [1] := rfl
theorem clr_55_1 : C.clr 55 1 = [7, 8] := rfl
theorem clr_55_2 : C.clr 55 2 = [0, 2, 4, 9, 10] := rfl
theorem clr_55_3 : C.clr 55 3 = [9, 11] := rfl
theorem clr_55_4 : C.clr 55 4 = [14] := rfl
theorem clr_55_5 : C.clr 55 5 = [12, 13, 15, 16, 17, 18] := rfl
theorem clr_55_6 : C.clr 55 6 = [19, 20] := rfl
theorem clr_55_7 : C.clr 55 7 = [0, 2, 4, 19, 21, 22, 23, 24, 25, 26, 27, 28, 29, 30, 31, 32, 33] := rfl
theorem ord_55_7 : C.ord 55 7 = [0, 1, 2, 3, 4, 5, 6, 7, 8, 10, 11, 9, 12, 13] := rfl
theorem ro_55_7 : C.ro 55 7 = false := rfl
theorem clr_55_8 : C.clr 55 8 = [0, 13, 35] := rfl
theorem clr_55_9 : C.clr 55 9 = [36] := rfl
theorem clr_55_10 : C.clr 55 10 = [12, 37] := rfl
theorem clr_55_11 : C.clr 55 11 = [2, 4, 12, 34, 38, 39, 40, 41, 42, 43, 44, 45, 46, 47] := rfl
theorem ord_55_11 : C.ord 55 11 = [0, 1, 2, 3, 4, 5, 6, 7, 8, 9, 10] := rfl
theorem ro_55_11 : C.ro 55 11 = false := rfl
theorem clr_55_12 : C.clr 55 12 = [2, 12, 34, 48] := rfl
theorem clr_55_13 : C.clr 55 13 = [4, 49] := rfl
theorem res_56 : Try.f56.results.toList = [.cell 4 24] := rfl
theorem esc_56 : C.esc 56 = [] := rfl
theorem clr_56_0 : C.clr 56 0 = [0] := rfl
theorem clr_56_1 : C.clr 56 1 = [5, 6, 7, 8] := rfl
theorem clr_56_2 : C.clr 56 2 = [1, 2, 9, 10, 11, 12, 13, 14, 15, 16, 17, 18, 19, 20] := rfl
theorem clr_56_3 : C.clr 56 3 = [1, 2, 9, 21, 22, 23, 24, 25, 26, 27, 28, 29] := rfl
theorem res_57 : Try.f57.results.toList = [.tmp 2] := rfl
theorem esc_57 : C.esc 57 = [] := rfl
theorem clr_57_0 : C.clr 57 0 = [2] := rfl
theorem clr_57_1 : C.clr 57 1 = [] := rfl
theorem clr_57_2 : C.clr 57 2 = [] := rfl
theorem clr_57_3 : C.clr 57 3 = [] := rfl
theorem clr_57_4 : C.clr 57 4 = [12, 13, 14] := rfl
theorem clr_57_5 : C.clr 57 5 = [5, 15, 16, 17, 18] := rfl
theorem clr_57_6 : C.clr 57 6 = [19] := rfl
theorem clr_57_7 : C.clr 57 7 = [20, 21] := rfl
theorem clr_57_8 : C.clr 57 8 = [20, 22] := rfl
theorem clr_57_9 : C.clr 57 9 = [3, 9, 10, 11, 12, 23, 24] := rfl
theorem clr_57_10 : C.clr 57 10 = [0] := rfl
theorem clr_57_11 : C.clr 57 11 = [] := rfl
theorem clr_57_12 : C.clr 57 12 = [28, 29, 30] := rfl
theorem clr_57_13 : C.clr 57 13 = [8, 31, 32, 33] := rfl
theorem clr_57_14 : C.clr 57 14 = [34] := rfl
theorem clr_57_15 : C.clr 57 15 = [6, 25, 26, 27, 28, 35] := rfl
theorem res_58 : Try.f58.results.toList = [.tmp 4] := rfl
theorem esc_58 : C.esc 58 = [] := rfl
theorem clr_58_0 : C.clr 58 0 = [4] := rfl
theorem clr_58_1 : C.clr 58 1 = [5] := rfl
theorem clr_58_2 : C.clr 58 2 = [6, 7] := rfl
theorem clr_58_3 : C.clr 58 3 = [6, 8, 9, 10, 11, 12, 13, 14] := rfl
theorem clr_58_4 : C.clr 58 4 = [15] := rfl
theorem clr_58_5 : C.clr 58 5 = [1, 16, 17, 18, 19, 20, 21, 22, 23, 24, 25] := rfl
theorem clr_58_6 : C.clr 58 6 = [0, 1, 16, 26] := rfl
attribute [go_sem] tsz_1 tag_1 tcon_1 tstr_1 tbool_1 tslc_1 tarr_1 tby_1 tzr_1 tsz_2 tag_2 tcon_2 tstr_2 tbool_2 tslc_2 tarr_2 tby_2 tzr_2 tsz_3 tag_3 tcon_3 tstr_3 tbool_3 tslc_3 tarr_3 tby_3 tzr_3 tsz_4 tag_4 tcon_4 tstr_4 tbool_4 tslc_4 tarr_4 tby_4 tzr_4 tsz_5 tag_5 tcon_5 tstr_5
attribute [go_sem] tbool_5 tslc_5 tarr_5 tby_5 tzr_5 tsz_9 tag_9 tcon_9 tstr_9 tbool_9 tslc_9 tarr_9 tby_9 tzr_9 tsz_12 tag_12 tcon_12 tstr_12 tbool_12 tslc_12 tarr_12 tby_12 tzr_12 tsz_20 tag_20 tcon_20 tstr_20 tbool_20 tslc_20 tarr_20 tby_20 tzr_20 tsz_21 tag_21 tcon_21 tstr_21 tbool_21 tslc_21 tarr_21 tby_21
attribute [go_sem] tzr_21 tsz_22 tag_22 tcon_22 tstr_22 tbool_22 tslc_22 tarr_22 tby_22 tzr_22 tsz_23 tag_23 tcon_23 tstr_23 tbool_23 tslc_23 tarr_23 tby_23 tzr_23 tfld_23_0 place_23_0 tfld_23_1 place_23_1 tfld_23_2 place_23_2 tbld_23 tsz_24 tag_24 tcon_24 tstr_24 tbool_24 tslc_24 tarr_24 tby_24 tzr_24 tfld_24_0 place_24_0 tfld_24_1 place_24_1 tfld_24_2
attribute [go_sem] place_24_2 tbld_24 tsz_25 tag_25 tcon_25 tstr_25 tbool_25 tslc_25 tarr_25 tby_25 tzr_25 tsz_26 tag_26 tcon_26 tstr_26 tbool_26 tslc_26 tarr_26 tby_26 tzr_26 tsz_27 tag_27 tcon_27 tstr_27 tbool_27 tslc_27 tarr_27 tby_27 tzr_27 tsz_28 tag_28 tcon_28 tstr_28 tbool_28 tslc_28 tarr_28 tby_28 tzr_28 tsz_29 tag_29
attribute [go_sem] tcon_29 tstr_29 tbool_29 tslc_29 tarr_29 tby_29 tzr_29 tsz_30 tag_30 tcon_30 tstr_30 tbool_30 tslc_30 tarr_30 tby_30 tzr_30 tsz_31 tag_31 tcon_31 tstr_31 tbool_31 tslc_31 tarr_31 tby_31 tzr_31 tsz_33 tag_33 tcon_33 tstr_33 tbool_33 tslc_33 tarr_33 tby_33 tzr_33 tsz_34 tag_34 tcon_34 tstr_34 tbool_34 tslc_34
attribute [go_sem] tarr_34 tby_34 tzr_34 tsz_35 tag_35 tcon_35 tstr_35 tbool_35 tslc_35 tarr_35 tby_35 tzr_35 tsz_36 tag_36 tcon_36 tstr_36 tbool_36 tslc_36 tarr_36 tby_36 tzr_36 tsz_38 tag_38 tcon_38 tstr_38 tbool_38 tslc_38 tarr_38 tby_38 tzr_38 tsz_40 tag_40 tcon_40 tstr_40 tbool_40 tslc_40 tarr_40 tby_40 tzr_40 tsz_41
attribute [go_sem] tag_41 tcon_41 tstr_41 tbool_41 tslc_41 tarr_41 tby_41 tzr_41 tsz_42 tag_42 tcon_42 tstr_42 tbool_42 tslc_42 tarr_42 tby_42 tzr_42 tsz_43 tag_43 tcon_43 tstr_43 tbool_43 tslc_43 tarr_43 tby_43 tzr_43 tsz_44 tag_44 tcon_44 tstr_44 tbool_44 tslc_44 tarr_44 tby_44 tzr_44 tsz_45 tag_45 tcon_45 tstr_45 tbool_45
attribute [go_sem] tslc_45 tarr_45 tby_45 tzr_45 tsz_46 tag_46 tcon_46 tstr_46 tbool_46 tslc_46 tarr_46 tby_46 tzr_46 tsz_47 tag_47 tcon_47 tstr_47 tbool_47 tslc_47 tarr_47 tby_47 tzr_47 tsz_48 tag_48 tcon_48 tstr_48 tbool_48 tslc_48 tarr_48 tby_48 tzr_48 tsz_49 tag_49 tcon_49 tstr_49 tbool_49 tslc_49 tarr_49 tby_49 tzr_49
attribute [go_sem] tsz_50 tag_50 tcon_50 tstr_50 tbool_50 tslc_50 tarr_50 tby_50 tzr_50 tfld_50_0 place_50_0 tfld_50_1 place_50_1 tbld_50 tsz_51 tag_51 tcon_51 tstr_51 tbool_51 tslc_51 tarr_51 tby_51 tzr_51 tfld_51_0 place_51_0 tfld_51_1 place_51_1 tbld_51 tsz_52 tag_52 tcon_52 tstr_52 tbool_52 tslc_52 tarr_52 tby_52 tzr_52 tsz_53 tag_53 tcon_53
attribute [go_sem] tstr_53 tbool_53 tslc_53 tarr_53 tby_53 tzr_53 tsz_54 tag_54 tcon_54 tstr_54 tbool_54 tslc_54 tarr_54 tby_54 tzr_54 tsz_55 tag_55 tcon_55 tstr_55 tbool_55 tslc_55 tarr_55 tby_55 tzr_55 tsz_58 tag_58 tcon_58 tstr_58 tbool_58 tslc_58 tarr_58 tby_58 tzr_58 tsz_59 tag_59 tcon_59 tstr_59 tbool_59 tslc_59 tarr_59
attribute [go_sem] tby_59 tzr_59 tsz_60 tag_60 tcon_60 tstr_60 tbool_60 tslc_60 tarr_60 tby_60 tzr_60 tsz_61 tag_61 tcon_61 tstr_61 tbool_61 tslc_61 tarr_61 tby_61 tzr_61 tsz_62 tag_62 tcon_62 tstr_62 tbool_62 tslc_62 tarr_62 tby_62 tzr_62 tfld_62_0 place_62_0 tfld_62_1 place_62_1 tbld_62 tsz_63 tag_63 tcon_63 tstr_63 tbool_63 tslc_63
attribute [go_sem] tarr_63 tby_63 tzr_63 tfld_63_0 place_63_0 tfld_63_1 place_63_1 tbld_63 tsz_64 tag_64 tcon_64 tstr_64 tbool_64 tslc_64 tarr_64 tby_64 tzr_64 tsz_65 tag_65 tcon_65 tstr_65 tbool_65 tslc_65 tarr_65 tby_65 tzr_65 tsz_66 tag_66 tcon_66 tstr_66 tbool_66 tslc_66 tarr_66 tby_66 tzr_66 tsz_67 tag_67 tcon_67 tstr_67 tbool_67
attribute [go_sem] tslc_67 tarr_67 tby_67 tzr_67 tsz_68 tag_68 tcon_68 tstr_68 tbool_68 tslc_68 tarr_68 tby_68 tzr_68 tsz_70 tag_70 tcon_70 tstr_70 tbool_70 tslc_70 tarr_70 tby_70 tzr_70 tfld_70_0 place_70_0 tbld_70 tsz_71 tag_71 tcon_71 tstr_71 tbool_71 tslc_71 tarr_71 tby_71 tzr_71 tfld_71_0 place_71_0 tbld_71 tsz_72 tag_72 tcon_72
attribute [go_sem] tstr_72 tbool_72 tslc_72 tarr_72 tby_72 tzr_72 tsz_73 tag_73 tcon_73 tstr_73 tbool_73 tslc_73 tarr_73 tby_73 tzr_73 tsz_74 tag_74 tcon_74 tstr_74 tbool_74 tslc_74 tarr_74 tby_74 tzr_74 tsz_75 tag_75 tcon_75 tstr_75 tbool_75 tslc_75 tarr_75 tby_75 tzr_75 tsz_76 tag_76 tcon_76 tstr_76 tbool_76 tslc_76 tarr_76
attribute [go_sem] tby_76 tzr_76 tsz_77 tag_77 tcon_77 tstr_77 tbool_77 tslc_77 tarr_77 tby_77 tzr_77 tsz_78 tag_78 tcon_78 tstr_78 tbool_78 tslc_78 tarr_78 tby_78 tzr_78 tsz_79 tag_79 tcon_79 tstr_79 tbool_79 tslc_79 tarr_79 tby_79 tzr_79 tsz_85 tag_85 tcon_85 tstr_85 tbool_85 tslc_85 tarr_85 tby_85 tzr_85 tsz_86 tag_86
attribute [go_sem] tcon_86 tstr_86 tbool_86 tslc_86 tarr_86 tby_86 tzr_86 tsz_89 tag_89 tcon_89 tstr_89 tbool_89 tslc_89 tarr_89 tby_89 tzr_89 tsz_90 tag_90 tcon_90 tstr_90 tbool_90 tslc_90 tarr_90 tby_90 tzr_90 C_P C_thr esc_3 Try.ntmps3 res_3 clr_3_0 clr_3_1 clr_3_2 clr_3_3 clr_3_4 clr_3_5 clr_3_6 clr_3_7 clr_3_8 clr_3_9
attribute [go_sem] ord_3_9 ro_3_9 clr_3_10 ord_3_10 ro_3_10 esc_4 Try.ntmps4 res_4 clr_4_0 clr_4_1 clr_4_2 clr_4_3 clr_4_4 clr_4_5 clr_4_6 clr_4_7 clr_4_8 clr_4_9 clr_4_10 clr_4_11 clr_4_12 esc_5 Try.ntmps5 res_5 clr_5_0 clr_5_1 clr_5_2 clr_5_3 clr_5_4 clr_5_5 clr_5_6 clr_5_7 clr_5_8 clr_5_9 clr_5_11 clr_5_12 clr_5_13 clr_5_10 clr_5_14 clr_5_15
attribute [go_sem] clr_5_17 clr_5_18 clr_5_16 clr_5_19 clr_5_20 clr_5_21 clr_5_22 clr_5_23 esc_6 Try.ntmps6 res_6 clr_6_0 clr_6_1 clr_6_2 esc_7 Try.ntmps7 res_7 clr_7_0 clr_7_1 clr_7_2 esc_8 Try.ntmps8 res_8 clr_8_0 clr_8_1 clr_8_2 clr_8_3 clr_8_4 clr_8_5 clr_8_6 clr_8_7 esc_9 Try.ntmps9 res_9 clr_9_0 clr_9_1 clr_9_2 clr_9_3 clr_9_4 clr_9_5
attribute [go_sem] clr_9_6 ord_9_6 ro_9_6 clr_9_7 clr_9_8 clr_9_9 esc_10 Try.ntmps10 res_10 clr_10_0 clr_10_1 clr_10_2 clr_10_3 clr_10_4 esc_11 Try.ntmps11 res_11 clr_11_0 clr_11_1 clr_11_2 clr_11_3 clr_11_4 clr_11_5 esc_12 Try.ntmps12 res_12 clr_12_0 clr_12_1 esc_13 Try.ntmps13 res_13 clr_13_0 clr_13_1 clr_13_2 clr_13_3 clr_13_4 esc_14 Try.ntmps14 res_14 clr_14_0
attribute [go_sem] clr_14_1 clr_14_2 clr_14_3 esc_15 Try.ntmps15 res_15 clr_15_0 clr_15_1 clr_15_2 clr_15_3 clr_15_4 esc_16 Try.ntmps16 res_16 clr_16_0 clr_16_1 clr_16_2 clr_16_3 clr_16_4 clr_16_6 clr_16_7 clr_16_8 clr_16_5 clr_16_9 esc_17 Try.ntmps17 res_17 clr_17_0 clr_17_1 clr_17_2 clr_17_3 clr_17_4 clr_17_6 clr_17_7 clr_17_8 clr_17_5 clr_17_9 esc_18 Try.ntmps18 res_18
attribute [go_sem] clr_18_0 clr_18_1 clr_18_2 clr_18_3 clr_18_4 clr_18_5 clr_18_6 clr_18_7 clr_18_8 esc_19 Try.ntmps19 res_19 clr_19_0 clr_19_1 clr_19_2 clr_19_3 esc_20 Try.ntmps20 res_20 clr_20_0 clr_20_1 clr_20_2 clr_20_3 clr_20_4 clr_20_5 clr_20_6 clr_20_7 esc_21 Try.ntmps21 res_21 clr_21_0 clr_21_1 esc_22 Try.ntmps22 res_22 clr_22_0 clr_22_1 clr_22_2 clr_22_3 clr_22_4
attribute [go_sem] clr_22_6 clr_22_7 clr_22_8 clr_22_5 clr_22_9 esc_23 Try.ntmps23 res_23 clr_23_0 clr_23_1 clr_23_2 clr_23_3 clr_23_5 clr_23_4 clr_23_6 esc_24 Try.ntmps24 res_24 clr_24_0 clr_24_1 clr_24_2 clr_24_3 clr_24_5 clr_24_6 clr_24_7 clr_24_4 clr_24_8 esc_25 Try.ntmps25 res_25 clr_25_0 clr_25_1 esc_26 Try.ntmps26 res_26 clr_26_0 clr_26_1 clr_26_2 clr_26_3 clr_26_4
attribute [go_sem] clr_26_5 clr_26_6 esc_27 Try.ntmps27 res_27 clr_27_0 clr_27_1 esc_28 Try.ntmps28 res_28 clr_28_0 clr_28_1 clr_28_2 clr_28_3 clr_28_4 clr_28_5 clr_28_6 clr_28_7 clr_28_8 esc_29 Try.ntmps29 res_29 clr_29_0 clr_29_1 esc_30 Try.ntmps30 res_30 clr_30_0 clr_30_1 clr_30_2 clr_30_3 clr_30_4 clr_30_5 clr_30_6 clr_30_7 clr_30_8 clr_30_9 esc_31 Try.ntmps31 res_31
attribute [go_sem] clr_31_0 clr_31_1 clr_31_2 clr_31_3 esc_32 Try.ntmps32 res_32 clr_32_0 clr_32_1 clr_32_2 clr_32_3 clr_32_4 clr_32_5 esc_33 Try.ntmps33 res_33 clr_33_0 clr_33_1 esc_34 Try.ntmps34 res_34 clr_34_0 clr_34_1 esc_35 Try.ntmps35 res_35 clr_35_0 clr_35_1 clr_35_2 clr_35_3 clr_35_4 clr_35_5 clr_35_6 clr_35_7 clr_35_8 clr_35_9 clr_35_10 clr_35_11 ord_35_11 ro_35_11
attribute [go_sem] esc_36 Try.ntmps36 res_36 clr_36_0 clr_36_1 clr_36_2 clr_36_3 clr_36_4 clr_36_5 clr_36_6 clr_36_7 clr_36_8 clr_36_9 clr_36_10 esc_37 Try.ntmps37 res_37 clr_37_0 clr_37_1 ord_37_1 ro_37_1 esc_38 Try.ntmps38 res_38 clr_38_0 clr_38_1 esc_39 Try.ntmps39 res_39 clr_39_0 esc_40 Try.ntmps40 res_40 clr_40_0 clr_40_1 clr_40_2 clr_40_3 clr_40_4 clr_40_5 clr_40_6
attribute [go_sem] clr_40_7 clr_40_8 clr_40_9 clr_40_10 clr_40_11 clr_40_12 esc_41 Try.ntmps41 res_41 clr_41_0 clr_41_1 clr_41_2 clr_41_3 clr_41_4 clr_41_5 clr_41_6 clr_41_7 clr_41_8 clr_41_9 clr_41_10 esc_42 Try.ntmps42 res_42 clr_42_0 clr_42_1 clr_42_2 clr_42_3 clr_42_4 esc_43 Try.ntmps43 res_43 clr_43_0 clr_43_1 clr_43_2 clr_43_3 clr_43_4 clr_43_5 clr_43_6 clr_43_7 esc_44
attribute [go_sem] Try.ntmps44 res_44 clr_44_0 clr_44_1 clr_44_2 clr_44_3 esc_45 Try.ntmps45 res_45 clr_45_0 clr_45_1 clr_45_2 clr_45_3 esc_46 Try.ntmps46 res_46 clr_46_0 clr_46_1 esc_47 Try.ntmps47 res_47 clr_47_0 clr_47_1 clr_47_2 esc_48 Try.ntmps48 res_48 clr_48_0 clr_48_1 clr_48_2 clr_48_3 clr_48_4 clr_48_5 esc_49 Try.ntmps49 res_49 clr_49_0 clr_49_1 esc_50 Try.ntmps50
attribute [go_sem] res_50 clr_50_0 clr_50_1 clr_50_2 clr_50_3 clr_50_4 clr_50_5 clr_50_6 clr_50_7 clr_50_8 clr_50_9 clr_50_10 clr_50_11 ord_50_11 ro_50_11 clr_50_12 clr_50_13 clr_50_14 clr_50_15 ord_50_15 ro_50_15 esc_51 Try.ntmps51 res_51 clr_51_0 clr_51_1 esc_52 Try.ntmps52 res_52 clr_52_0 clr_52_1 clr_52_2 clr_52_3 clr_52_4 clr_52_5 esc_53 Try.ntmps53 res_53 clr_53_0 esc_54
attribute [go_sem] Try.ntmps54 res_54 clr_54_0 clr_54_1 clr_54_2 clr_54_3 clr_54_4 clr_54_5 ord_54_5 ro_54_5 clr_54_6 clr_54_7 clr_54_8 esc_55 Try.ntmps55 res_55 clr_55_0 clr_55_1 clr_55_2 clr_55_3 clr_55_4 clr_55_5 clr_55_6 clr_55_7 ord_55_7 ro_55_7 clr_55_8 clr_55_9 clr_55_10 clr_55_11 ord_55_11 ro_55_11 clr_55_12 clr_55_13 esc_56 Try.ntmps56 res_56 clr_56_0 clr_56_1 clr_56_2
attribute [go_sem] clr_56_3 esc_57 Try.ntmps57 res_57 clr_57_0 clr_57_1 clr_57_2 clr_57_3 clr_57_4 clr_57_5 clr_57_6 clr_57_7 clr_57_8 clr_57_9 clr_57_10 clr_57_11 clr_57_12 clr_57_13 clr_57_14 clr_57_15 esc_58 Try.ntmps58 res_58 clr_58_0 clr_58_1 clr_58_2 clr_58_3 clr_58_4 clr_58_5 clr_58_6
end Go.Proofs.Ytobocgjdlchemaa

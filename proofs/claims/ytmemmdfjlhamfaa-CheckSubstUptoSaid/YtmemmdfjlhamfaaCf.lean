/- The tables of this program: types; which variables are shared, what is needed no more, in which order. Printed by gen.py. -/
import Derived.Test.YtmemmdfjlhamfaaKG
import Derived.Test.YtmemmdfjlhamfaaProg
import Derived.KernelRfl
set_option maxRecDepth 100000
namespace Go.Proofs.Ytmemmdfjlhamfaa
open Go.Proofs
theorem tsz_1 : tsz Try.prog 1 = some 1 := by kernel_rfl
theorem tag_1 : tag Try.prog 1 = some false := by kernel_rfl
theorem tcon_1 : tcon Try.prog 1 = true := by kernel_rfl
theorem tstr_1 : tstr Try.prog 1 = false := by kernel_rfl
theorem tbool_1 : tbool Try.prog 1 = false := by kernel_rfl
theorem tslc_1 : tslc Try.prog 1 = none := by kernel_rfl
theorem tarr_1 : tarr Try.prog 1 = none := by kernel_rfl
theorem tby_1 : tby Try.prog 1 = some 8 := by kernel_rfl
theorem tzr_1 : tzr Try.prog 1 = some [.raw .nilFunc] := by kernel_rfl
theorem tsz_2 : tsz Try.prog 2 = some 1 := by kernel_rfl
theorem tag_2 : tag Try.prog 2 = some false := by kernel_rfl
theorem tcon_2 : tcon Try.prog 2 = true := by kernel_rfl
theorem tstr_2 : tstr Try.prog 2 = false := by kernel_rfl
theorem tbool_2 : tbool Try.prog 2 = false := by kernel_rfl
theorem tslc_2 : tslc Try.prog 2 = none := by kernel_rfl
theorem tarr_2 : tarr Try.prog 2 = none := by kernel_rfl
theorem tby_2 : tby Try.prog 2 = some 8 := by kernel_rfl
theorem tzr_2 : tzr Try.prog 2 = some [.d (.int .i64 0)] := by kernel_rfl
theorem tsz_3 : tsz Try.prog 3 = some 1 := by kernel_rfl
theorem tag_3 : tag Try.prog 3 = some false := by kernel_rfl
theorem tcon_3 : tcon Try.prog 3 = true := by kernel_rfl
theorem tstr_3 : tstr Try.prog 3 = false := by kernel_rfl
theorem tbool_3 : tbool Try.prog 3 = false := by kernel_rfl
theorem tslc_3 : tslc Try.prog 3 = none := by kernel_rfl
theorem tarr_3 : tarr Try.prog 3 = none := by kernel_rfl
theorem tby_3 : tby Try.prog 3 = some 8 := by kernel_rfl
theorem tzr_3 : tzr Try.prog 3 = some [.d (.int .i64 0)] := by kernel_rfl
theorem tsz_4 : tsz Try.prog 4 = some 1 := by kernel_rfl
theorem tag_4 : tag Try.prog 4 = some false := by kernel_rfl
theorem tcon_4 : tcon Try.prog 4 = true := by kernel_rfl
theorem tstr_4 : tstr Try.prog 4 = false := by kernel_rfl
theorem tbool_4 : tbool Try.prog 4 = true := by kernel_rfl
theorem tslc_4 : tslc Try.prog 4 = none := by kernel_rfl
theorem tarr_4 : tarr Try.prog 4 = none := by kernel_rfl
theorem tby_4 : tby Try.prog 4 = some 1 := by kernel_rfl
theorem tzr_4 : tzr Try.prog 4 = some [.d (.bool false)] := by kernel_rfl
theorem tsz_5 : tsz Try.prog 5 = some 1 := by kernel_rfl
theorem tag_5 : tag Try.prog 5 = some false := by kernel_rfl
theorem tcon_5 : tcon Try.prog 5 = true := by kernel_rfl
theorem tstr_5 : tstr Try.prog 5 = false := by kernel_rfl
theorem tbool_5 : tbool Try.prog 5 = false := by kernel_rfl
theorem tslc_5 : tslc Try.prog 5 = none := by kernel_rfl
theorem tarr_5 : tarr Try.prog 5 = none := by kernel_rfl
theorem tby_5 : tby Try.prog 5 = some 1 := by kernel_rfl
theorem tzr_5 : tzr Try.prog 5 = some [.d (.int .u8 0)] := by kernel_rfl
theorem tsz_9 : tsz Try.prog 9 = some 1 := by kernel_rfl
theorem tag_9 : tag Try.prog 9 = some false := by kernel_rfl
theorem tcon_9 : tcon Try.prog 9 = true := by kernel_rfl
theorem tstr_9 : tstr Try.prog 9 = true := by kernel_rfl
theorem tbool_9 : tbool Try.prog 9 = false := by kernel_rfl
theorem tslc_9 : tslc Try.prog 9 = none := by kernel_rfl
theorem tarr_9 : tarr Try.prog 9 = none := by kernel_rfl
theorem tby_9 : tby Try.prog 9 = some 16 := by kernel_rfl
theorem tzr_9 : tzr Try.prog 9 = some [.d (.str ⟨#[]⟩)] := by kernel_rfl
theorem tsz_12 : tsz Try.prog 12 = some 1 := by kernel_rfl
theorem tag_12 : tag Try.prog 12 = some false := by kernel_rfl
theorem tcon_12 : tcon Try.prog 12 = true := by kernel_rfl
theorem tstr_12 : tstr Try.prog 12 = false := by kernel_rfl
theorem tbool_12 : tbool Try.prog 12 = false := by kernel_rfl
theorem tslc_12 : tslc Try.prog 12 = none := by kernel_rfl
theorem tarr_12 : tarr Try.prog 12 = none := by kernel_rfl
theorem tby_12 : tby Try.prog 12 = some 8 := by kernel_rfl
theorem tzr_12 : tzr Try.prog 12 = some [.d (.int .u64 0)] := by kernel_rfl
theorem tsz_20 : tsz Try.prog 20 = some 1 := by kernel_rfl
theorem tag_20 : tag Try.prog 20 = some false := by kernel_rfl
theorem tcon_20 : tcon Try.prog 20 = false := by kernel_rfl
theorem tstr_20 : tstr Try.prog 20 = false := by kernel_rfl
theorem tbool_20 : tbool Try.prog 20 = false := by kernel_rfl
theorem tslc_20 : tslc Try.prog 20 = none := by kernel_rfl
theorem tarr_20 : tarr Try.prog 20 = none := by kernel_rfl
theorem tby_20 : tby Try.prog 20 = some 16 := by kernel_rfl
theorem tzr_20 : tzr Try.prog 20 = some [.raw .nilIface] := by kernel_rfl
theorem tsz_21 : tsz Try.prog 21 = some 1 := by kernel_rfl
theorem tag_21 : tag Try.prog 21 = some false := by kernel_rfl
theorem tcon_21 : tcon Try.prog 21 = true := by kernel_rfl
theorem tstr_21 : tstr Try.prog 21 = false := by kernel_rfl
theorem tbool_21 : tbool Try.prog 21 = false := by kernel_rfl
theorem tslc_21 : tslc Try.prog 21 = none := by kernel_rfl
theorem tarr_21 : tarr Try.prog 21 = none := by kernel_rfl
theorem tby_21 : tby Try.prog 21 = some 4 := by kernel_rfl
theorem tzr_21 : tzr Try.prog 21 = some [.d (.int .i32 0)] := by kernel_rfl
theorem tsz_22 : tsz Try.prog 22 = some 1 := by kernel_rfl
theorem tag_22 : tag Try.prog 22 = some false := by kernel_rfl
theorem tcon_22 : tcon Try.prog 22 = true := by kernel_rfl
theorem tstr_22 : tstr Try.prog 22 = false := by kernel_rfl
theorem tbool_22 : tbool Try.prog 22 = false := by kernel_rfl
theorem tslc_22 : tslc Try.prog 22 = some 24 := by kernel_rfl
theorem tarr_22 : tarr Try.prog 22 = none := by kernel_rfl
theorem tby_22 : tby Try.prog 22 = some 24 := by kernel_rfl
theorem tzr_22 : tzr Try.prog 22 = some [.clip []] := by kernel_rfl
theorem tsz_23 : tsz Try.prog 23 = some 3 := by kernel_rfl
theorem tag_23 : tag Try.prog 23 = some true := by kernel_rfl
theorem tcon_23 : tcon Try.prog 23 = true := by kernel_rfl
theorem tstr_23 : tstr Try.prog 23 = false := by kernel_rfl
theorem tbool_23 : tbool Try.prog 23 = false := by kernel_rfl
theorem tslc_23 : tslc Try.prog 23 = none := by kernel_rfl
theorem tarr_23 : tarr Try.prog 23 = none := by kernel_rfl
theorem tby_23 : tby Try.prog 23 = some 40 := by kernel_rfl
theorem tzr_23 : tzr Try.prog 23 = some [.d (.int .i64 0), .d (.int .i64 0), .clip []] := by kernel_rfl
theorem tfld_23_0 : tfld Try.prog 23 0 = some (0, 1, 3) := by kernel_rfl
theorem place_23_0 : place Try.prog 23 0 = some (0, 1) := by kernel_rfl
theorem tfld_23_1 : tfld Try.prog 23 1 = some (1, 1, 3) := by kernel_rfl
theorem place_23_1 : place Try.prog 23 1 = some (1, 1) := by kernel_rfl
theorem tfld_23_2 : tfld Try.prog 23 2 = some (2, 1, 22) := by kernel_rfl
theorem place_23_2 : place Try.prog 23 2 = some (2, 1) := by kernel_rfl
theorem tbld_23 : tbld Try.prog 23 = true := by kernel_rfl
theorem tsz_24 : tsz Try.prog 24 = some 3 := by kernel_rfl
theorem tag_24 : tag Try.prog 24 = some true := by kernel_rfl
theorem tcon_24 : tcon Try.prog 24 = true := by kernel_rfl
theorem tstr_24 : tstr Try.prog 24 = false := by kernel_rfl
theorem tbool_24 : tbool Try.prog 24 = false := by kernel_rfl
theorem tslc_24 : tslc Try.prog 24 = none := by kernel_rfl
theorem tarr_24 : tarr Try.prog 24 = none := by kernel_rfl
theorem tby_24 : tby Try.prog 24 = some 40 := by kernel_rfl
theorem tzr_24 : tzr Try.prog 24 = some [.d (.int .i64 0), .d (.int .i64 0), .clip []] := by kernel_rfl
theorem tfld_24_0 : tfld Try.prog 24 0 = some (0, 1, 3) := by kernel_rfl
theorem place_24_0 : place Try.prog 24 0 = some (0, 1) := by kernel_rfl
theorem tfld_24_1 : tfld Try.prog 24 1 = some (1, 1, 3) := by kernel_rfl
theorem place_24_1 : place Try.prog 24 1 = some (1, 1) := by kernel_rfl
theorem tfld_24_2 : tfld Try.prog 24 2 = some (2, 1, 22) := by kernel_rfl
theorem place_24_2 : place Try.prog 24 2 = some (2, 1) := by kernel_rfl
theorem tbld_24 : tbld Try.prog 24 = true := by kernel_rfl
theorem tsz_25 : tsz Try.prog 25 = some 1 := by kernel_rfl
theorem tag_25 : tag Try.prog 25 = some false := by kernel_rfl
theorem tcon_25 : tcon Try.prog 25 = true := by kernel_rfl
theorem tstr_25 : tstr Try.prog 25 = false := by kernel_rfl
theorem tbool_25 : tbool Try.prog 25 = false := by kernel_rfl
theorem tslc_25 : tslc Try.prog 25 = none := by kernel_rfl
theorem tarr_25 : tarr Try.prog 25 = none := by kernel_rfl
theorem tby_25 : tby Try.prog 25 = some 8 := by kernel_rfl
theorem tzr_25 : tzr Try.prog 25 = some [.raw .nilFunc] := by kernel_rfl
theorem tsz_26 : tsz Try.prog 26 = some 1 := by kernel_rfl
theorem tag_26 : tag Try.prog 26 = some false := by kernel_rfl
theorem tcon_26 : tcon Try.prog 26 = true := by kernel_rfl
theorem tstr_26 : tstr Try.prog 26 = false := by kernel_rfl
theorem tbool_26 : tbool Try.prog 26 = false := by kernel_rfl
theorem tslc_26 : tslc Try.prog 26 = none := by kernel_rfl
theorem tarr_26 : tarr Try.prog 26 = none := by kernel_rfl
theorem tby_26 : tby Try.prog 26 = some 8 := by kernel_rfl
theorem tzr_26 : tzr Try.prog 26 = some [.raw .nilFunc] := by kernel_rfl
theorem tsz_27 : tsz Try.prog 27 = some 1 := by kernel_rfl
theorem tag_27 : tag Try.prog 27 = some false := by kernel_rfl
theorem tcon_27 : tcon Try.prog 27 = true := by kernel_rfl
theorem tstr_27 : tstr Try.prog 27 = false := by kernel_rfl
theorem tbool_27 : tbool Try.prog 27 = false := by kernel_rfl
theorem tslc_27 : tslc Try.prog 27 = none := by kernel_rfl
theorem tarr_27 : tarr Try.prog 27 = none := by kernel_rfl
theorem tby_27 : tby Try.prog 27 = some 8 := by kernel_rfl
theorem tzr_27 : tzr Try.prog 27 = some [.raw .nilFunc] := by kernel_rfl
theorem tsz_28 : tsz Try.prog 28 = some 1 := by kernel_rfl
theorem tag_28 : tag Try.prog 28 = some false := by kernel_rfl
theorem tcon_28 : tcon Try.prog 28 = true := by kernel_rfl
theorem tstr_28 : tstr Try.prog 28 = false := by kernel_rfl
theorem tbool_28 : tbool Try.prog 28 = false := by kernel_rfl
theorem tslc_28 : tslc Try.prog 28 = none := by kernel_rfl
theorem tarr_28 : tarr Try.prog 28 = none := by kernel_rfl
theorem tby_28 : tby Try.prog 28 = some 8 := by kernel_rfl
theorem tzr_28 : tzr Try.prog 28 = some [.raw .nilFunc] := by kernel_rfl
theorem tsz_29 : tsz Try.prog 29 = some 1 := by kernel_rfl
theorem tag_29 : tag Try.prog 29 = some false := by kernel_rfl
theorem tcon_29 : tcon Try.prog 29 = true := by kernel_rfl
theorem tstr_29 : tstr Try.prog 29 = false := by kernel_rfl
theorem tbool_29 : tbool Try.prog 29 = false := by kernel_rfl
theorem tslc_29 : tslc Try.prog 29 = none := by kernel_rfl
theorem tarr_29 : tarr Try.prog 29 = none := by kernel_rfl
theorem tby_29 : tby Try.prog 29 = some 8 := by kernel_rfl
theorem tzr_29 : tzr Try.prog 29 = some [.d (.int .i64 0)] := by kernel_rfl
theorem tsz_31 : tsz Try.prog 31 = some 1 := by kernel_rfl
theorem tag_31 : tag Try.prog 31 = some false := by kernel_rfl
theorem tcon_31 : tcon Try.prog 31 = true := by kernel_rfl
theorem tstr_31 : tstr Try.prog 31 = false := by kernel_rfl
theorem tbool_31 : tbool Try.prog 31 = false := by kernel_rfl
theorem tslc_31 : tslc Try.prog 31 = none := by kernel_rfl
theorem tarr_31 : tarr Try.prog 31 = none := by kernel_rfl
theorem tby_31 : tby Try.prog 31 = some 8 := by kernel_rfl
theorem tzr_31 : tzr Try.prog 31 = some [.raw .nilFunc] := by kernel_rfl
theorem tsz_32 : tsz Try.prog 32 = some 1 := by kernel_rfl
theorem tag_32 : tag Try.prog 32 = some false := by kernel_rfl
theorem tcon_32 : tcon Try.prog 32 = true := by kernel_rfl
theorem tstr_32 : tstr Try.prog 32 = false := by kernel_rfl
theorem tbool_32 : tbool Try.prog 32 = false := by kernel_rfl
theorem tslc_32 : tslc Try.prog 32 = none := by kernel_rfl
theorem tarr_32 : tarr Try.prog 32 = none := by kernel_rfl
theorem tby_32 : tby Try.prog 32 = some 8 := by kernel_rfl
theorem tzr_32 : tzr Try.prog 32 = some [.raw .nilFunc] := by kernel_rfl
theorem tsz_33 : tsz Try.prog 33 = some 1 := by kernel_rfl
theorem tag_33 : tag Try.prog 33 = some false := by kernel_rfl
theorem tcon_33 : tcon Try.prog 33 = true := by kernel_rfl
theorem tstr_33 : tstr Try.prog 33 = false := by kernel_rfl
theorem tbool_33 : tbool Try.prog 33 = false := by kernel_rfl
theorem tslc_33 : tslc Try.prog 33 = some 3 := by kernel_rfl
theorem tarr_33 : tarr Try.prog 33 = none := by kernel_rfl
theorem tby_33 : tby Try.prog 33 = some 24 := by kernel_rfl
theorem tzr_33 : tzr Try.prog 33 = some [.clip []] := by kernel_rfl
theorem tsz_34 : tsz Try.prog 34 = some 1 := by kernel_rfl
theorem tag_34 : tag Try.prog 34 = some false := by kernel_rfl
theorem tcon_34 : tcon Try.prog 34 = true := by kernel_rfl
theorem tstr_34 : tstr Try.prog 34 = false := by kernel_rfl
theorem tbool_34 : tbool Try.prog 34 = false := by kernel_rfl
theorem tslc_34 : tslc Try.prog 34 = none := by kernel_rfl
theorem tarr_34 : tarr Try.prog 34 = none := by kernel_rfl
theorem tby_34 : tby Try.prog 34 = some 8 := by kernel_rfl
theorem tzr_34 : tzr Try.prog 34 = some [.raw .nilFunc] := by kernel_rfl
theorem tsz_36 : tsz Try.prog 36 = some 1 := by kernel_rfl
theorem tag_36 : tag Try.prog 36 = some false := by kernel_rfl
theorem tcon_36 : tcon Try.prog 36 = true := by kernel_rfl
theorem tstr_36 : tstr Try.prog 36 = false := by kernel_rfl
theorem tbool_36 : tbool Try.prog 36 = false := by kernel_rfl
theorem tslc_36 : tslc Try.prog 36 = none := by kernel_rfl
theorem tarr_36 : tarr Try.prog 36 = none := by kernel_rfl
theorem tby_36 : tby Try.prog 36 = some 8 := by kernel_rfl
theorem tzr_36 : tzr Try.prog 36 = some [.raw .nilFunc] := by kernel_rfl
theorem tsz_37 : tsz Try.prog 37 = some 1 := by kernel_rfl
theorem tag_37 : tag Try.prog 37 = some false := by kernel_rfl
theorem tcon_37 : tcon Try.prog 37 = true := by kernel_rfl
theorem tstr_37 : tstr Try.prog 37 = false := by kernel_rfl
theorem tbool_37 : tbool Try.prog 37 = false := by kernel_rfl
theorem tslc_37 : tslc Try.prog 37 = none := by kernel_rfl
theorem tarr_37 : tarr Try.prog 37 = none := by kernel_rfl
theorem tby_37 : tby Try.prog 37 = some 8 := by kernel_rfl
theorem tzr_37 : tzr Try.prog 37 = some [.raw .nilFunc] := by kernel_rfl
theorem tsz_38 : tsz Try.prog 38 = some 1 := by kernel_rfl
theorem tag_38 : tag Try.prog 38 = some false := by kernel_rfl
theorem tcon_38 : tcon Try.prog 38 = true := by kernel_rfl
theorem tstr_38 : tstr Try.prog 38 = false := by kernel_rfl
theorem tbool_38 : tbool Try.prog 38 = false := by kernel_rfl
theorem tslc_38 : tslc Try.prog 38 = none := by kernel_rfl
theorem tarr_38 : tarr Try.prog 38 = none := by kernel_rfl
theorem tby_38 : tby Try.prog 38 = some 8 := by kernel_rfl
theorem tzr_38 : tzr Try.prog 38 = some [.raw .nilFunc] := by kernel_rfl
theorem tsz_39 : tsz Try.prog 39 = some 1 := by kernel_rfl
theorem tag_39 : tag Try.prog 39 = some false := by kernel_rfl
theorem tcon_39 : tcon Try.prog 39 = true := by kernel_rfl
theorem tstr_39 : tstr Try.prog 39 = false := by kernel_rfl
theorem tbool_39 : tbool Try.prog 39 = false := by kernel_rfl
theorem tslc_39 : tslc Try.prog 39 = none := by kernel_rfl
theorem tarr_39 : tarr Try.prog 39 = none := by kernel_rfl
theorem tby_39 : tby Try.prog 39 = some 8 := by kernel_rfl
theorem tzr_39 : tzr Try.prog 39 = some [.raw .nilFunc] := by kernel_rfl
theorem tsz_40 : tsz Try.prog 40 = some 1 := by kernel_rfl
theorem tag_40 : tag Try.prog 40 = some false := by kernel_rfl
theorem tcon_40 : tcon Try.prog 40 = true := by kernel_rfl
theorem tstr_40 : tstr Try.prog 40 = false := by kernel_rfl
theorem tbool_40 : tbool Try.prog 40 = false := by kernel_rfl
theorem tslc_40 : tslc Try.prog 40 = none := by kernel_rfl
theorem tarr_40 : tarr Try.prog 40 = none := by kernel_rfl
theorem tby_40 : tby Try.prog 40 = some 8 := by kernel_rfl
theorem tzr_40 : tzr Try.prog 40 = some [.raw .nilFunc] := by kernel_rfl
theorem tsz_41 : tsz Try.prog 41 = some 1 := by kernel_rfl
theorem tag_41 : tag Try.prog 41 = some false := by kernel_rfl
theorem tcon_41 : tcon Try.prog 41 = true := by kernel_rfl
theorem tstr_41 : tstr Try.prog 41 = false := by kernel_rfl
theorem tbool_41 : tbool Try.prog 41 = false := by kernel_rfl
theorem tslc_41 : tslc Try.prog 41 = none := by kernel_rfl
theorem tarr_41 : tarr Try.prog 41 = none := by kernel_rfl
theorem tby_41 : tby Try.prog 41 = some 8 := by kernel_rfl
theorem tzr_41 : tzr Try.prog 41 = some [.raw .nilFunc] := by kernel_rfl
theorem tsz_42 : tsz Try.prog 42 = some 2 := by kernel_rfl
theorem tag_42 : tag Try.prog 42 = some true := by kernel_rfl
theorem tcon_42 : tcon Try.prog 42 = true := by kernel_rfl
theorem tstr_42 : tstr Try.prog 42 = false := by kernel_rfl
theorem tbool_42 : tbool Try.prog 42 = false := by kernel_rfl
theorem tslc_42 : tslc Try.prog 42 = none := by kernel_rfl
theorem tarr_42 : tarr Try.prog 42 = none := by kernel_rfl
theorem tby_42 : tby Try.prog 42 = some 32 := by kernel_rfl
theorem tzr_42 : tzr Try.prog 42 = some [.clip [], .d (.int .i64 0)] := by kernel_rfl
theorem tfld_42_0 : tfld Try.prog 42 0 = some (0, 1, 22) := by kernel_rfl
theorem place_42_0 : place Try.prog 42 0 = some (0, 1) := by kernel_rfl
theorem tfld_42_1 : tfld Try.prog 42 1 = some (1, 1, 3) := by kernel_rfl
theorem place_42_1 : place Try.prog 42 1 = some (1, 1) := by kernel_rfl
theorem tbld_42 : tbld Try.prog 42 = true := by kernel_rfl
theorem tsz_43 : tsz Try.prog 43 = some 2 := by kernel_rfl
theorem tag_43 : tag Try.prog 43 = some true := by kernel_rfl
theorem tcon_43 : tcon Try.prog 43 = true := by kernel_rfl
theorem tstr_43 : tstr Try.prog 43 = false := by kernel_rfl
theorem tbool_43 : tbool Try.prog 43 = false := by kernel_rfl
theorem tslc_43 : tslc Try.prog 43 = none := by kernel_rfl
theorem tarr_43 : tarr Try.prog 43 = none := by kernel_rfl
theorem tby_43 : tby Try.prog 43 = some 32 := by kernel_rfl
theorem tzr_43 : tzr Try.prog 43 = some [.clip [], .d (.int .i64 0)] := by kernel_rfl
theorem tfld_43_0 : tfld Try.prog 43 0 = some (0, 1, 22) := by kernel_rfl
theorem place_43_0 : place Try.prog 43 0 = some (0, 1) := by kernel_rfl
theorem tfld_43_1 : tfld Try.prog 43 1 = some (1, 1, 3) := by kernel_rfl
theorem place_43_1 : place Try.prog 43 1 = some (1, 1) := by kernel_rfl
theorem tbld_43 : tbld Try.prog 43 = true := by kernel_rfl
theorem tsz_44 : tsz Try.prog 44 = some 1 := by kernel_rfl
theorem tag_44 : tag Try.prog 44 = some false := by kernel_rfl
theorem tcon_44 : tcon Try.prog 44 = true := by kernel_rfl
theorem tstr_44 : tstr Try.prog 44 = false := by kernel_rfl
theorem tbool_44 : tbool Try.prog 44 = false := by kernel_rfl
theorem tslc_44 : tslc Try.prog 44 = none := by kernel_rfl
theorem tarr_44 : tarr Try.prog 44 = none := by kernel_rfl
theorem tby_44 : tby Try.prog 44 = some 8 := by kernel_rfl
theorem tzr_44 : tzr Try.prog 44 = some [.raw .nilFunc] := by kernel_rfl
theorem tsz_45 : tsz Try.prog 45 = some 1 := by kernel_rfl
theorem tag_45 : tag Try.prog 45 = some false := by kernel_rfl
theorem tcon_45 : tcon Try.prog 45 = true := by kernel_rfl
theorem tstr_45 : tstr Try.prog 45 = false := by kernel_rfl
theorem tbool_45 : tbool Try.prog 45 = false := by kernel_rfl
theorem tslc_45 : tslc Try.prog 45 = none := by kernel_rfl
theorem tarr_45 : tarr Try.prog 45 = none := by kernel_rfl
theorem tby_45 : tby Try.prog 45 = some 8 := by kernel_rfl
theorem tzr_45 : tzr Try.prog 45 = some [.raw .nilFunc] := by kernel_rfl
theorem tsz_46 : tsz Try.prog 46 = some 1 := by kernel_rfl
theorem tag_46 : tag Try.prog 46 = some false := by kernel_rfl
theorem tcon_46 : tcon Try.prog 46 = true := by kernel_rfl
theorem tstr_46 : tstr Try.prog 46 = false := by kernel_rfl
theorem tbool_46 : tbool Try.prog 46 = false := by kernel_rfl
theorem tslc_46 : tslc Try.prog 46 = none := by kernel_rfl
theorem tarr_46 : tarr Try.prog 46 = none := by kernel_rfl
theorem tby_46 : tby Try.prog 46 = some 8 := by kernel_rfl
theorem tzr_46 : tzr Try.prog 46 = some [.raw .nilFunc] := by kernel_rfl
theorem tsz_47 : tsz Try.prog 47 = some 1 := by kernel_rfl
theorem tag_47 : tag Try.prog 47 = some false := by kernel_rfl
theorem tcon_47 : tcon Try.prog 47 = true := by kernel_rfl
theorem tstr_47 : tstr Try.prog 47 = false := by kernel_rfl
theorem tbool_47 : tbool Try.prog 47 = false := by kernel_rfl
theorem tslc_47 : tslc Try.prog 47 = none := by kernel_rfl
theorem tarr_47 : tarr Try.prog 47 = none := by kernel_rfl
theorem tby_47 : tby Try.prog 47 = some 8 := by kernel_rfl
theorem tzr_47 : tzr Try.prog 47 = some [.raw .nilFunc] := by kernel_rfl
theorem tsz_48 : tsz Try.prog 48 = some 1 := by kernel_rfl
theorem tag_48 : tag Try.prog 48 = some false := by kernel_rfl
theorem tcon_48 : tcon Try.prog 48 = true := by kernel_rfl
theorem tstr_48 : tstr Try.prog 48 = false := by kernel_rfl
theorem tbool_48 : tbool Try.prog 48 = false := by kernel_rfl
theorem tslc_48 : tslc Try.prog 48 = some 76 := by kernel_rfl
theorem tarr_48 : tarr Try.prog 48 = none := by kernel_rfl
theorem tby_48 : tby Try.prog 48 = some 24 := by kernel_rfl
theorem tzr_48 : tzr Try.prog 48 = some [.clip []] := by kernel_rfl
theorem tsz_49 : tsz Try.prog 49 = some 1 := by kernel_rfl
theorem tag_49 : tag Try.prog 49 = some false := by kernel_rfl
theorem tcon_49 : tcon Try.prog 49 = true := by kernel_rfl
theorem tstr_49 : tstr Try.prog 49 = false := by kernel_rfl
theorem tbool_49 : tbool Try.prog 49 = false := by kernel_rfl
theorem tslc_49 : tslc Try.prog 49 = some 79 := by kernel_rfl
theorem tarr_49 : tarr Try.prog 49 = none := by kernel_rfl
theorem tby_49 : tby Try.prog 49 = some 24 := by kernel_rfl
theorem tzr_49 : tzr Try.prog 49 = some [.clip []] := by kernel_rfl
theorem tsz_50 : tsz Try.prog 50 = some 1 := by kernel_rfl
theorem tag_50 : tag Try.prog 50 = some false := by kernel_rfl
theorem tcon_50 : tcon Try.prog 50 = true := by kernel_rfl
theorem tstr_50 : tstr Try.prog 50 = false := by kernel_rfl
theorem tbool_50 : tbool Try.prog 50 = false := by kernel_rfl
theorem tslc_50 : tslc Try.prog 50 = none := by kernel_rfl
theorem tarr_50 : tarr Try.prog 50 = none := by kernel_rfl
theorem tby_50 : tby Try.prog 50 = some 8 := by kernel_rfl
theorem tzr_50 : tzr Try.prog 50 = some [.raw .nilFunc] := by kernel_rfl
theorem tsz_51 : tsz Try.prog 51 = some 1 := by kernel_rfl
theorem tag_51 : tag Try.prog 51 = some false := by kernel_rfl
theorem tcon_51 : tcon Try.prog 51 = true := by kernel_rfl
theorem tstr_51 : tstr Try.prog 51 = false := by kernel_rfl
theorem tbool_51 : tbool Try.prog 51 = false := by kernel_rfl
theorem tslc_51 : tslc Try.prog 51 = none := by kernel_rfl
theorem tarr_51 : tarr Try.prog 51 = none := by kernel_rfl
theorem tby_51 : tby Try.prog 51 = some 8 := by kernel_rfl
theorem tzr_51 : tzr Try.prog 51 = some [.raw .nilFunc] := by kernel_rfl
theorem tsz_52 : tsz Try.prog 52 = some 1 := by kernel_rfl
theorem tag_52 : tag Try.prog 52 = some false := by kernel_rfl
theorem tcon_52 : tcon Try.prog 52 = true := by kernel_rfl
theorem tstr_52 : tstr Try.prog 52 = false := by kernel_rfl
theorem tbool_52 : tbool Try.prog 52 = false := by kernel_rfl
theorem tslc_52 : tslc Try.prog 52 = none := by kernel_rfl
theorem tarr_52 : tarr Try.prog 52 = none := by kernel_rfl
theorem tby_52 : tby Try.prog 52 = some 8 := by kernel_rfl
theorem tzr_52 : tzr Try.prog 52 = some [.raw .nilFunc] := by kernel_rfl
theorem tsz_53 : tsz Try.prog 53 = some 1 := by kernel_rfl
theorem tag_53 : tag Try.prog 53 = some false := by kernel_rfl
theorem tcon_53 : tcon Try.prog 53 = true := by kernel_rfl
theorem tstr_53 : tstr Try.prog 53 = false := by kernel_rfl
theorem tbool_53 : tbool Try.prog 53 = false := by kernel_rfl
theorem tslc_53 : tslc Try.prog 53 = none := by kernel_rfl
theorem tarr_53 : tarr Try.prog 53 = none := by kernel_rfl
theorem tby_53 : tby Try.prog 53 = some 8 := by kernel_rfl
theorem tzr_53 : tzr Try.prog 53 = some [.raw .nilFunc] := by kernel_rfl
theorem tsz_54 : tsz Try.prog 54 = some 1 := by kernel_rfl
theorem tag_54 : tag Try.prog 54 = some false := by kernel_rfl
theorem tcon_54 : tcon Try.prog 54 = true := by kernel_rfl
theorem tstr_54 : tstr Try.prog 54 = false := by kernel_rfl
theorem tbool_54 : tbool Try.prog 54 = false := by kernel_rfl
theorem tslc_54 : tslc Try.prog 54 = none := by kernel_rfl
theorem tarr_54 : tarr Try.prog 54 = none := by kernel_rfl
theorem tby_54 : tby Try.prog 54 = some 8 := by kernel_rfl
theorem tzr_54 : tzr Try.prog 54 = some [.raw .nilFunc] := by kernel_rfl
theorem tsz_55 : tsz Try.prog 55 = some 1 := by kernel_rfl
theorem tag_55 : tag Try.prog 55 = some false := by kernel_rfl
theorem tcon_55 : tcon Try.prog 55 = true := by kernel_rfl
theorem tstr_55 : tstr Try.prog 55 = false := by kernel_rfl
theorem tbool_55 : tbool Try.prog 55 = false := by kernel_rfl
theorem tslc_55 : tslc Try.prog 55 = none := by kernel_rfl
theorem tarr_55 : tarr Try.prog 55 = none := by kernel_rfl
theorem tby_55 : tby Try.prog 55 = some 8 := by kernel_rfl
theorem tzr_55 : tzr Try.prog 55 = some [.raw .nilFunc] := by kernel_rfl
theorem tsz_56 : tsz Try.prog 56 = some 1 := by kernel_rfl
theorem tag_56 : tag Try.prog 56 = some false := by kernel_rfl
theorem tcon_56 : tcon Try.prog 56 = true := by kernel_rfl
theorem tstr_56 : tstr Try.prog 56 = false := by kernel_rfl
theorem tbool_56 : tbool Try.prog 56 = false := by kernel_rfl
theorem tslc_56 : tslc Try.prog 56 = none := by kernel_rfl
theorem tarr_56 : tarr Try.prog 56 = none := by kernel_rfl
theorem tby_56 : tby Try.prog 56 = some 8 := by kernel_rfl
theorem tzr_56 : tzr Try.prog 56 = some [.raw .nilFunc] := by kernel_rfl
theorem tsz_57 : tsz Try.prog 57 = some 1 := by kernel_rfl
theorem tag_57 : tag Try.prog 57 = some false := by kernel_rfl
theorem tcon_57 : tcon Try.prog 57 = true := by kernel_rfl
theorem tstr_57 : tstr Try.prog 57 = false := by kernel_rfl
theorem tbool_57 : tbool Try.prog 57 = false := by kernel_rfl
theorem tslc_57 : tslc Try.prog 57 = none := by kernel_rfl
theorem tarr_57 : tarr Try.prog 57 = none := by kernel_rfl
theorem tby_57 : tby Try.prog 57 = some 8 := by kernel_rfl
theorem tzr_57 : tzr Try.prog 57 = some [.raw .nilFunc] := by kernel_rfl
theorem tsz_58 : tsz Try.prog 58 = some 1 := by kernel_rfl
theorem tag_58 : tag Try.prog 58 = some false := by kernel_rfl
theorem tcon_58 : tcon Try.prog 58 = true := by kernel_rfl
theorem tstr_58 : tstr Try.prog 58 = false := by kernel_rfl
theorem tbool_58 : tbool Try.prog 58 = false := by kernel_rfl
theorem tslc_58 : tslc Try.prog 58 = none := by kernel_rfl
theorem tarr_58 : tarr Try.prog 58 = none := by kernel_rfl
theorem tby_58 : tby Try.prog 58 = some 8 := by kernel_rfl
theorem tzr_58 : tzr Try.prog 58 = some [.raw .nilFunc] := by kernel_rfl
theorem tsz_59 : tsz Try.prog 59 = some 1 := by kernel_rfl
theorem tag_59 : tag Try.prog 59 = some false := by kernel_rfl
theorem tcon_59 : tcon Try.prog 59 = true := by kernel_rfl
theorem tstr_59 : tstr Try.prog 59 = false := by kernel_rfl
theorem tbool_59 : tbool Try.prog 59 = false := by kernel_rfl
theorem tslc_59 : tslc Try.prog 59 = none := by kernel_rfl
theorem tarr_59 : tarr Try.prog 59 = none := by kernel_rfl
theorem tby_59 : tby Try.prog 59 = some 8 := by kernel_rfl
theorem tzr_59 : tzr Try.prog 59 = some [.raw .nilFunc] := by kernel_rfl
theorem tsz_60 : tsz Try.prog 60 = some 1 := by kernel_rfl
theorem tag_60 : tag Try.prog 60 = some false := by kernel_rfl
theorem tcon_60 : tcon Try.prog 60 = true := by kernel_rfl
theorem tstr_60 : tstr Try.prog 60 = false := by kernel_rfl
theorem tbool_60 : tbool Try.prog 60 = false := by kernel_rfl
theorem tslc_60 : tslc Try.prog 60 = none := by kernel_rfl
theorem tarr_60 : tarr Try.prog 60 = none := by kernel_rfl
theorem tby_60 : tby Try.prog 60 = some 8 := by kernel_rfl
theorem tzr_60 : tzr Try.prog 60 = some [.raw .nilFunc] := by kernel_rfl
theorem tsz_61 : tsz Try.prog 61 = some 1 := by kernel_rfl
theorem tag_61 : tag Try.prog 61 = some false := by kernel_rfl
theorem tcon_61 : tcon Try.prog 61 = true := by kernel_rfl
theorem tstr_61 : tstr Try.prog 61 = false := by kernel_rfl
theorem tbool_61 : tbool Try.prog 61 = false := by kernel_rfl
theorem tslc_61 : tslc Try.prog 61 = none := by kernel_rfl
theorem tarr_61 : tarr Try.prog 61 = none := by kernel_rfl
theorem tby_61 : tby Try.prog 61 = some 8 := by kernel_rfl
theorem tzr_61 : tzr Try.prog 61 = some [.raw .nilFunc] := by kernel_rfl
theorem tsz_62 : tsz Try.prog 62 = some 1 := by kernel_rfl
theorem tag_62 : tag Try.prog 62 = some false := by kernel_rfl
theorem tcon_62 : tcon Try.prog 62 = true := by kernel_rfl
theorem tstr_62 : tstr Try.prog 62 = false := by kernel_rfl
theorem tbool_62 : tbool Try.prog 62 = false := by kernel_rfl
theorem tslc_62 : tslc Try.prog 62 = none := by kernel_rfl
theorem tarr_62 : tarr Try.prog 62 = none := by kernel_rfl
theorem tby_62 : tby Try.prog 62 = some 8 := by kernel_rfl
theorem tzr_62 : tzr Try.prog 62 = some [.raw .nilFunc] := by kernel_rfl
theorem tsz_63 : tsz Try.prog 63 = some 1 := by kernel_rfl
theorem tag_63 : tag Try.prog 63 = some false := by kernel_rfl
theorem tcon_63 : tcon Try.prog 63 = true := by kernel_rfl
theorem tstr_63 : tstr Try.prog 63 = false := by kernel_rfl
theorem tbool_63 : tbool Try.prog 63 = false := by kernel_rfl
theorem tslc_63 : tslc Try.prog 63 = none := by kernel_rfl
theorem tarr_63 : tarr Try.prog 63 = none := by kernel_rfl
theorem tby_63 : tby Try.prog 63 = some 8 := by kernel_rfl
theorem tzr_63 : tzr Try.prog 63 = some [.raw .nilFunc] := by kernel_rfl
theorem tsz_64 : tsz Try.prog 64 = some 1 := by kernel_rfl
theorem tag_64 : tag Try.prog 64 = some false := by kernel_rfl
theorem tcon_64 : tcon Try.prog 64 = true := by kernel_rfl
theorem tstr_64 : tstr Try.prog 64 = false := by kernel_rfl
theorem tbool_64 : tbool Try.prog 64 = false := by kernel_rfl
theorem tslc_64 : tslc Try.prog 64 = none := by kernel_rfl
theorem tarr_64 : tarr Try.prog 64 = none := by kernel_rfl
theorem tby_64 : tby Try.prog 64 = some 8 := by kernel_rfl
theorem tzr_64 : tzr Try.prog 64 = some [.raw .nilFunc] := by kernel_rfl
theorem tsz_65 : tsz Try.prog 65 = some 1 := by kernel_rfl
theorem tag_65 : tag Try.prog 65 = some false := by kernel_rfl
theorem tcon_65 : tcon Try.prog 65 = true := by kernel_rfl
theorem tstr_65 : tstr Try.prog 65 = false := by kernel_rfl
theorem tbool_65 : tbool Try.prog 65 = false := by kernel_rfl
theorem tslc_65 : tslc Try.prog 65 = none := by kernel_rfl
theorem tarr_65 : tarr Try.prog 65 = none := by kernel_rfl
theorem tby_65 : tby Try.prog 65 = some 8 := by kernel_rfl
theorem tzr_65 : tzr Try.prog 65 = some [.raw .nilFunc] := by kernel_rfl
theorem tsz_66 : tsz Try.prog 66 = some 1 := by kernel_rfl
theorem tag_66 : tag Try.prog 66 = some false := by kernel_rfl
theorem tcon_66 : tcon Try.prog 66 = true := by kernel_rfl
theorem tstr_66 : tstr Try.prog 66 = false := by kernel_rfl
theorem tbool_66 : tbool Try.prog 66 = false := by kernel_rfl
theorem tslc_66 : tslc Try.prog 66 = none := by kernel_rfl
theorem tarr_66 : tarr Try.prog 66 = none := by kernel_rfl
theorem tby_66 : tby Try.prog 66 = some 8 := by kernel_rfl
theorem tzr_66 : tzr Try.prog 66 = some [.raw .nilFunc] := by kernel_rfl
theorem tsz_67 : tsz Try.prog 67 = some 1 := by kernel_rfl
theorem tag_67 : tag Try.prog 67 = some false := by kernel_rfl
theorem tcon_67 : tcon Try.prog 67 = true := by kernel_rfl
theorem tstr_67 : tstr Try.prog 67 = false := by kernel_rfl
theorem tbool_67 : tbool Try.prog 67 = false := by kernel_rfl
theorem tslc_67 : tslc Try.prog 67 = none := by kernel_rfl
theorem tarr_67 : tarr Try.prog 67 = none := by kernel_rfl
theorem tby_67 : tby Try.prog 67 = some 8 := by kernel_rfl
theorem tzr_67 : tzr Try.prog 67 = some [.raw .nilFunc] := by kernel_rfl
theorem tsz_68 : tsz Try.prog 68 = some 1 := by kernel_rfl
theorem tag_68 : tag Try.prog 68 = some false := by kernel_rfl
theorem tcon_68 : tcon Try.prog 68 = true := by kernel_rfl
theorem tstr_68 : tstr Try.prog 68 = false := by kernel_rfl
theorem tbool_68 : tbool Try.prog 68 = false := by kernel_rfl
theorem tslc_68 : tslc Try.prog 68 = none := by kernel_rfl
theorem tarr_68 : tarr Try.prog 68 = none := by kernel_rfl
theorem tby_68 : tby Try.prog 68 = some 8 := by kernel_rfl
theorem tzr_68 : tzr Try.prog 68 = some [.raw .nilFunc] := by kernel_rfl
theorem tsz_69 : tsz Try.prog 69 = some 1 := by kernel_rfl
theorem tag_69 : tag Try.prog 69 = some false := by kernel_rfl
theorem tcon_69 : tcon Try.prog 69 = true := by kernel_rfl
theorem tstr_69 : tstr Try.prog 69 = false := by kernel_rfl
theorem tbool_69 : tbool Try.prog 69 = false := by kernel_rfl
theorem tslc_69 : tslc Try.prog 69 = none := by kernel_rfl
theorem tarr_69 : tarr Try.prog 69 = none := by kernel_rfl
theorem tby_69 : tby Try.prog 69 = some 8 := by kernel_rfl
theorem tzr_69 : tzr Try.prog 69 = some [.raw .nilFunc] := by kernel_rfl
theorem tsz_70 : tsz Try.prog 70 = some 1 := by kernel_rfl
theorem tag_70 : tag Try.prog 70 = some false := by kernel_rfl
theorem tcon_70 : tcon Try.prog 70 = true := by kernel_rfl
theorem tstr_70 : tstr Try.prog 70 = false := by kernel_rfl
theorem tbool_70 : tbool Try.prog 70 = false := by kernel_rfl
theorem tslc_70 : tslc Try.prog 70 = none := by kernel_rfl
theorem tarr_70 : tarr Try.prog 70 = none := by kernel_rfl
theorem tby_70 : tby Try.prog 70 = some 8 := by kernel_rfl
theorem tzr_70 : tzr Try.prog 70 = some [.raw .nilFunc] := by kernel_rfl
theorem tsz_71 : tsz Try.prog 71 = some 1 := by kernel_rfl
theorem tag_71 : tag Try.prog 71 = some false := by kernel_rfl
theorem tcon_71 : tcon Try.prog 71 = true := by kernel_rfl
theorem tstr_71 : tstr Try.prog 71 = false := by kernel_rfl
theorem tbool_71 : tbool Try.prog 71 = false := by kernel_rfl
theorem tslc_71 : tslc Try.prog 71 = none := by kernel_rfl
theorem tarr_71 : tarr Try.prog 71 = none := by kernel_rfl
theorem tby_71 : tby Try.prog 71 = some 8 := by kernel_rfl
theorem tzr_71 : tzr Try.prog 71 = some [.raw (.pointer none)] := by kernel_rfl
theorem tsz_72 : tsz Try.prog 72 = some 1 := by kernel_rfl
theorem tag_72 : tag Try.prog 72 = some false := by kernel_rfl
theorem tcon_72 : tcon Try.prog 72 = true := by kernel_rfl
theorem tstr_72 : tstr Try.prog 72 = false := by kernel_rfl
theorem tbool_72 : tbool Try.prog 72 = false := by kernel_rfl
theorem tslc_72 : tslc Try.prog 72 = none := by kernel_rfl
theorem tarr_72 : tarr Try.prog 72 = none := by kernel_rfl
theorem tby_72 : tby Try.prog 72 = some 8 := by kernel_rfl
theorem tzr_72 : tzr Try.prog 72 = some [.raw .nilFunc] := by kernel_rfl
theorem tsz_73 : tsz Try.prog 73 = some 1 := by kernel_rfl
theorem tag_73 : tag Try.prog 73 = some false := by kernel_rfl
theorem tcon_73 : tcon Try.prog 73 = true := by kernel_rfl
theorem tstr_73 : tstr Try.prog 73 = false := by kernel_rfl
theorem tbool_73 : tbool Try.prog 73 = false := by kernel_rfl
theorem tslc_73 : tslc Try.prog 73 = none := by kernel_rfl
theorem tarr_73 : tarr Try.prog 73 = none := by kernel_rfl
theorem tby_73 : tby Try.prog 73 = some 8 := by kernel_rfl
theorem tzr_73 : tzr Try.prog 73 = some [.raw .nilFunc] := by kernel_rfl
theorem tsz_74 : tsz Try.prog 74 = some 1 := by kernel_rfl
theorem tag_74 : tag Try.prog 74 = some false := by kernel_rfl
theorem tcon_74 : tcon Try.prog 74 = true := by kernel_rfl
theorem tstr_74 : tstr Try.prog 74 = false := by kernel_rfl
theorem tbool_74 : tbool Try.prog 74 = false := by kernel_rfl
theorem tslc_74 : tslc Try.prog 74 = none := by kernel_rfl
theorem tarr_74 : tarr Try.prog 74 = none := by kernel_rfl
theorem tby_74 : tby Try.prog 74 = some 8 := by kernel_rfl
theorem tzr_74 : tzr Try.prog 74 = some [.raw .nilFunc] := by kernel_rfl
theorem tsz_75 : tsz Try.prog 75 = some 4 := by kernel_rfl
theorem tag_75 : tag Try.prog 75 = some true := by kernel_rfl
theorem tcon_75 : tcon Try.prog 75 = true := by kernel_rfl
theorem tstr_75 : tstr Try.prog 75 = false := by kernel_rfl
theorem tbool_75 : tbool Try.prog 75 = false := by kernel_rfl
theorem tslc_75 : tslc Try.prog 75 = none := by kernel_rfl
theorem tarr_75 : tarr Try.prog 75 = none := by kernel_rfl
theorem tby_75 : tby Try.prog 75 = some 56 := by kernel_rfl
theorem tzr_75 : tzr Try.prog 75 = some [.d (.str ⟨#[]⟩), .d (.int .i64 0), .d (.int .i64 0), .clip []] := by kernel_rfl
theorem tfld_75_0 : tfld Try.prog 75 0 = some (0, 1, 9) := by kernel_rfl
theorem place_75_0 : place Try.prog 75 0 = some (0, 1) := by kernel_rfl
theorem tfld_75_1 : tfld Try.prog 75 1 = some (1, 3, 24) := by kernel_rfl
theorem place_75_1 : place Try.prog 75 1 = some (1, 3) := by kernel_rfl
theorem tbld_75 : tbld Try.prog 75 = true := by kernel_rfl
theorem tsz_76 : tsz Try.prog 76 = some 4 := by kernel_rfl
theorem tag_76 : tag Try.prog 76 = some true := by kernel_rfl
theorem tcon_76 : tcon Try.prog 76 = true := by kernel_rfl
theorem tstr_76 : tstr Try.prog 76 = false := by kernel_rfl
theorem tbool_76 : tbool Try.prog 76 = false := by kernel_rfl
theorem tslc_76 : tslc Try.prog 76 = none := by kernel_rfl
theorem tarr_76 : tarr Try.prog 76 = none := by kernel_rfl
theorem tby_76 : tby Try.prog 76 = some 56 := by kernel_rfl
theorem tzr_76 : tzr Try.prog 76 = some [.d (.str ⟨#[]⟩), .d (.int .i64 0), .d (.int .i64 0), .clip []] := by kernel_rfl
theorem tfld_76_0 : tfld Try.prog 76 0 = some (0, 1, 9) := by kernel_rfl
theorem place_76_0 : place Try.prog 76 0 = some (0, 1) := by kernel_rfl
theorem tfld_76_1 : tfld Try.prog 76 1 = some (1, 3, 24) := by kernel_rfl
theorem place_76_1 : place Try.prog 76 1 = some (1, 3) := by kernel_rfl
theorem tbld_76 : tbld Try.prog 76 = true := by kernel_rfl
theorem tsz_77 : tsz Try.prog 77 = some 1 := by kernel_rfl
theorem tag_77 : tag Try.prog 77 = some false := by kernel_rfl
theorem tcon_77 : tcon Try.prog 77 = true := by kernel_rfl
theorem tstr_77 : tstr Try.prog 77 = false := by kernel_rfl
theorem tbool_77 : tbool Try.prog 77 = false := by kernel_rfl
theorem tslc_77 : tslc Try.prog 77 = none := by kernel_rfl
theorem tarr_77 : tarr Try.prog 77 = none := by kernel_rfl
theorem tby_77 : tby Try.prog 77 = some 8 := by kernel_rfl
theorem tzr_77 : tzr Try.prog 77 = some [.raw .nilFunc] := by kernel_rfl
theorem tsz_78 : tsz Try.prog 78 = some 5 := by kernel_rfl
theorem tag_78 : tag Try.prog 78 = some true := by kernel_rfl
theorem tcon_78 : tcon Try.prog 78 = true := by kernel_rfl
theorem tstr_78 : tstr Try.prog 78 = false := by kernel_rfl
theorem tbool_78 : tbool Try.prog 78 = false := by kernel_rfl
theorem tslc_78 : tslc Try.prog 78 = none := by kernel_rfl
theorem tarr_78 : tarr Try.prog 78 = none := by kernel_rfl
theorem tby_78 : tby Try.prog 78 = some 72 := by kernel_rfl
theorem tzr_78 : tzr Try.prog 78 = some [.clip [], .d (.int .i64 0), .d (.int .i64 0), .clip [], .d (.bool false)] := by kernel_rfl
theorem tfld_78_0 : tfld Try.prog 78 0 = some (0, 1, 22) := by kernel_rfl
theorem place_78_0 : place Try.prog 78 0 = some (0, 1) := by kernel_rfl
theorem tfld_78_1 : tfld Try.prog 78 1 = some (1, 3, 24) := by kernel_rfl
theorem place_78_1 : place Try.prog 78 1 = some (1, 3) := by kernel_rfl
theorem tfld_78_2 : tfld Try.prog 78 2 = some (4, 1, 4) := by kernel_rfl
theorem place_78_2 : place Try.prog 78 2 = some (4, 1) := by kernel_rfl
theorem tbld_78 : tbld Try.prog 78 = true := by kernel_rfl
theorem tsz_79 : tsz Try.prog 79 = some 5 := by kernel_rfl
theorem tag_79 : tag Try.prog 79 = some true := by kernel_rfl
theorem tcon_79 : tcon Try.prog 79 = true := by kernel_rfl
theorem tstr_79 : tstr Try.prog 79 = false := by kernel_rfl
theorem tbool_79 : tbool Try.prog 79 = false := by kernel_rfl
theorem tslc_79 : tslc Try.prog 79 = none := by kernel_rfl
theorem tarr_79 : tarr Try.prog 79 = none := by kernel_rfl
theorem tby_79 : tby Try.prog 79 = some 72 := by kernel_rfl
theorem tzr_79 : tzr Try.prog 79 = some [.clip [], .d (.int .i64 0), .d (.int .i64 0), .clip [], .d (.bool false)] := by kernel_rfl
theorem tfld_79_0 : tfld Try.prog 79 0 = some (0, 1, 22) := by kernel_rfl
theorem place_79_0 : place Try.prog 79 0 = some (0, 1) := by kernel_rfl
theorem tfld_79_1 : tfld Try.prog 79 1 = some (1, 3, 24) := by kernel_rfl
theorem place_79_1 : place Try.prog 79 1 = some (1, 3) := by kernel_rfl
theorem tfld_79_2 : tfld Try.prog 79 2 = some (4, 1, 4) := by kernel_rfl
theorem place_79_2 : place Try.prog 79 2 = some (4, 1) := by kernel_rfl
theorem tbld_79 : tbld Try.prog 79 = true := by kernel_rfl
theorem tsz_80 : tsz Try.prog 80 = some 3 := by kernel_rfl
theorem tag_80 : tag Try.prog 80 = some true := by kernel_rfl
theorem tcon_80 : tcon Try.prog 80 = true := by kernel_rfl
theorem tstr_80 : tstr Try.prog 80 = false := by kernel_rfl
theorem tbool_80 : tbool Try.prog 80 = false := by kernel_rfl
theorem tslc_80 : tslc Try.prog 80 = none := by kernel_rfl
theorem tarr_80 : tarr Try.prog 80 = none := by kernel_rfl
theorem tby_80 : tby Try.prog 80 = some 72 := by kernel_rfl
theorem tzr_80 : tzr Try.prog 80 = some [.clip [], .clip [], .clip []] := by kernel_rfl
theorem tfld_80_0 : tfld Try.prog 80 0 = some (0, 1, 48) := by kernel_rfl
theorem place_80_0 : place Try.prog 80 0 = some (0, 1) := by kernel_rfl
theorem tfld_80_1 : tfld Try.prog 80 1 = some (1, 1, 49) := by kernel_rfl
theorem place_80_1 : place Try.prog 80 1 = some (1, 1) := by kernel_rfl
theorem tfld_80_2 : tfld Try.prog 80 2 = some (2, 1, 22) := by kernel_rfl
theorem place_80_2 : place Try.prog 80 2 = some (2, 1) := by kernel_rfl
theorem tbld_80 : tbld Try.prog 80 = true := by kernel_rfl
theorem tsz_81 : tsz Try.prog 81 = some 3 := by kernel_rfl
theorem tag_81 : tag Try.prog 81 = some true := by kernel_rfl
theorem tcon_81 : tcon Try.prog 81 = true := by kernel_rfl
theorem tstr_81 : tstr Try.prog 81 = false := by kernel_rfl
theorem tbool_81 : tbool Try.prog 81 = false := by kernel_rfl
theorem tslc_81 : tslc Try.prog 81 = none := by kernel_rfl
theorem tarr_81 : tarr Try.prog 81 = none := by kernel_rfl
theorem tby_81 : tby Try.prog 81 = some 72 := by kernel_rfl
theorem tzr_81 : tzr Try.prog 81 = some [.clip [], .clip [], .clip []] := by kernel_rfl
theorem tfld_81_0 : tfld Try.prog 81 0 = some (0, 1, 48) := by kernel_rfl
theorem place_81_0 : place Try.prog 81 0 = some (0, 1) := by kernel_rfl
theorem tfld_81_1 : tfld Try.prog 81 1 = some (1, 1, 49) := by kernel_rfl
theorem place_81_1 : place Try.prog 81 1 = some (1, 1) := by kernel_rfl
theorem tfld_81_2 : tfld Try.prog 81 2 = some (2, 1, 22) := by kernel_rfl
theorem place_81_2 : place Try.prog 81 2 = some (2, 1) := by kernel_rfl
theorem tbld_81 : tbld Try.prog 81 = true := by kernel_rfl
theorem tsz_82 : tsz Try.prog 82 = some 1 := by kernel_rfl
theorem tag_82 : tag Try.prog 82 = some false := by kernel_rfl
theorem tcon_82 : tcon Try.prog 82 = true := by kernel_rfl
theorem tstr_82 : tstr Try.prog 82 = false := by kernel_rfl
theorem tbool_82 : tbool Try.prog 82 = false := by kernel_rfl
theorem tslc_82 : tslc Try.prog 82 = none := by kernel_rfl
theorem tarr_82 : tarr Try.prog 82 = none := by kernel_rfl
theorem tby_82 : tby Try.prog 82 = some 8 := by kernel_rfl
theorem tzr_82 : tzr Try.prog 82 = some [.raw .nilFunc] := by kernel_rfl
theorem tsz_83 : tsz Try.prog 83 = some 1 := by kernel_rfl
theorem tag_83 : tag Try.prog 83 = some false := by kernel_rfl
theorem tcon_83 : tcon Try.prog 83 = true := by kernel_rfl
theorem tstr_83 : tstr Try.prog 83 = false := by kernel_rfl
theorem tbool_83 : tbool Try.prog 83 = false := by kernel_rfl
theorem tslc_83 : tslc Try.prog 83 = none := by kernel_rfl
theorem tarr_83 : tarr Try.prog 83 = none := by kernel_rfl
theorem tby_83 : tby Try.prog 83 = some 8 := by kernel_rfl
theorem tzr_83 : tzr Try.prog 83 = some [.raw .nilFunc] := by kernel_rfl
theorem tsz_84 : tsz Try.prog 84 = some 1 := by kernel_rfl
theorem tag_84 : tag Try.prog 84 = some false := by kernel_rfl
theorem tcon_84 : tcon Try.prog 84 = true := by kernel_rfl
theorem tstr_84 : tstr Try.prog 84 = false := by kernel_rfl
theorem tbool_84 : tbool Try.prog 84 = false := by kernel_rfl
theorem tslc_84 : tslc Try.prog 84 = none := by kernel_rfl
theorem tarr_84 : tarr Try.prog 84 = none := by kernel_rfl
theorem tby_84 : tby Try.prog 84 = some 8 := by kernel_rfl
theorem tzr_84 : tzr Try.prog 84 = some [.raw .nilFunc] := by kernel_rfl
theorem tsz_85 : tsz Try.prog 85 = some 1 := by kernel_rfl
theorem tag_85 : tag Try.prog 85 = some false := by kernel_rfl
theorem tcon_85 : tcon Try.prog 85 = true := by kernel_rfl
theorem tstr_85 : tstr Try.prog 85 = false := by kernel_rfl
theorem tbool_85 : tbool Try.prog 85 = false := by kernel_rfl
theorem tslc_85 : tslc Try.prog 85 = none := by kernel_rfl
theorem tarr_85 : tarr Try.prog 85 = none := by kernel_rfl
theorem tby_85 : tby Try.prog 85 = some 8 := by kernel_rfl
theorem tzr_85 : tzr Try.prog 85 = some [.raw (.pointer none)] := by kernel_rfl
theorem tsz_86 : tsz Try.prog 86 = some 2 := by kernel_rfl
theorem tag_86 : tag Try.prog 86 = some true := by kernel_rfl
theorem tcon_86 : tcon Try.prog 86 = true := by kernel_rfl
theorem tstr_86 : tstr Try.prog 86 = false := by kernel_rfl
theorem tbool_86 : tbool Try.prog 86 = false := by kernel_rfl
theorem tslc_86 : tslc Try.prog 86 = none := by kernel_rfl
theorem tarr_86 : tarr Try.prog 86 = none := by kernel_rfl
theorem tby_86 : tby Try.prog 86 = some 48 := by kernel_rfl
theorem tzr_86 : tzr Try.prog 86 = some [.clip [], .clip []] := by kernel_rfl
theorem tfld_86_0 : tfld Try.prog 86 0 = some (0, 1, 48) := by kernel_rfl
theorem place_86_0 : place Try.prog 86 0 = some (0, 1) := by kernel_rfl
theorem tfld_86_1 : tfld Try.prog 86 1 = some (1, 1, 49) := by kernel_rfl
theorem place_86_1 : place Try.prog 86 1 = some (1, 1) := by kernel_rfl
theorem tbld_86 : tbld Try.prog 86 = true := by kernel_rfl
theorem tsz_87 : tsz Try.prog 87 = some 2 := by kernel_rfl
theorem tag_87 : tag Try.prog 87 = some true := by kernel_rfl
theorem tcon_87 : tcon Try.prog 87 = true := by kernel_rfl
theorem tstr_87 : tstr Try.prog 87 = false := by kernel_rfl
theorem tbool_87 : tbool Try.prog 87 = false := by kernel_rfl
theorem tslc_87 : tslc Try.prog 87 = none := by kernel_rfl
theorem tarr_87 : tarr Try.prog 87 = none := by kernel_rfl
theorem tby_87 : tby Try.prog 87 = some 48 := by kernel_rfl
theorem tzr_87 : tzr Try.prog 87 = some [.clip [], .clip []] := by kernel_rfl
theorem tfld_87_0 : tfld Try.prog 87 0 = some (0, 1, 48) := by kernel_rfl
theorem place_87_0 : place Try.prog 87 0 = some (0, 1) := by kernel_rfl
theorem tfld_87_1 : tfld Try.prog 87 1 = some (1, 1, 49) := by kernel_rfl
theorem place_87_1 : place Try.prog 87 1 = some (1, 1) := by kernel_rfl
theorem tbld_87 : tbld Try.prog 87 = true := by kernel_rfl
theorem tsz_88 : tsz Try.prog 88 = some 1 := by kernel_rfl
theorem tag_88 : tag Try.prog 88 = some false := by kernel_rfl
theorem tcon_88 : tcon Try.prog 88 = true := by kernel_rfl
theorem tstr_88 : tstr Try.prog 88 = false := by kernel_rfl
theorem tbool_88 : tbool Try.prog 88 = false := by kernel_rfl
theorem tslc_88 : tslc Try.prog 88 = none := by kernel_rfl
theorem tarr_88 : tarr Try.prog 88 = none := by kernel_rfl
theorem tby_88 : tby Try.prog 88 = some 8 := by kernel_rfl
theorem tzr_88 : tzr Try.prog 88 = some [.raw .nilFunc] := by kernel_rfl
theorem tsz_89 : tsz Try.prog 89 = some 1 := by kernel_rfl
theorem tag_89 : tag Try.prog 89 = some false := by kernel_rfl
theorem tcon_89 : tcon Try.prog 89 = true := by kernel_rfl
theorem tstr_89 : tstr Try.prog 89 = false := by kernel_rfl
theorem tbool_89 : tbool Try.prog 89 = false := by kernel_rfl
theorem tslc_89 : tslc Try.prog 89 = none := by kernel_rfl
theorem tarr_89 : tarr Try.prog 89 = none := by kernel_rfl
theorem tby_89 : tby Try.prog 89 = some 8 := by kernel_rfl
theorem tzr_89 : tzr Try.prog 89 = some [.raw .nilFunc] := by kernel_rfl
theorem tsz_90 : tsz Try.prog 90 = some 1 := by kernel_rfl
theorem tag_90 : tag Try.prog 90 = some false := by kernel_rfl
theorem tcon_90 : tcon Try.prog 90 = true := by kernel_rfl
theorem tstr_90 : tstr Try.prog 90 = false := by kernel_rfl
theorem tbool_90 : tbool Try.prog 90 = false := by kernel_rfl
theorem tslc_90 : tslc Try.prog 90 = none := by kernel_rfl
theorem tarr_90 : tarr Try.prog 90 = none := by kernel_rfl
theorem tby_90 : tby Try.prog 90 = some 8 := by kernel_rfl
theorem tzr_90 : tzr Try.prog 90 = some [.raw .nilFunc] := by kernel_rfl
theorem tsz_91 : tsz Try.prog 91 = some 1 := by kernel_rfl
theorem tag_91 : tag Try.prog 91 = some false := by kernel_rfl
theorem tcon_91 : tcon Try.prog 91 = true := by kernel_rfl
theorem tstr_91 : tstr Try.prog 91 = false := by kernel_rfl
theorem tbool_91 : tbool Try.prog 91 = false := by kernel_rfl
theorem tslc_91 : tslc Try.prog 91 = none := by kernel_rfl
theorem tarr_91 : tarr Try.prog 91 = none := by kernel_rfl
theorem tby_91 : tby Try.prog 91 = some 8 := by kernel_rfl
theorem tzr_91 : tzr Try.prog 91 = some [.raw .nilFunc] := by kernel_rfl
theorem tsz_93 : tsz Try.prog 93 = some 1 := by kernel_rfl
theorem tag_93 : tag Try.prog 93 = some false := by kernel_rfl
theorem tcon_93 : tcon Try.prog 93 = true := by kernel_rfl
theorem tstr_93 : tstr Try.prog 93 = false := by kernel_rfl
theorem tbool_93 : tbool Try.prog 93 = false := by kernel_rfl
theorem tslc_93 : tslc Try.prog 93 = none := by kernel_rfl
theorem tarr_93 : tarr Try.prog 93 = none := by kernel_rfl
theorem tby_93 : tby Try.prog 93 = some 8 := by kernel_rfl
theorem tzr_93 : tzr Try.prog 93 = some [.raw .nilFunc] := by kernel_rfl
theorem tsz_94 : tsz Try.prog 94 = some 1 := by kernel_rfl
theorem tag_94 : tag Try.prog 94 = some false := by kernel_rfl
theorem tcon_94 : tcon Try.prog 94 = true := by kernel_rfl
theorem tstr_94 : tstr Try.prog 94 = false := by kernel_rfl
theorem tbool_94 : tbool Try.prog 94 = false := by kernel_rfl
theorem tslc_94 : tslc Try.prog 94 = none := by kernel_rfl
theorem tarr_94 : tarr Try.prog 94 = none := by kernel_rfl
theorem tby_94 : tby Try.prog 94 = some 8 := by kernel_rfl
theorem tzr_94 : tzr Try.prog 94 = some [.raw .nilFunc] := by kernel_rfl
theorem tsz_95 : tsz Try.prog 95 = some 2 := by kernel_rfl
theorem tag_95 : tag Try.prog 95 = some true := by kernel_rfl
theorem tcon_95 : tcon Try.prog 95 = true := by kernel_rfl
theorem tstr_95 : tstr Try.prog 95 = false := by kernel_rfl
theorem tbool_95 : tbool Try.prog 95 = false := by kernel_rfl
theorem tslc_95 : tslc Try.prog 95 = none := by kernel_rfl
theorem tarr_95 : tarr Try.prog 95 = none := by kernel_rfl
theorem tby_95 : tby Try.prog 95 = some 16 := by kernel_rfl
theorem tzr_95 : tzr Try.prog 95 = some [.d (.int .i64 0), .d (.int .i64 0)] := by kernel_rfl
theorem tfld_95_0 : tfld Try.prog 95 0 = some (0, 1, 3) := by kernel_rfl
theorem place_95_0 : place Try.prog 95 0 = some (0, 1) := by kernel_rfl
theorem tfld_95_1 : tfld Try.prog 95 1 = some (1, 1, 3) := by kernel_rfl
theorem place_95_1 : place Try.prog 95 1 = some (1, 1) := by kernel_rfl
theorem tbld_95 : tbld Try.prog 95 = true := by kernel_rfl
theorem tsz_96 : tsz Try.prog 96 = some 2 := by kernel_rfl
theorem tag_96 : tag Try.prog 96 = some true := by kernel_rfl
theorem tcon_96 : tcon Try.prog 96 = true := by kernel_rfl
theorem tstr_96 : tstr Try.prog 96 = false := by kernel_rfl
theorem tbool_96 : tbool Try.prog 96 = false := by kernel_rfl
theorem tslc_96 : tslc Try.prog 96 = none := by kernel_rfl
theorem tarr_96 : tarr Try.prog 96 = none := by kernel_rfl
theorem tby_96 : tby Try.prog 96 = some 16 := by kernel_rfl
theorem tzr_96 : tzr Try.prog 96 = some [.d (.int .i64 0), .d (.int .i64 0)] := by kernel_rfl
theorem tfld_96_0 : tfld Try.prog 96 0 = some (0, 1, 3) := by kernel_rfl
theorem place_96_0 : place Try.prog 96 0 = some (0, 1) := by kernel_rfl
theorem tfld_96_1 : tfld Try.prog 96 1 = some (1, 1, 3) := by kernel_rfl
theorem place_96_1 : place Try.prog 96 1 = some (1, 1) := by kernel_rfl
theorem tbld_96 : tbld Try.prog 96 = true := by kernel_rfl
theorem tsz_97 : tsz Try.prog 97 = some 1 := by kernel_rfl
theorem tag_97 : tag Try.prog 97 = some false := by kernel_rfl
theorem tcon_97 : tcon Try.prog 97 = true := by kernel_rfl
theorem tstr_97 : tstr Try.prog 97 = false := by kernel_rfl
theorem tbool_97 : tbool Try.prog 97 = false := by kernel_rfl
theorem tslc_97 : tslc Try.prog 97 = none := by kernel_rfl
theorem tarr_97 : tarr Try.prog 97 = none := by kernel_rfl
theorem tby_97 : tby Try.prog 97 = some 8 := by kernel_rfl
theorem tzr_97 : tzr Try.prog 97 = some [.raw .nilFunc] := by kernel_rfl
theorem tsz_98 : tsz Try.prog 98 = some 1 := by kernel_rfl
theorem tag_98 : tag Try.prog 98 = some false := by kernel_rfl
theorem tcon_98 : tcon Try.prog 98 = true := by kernel_rfl
theorem tstr_98 : tstr Try.prog 98 = false := by kernel_rfl
theorem tbool_98 : tbool Try.prog 98 = false := by kernel_rfl
theorem tslc_98 : tslc Try.prog 98 = none := by kernel_rfl
theorem tarr_98 : tarr Try.prog 98 = none := by kernel_rfl
theorem tby_98 : tby Try.prog 98 = some 8 := by kernel_rfl
theorem tzr_98 : tzr Try.prog 98 = some [.raw .nilFunc] := by kernel_rfl
theorem tsz_99 : tsz Try.prog 99 = some 1 := by kernel_rfl
theorem tag_99 : tag Try.prog 99 = some false := by kernel_rfl
theorem tcon_99 : tcon Try.prog 99 = true := by kernel_rfl
theorem tstr_99 : tstr Try.prog 99 = false := by kernel_rfl
theorem tbool_99 : tbool Try.prog 99 = false := by kernel_rfl
theorem tslc_99 : tslc Try.prog 99 = none := by kernel_rfl
theorem tarr_99 : tarr Try.prog 99 = none := by kernel_rfl
theorem tby_99 : tby Try.prog 99 = some 8 := by kernel_rfl
theorem tzr_99 : tzr Try.prog 99 = some [.raw .nilFunc] := by kernel_rfl
theorem tsz_100 : tsz Try.prog 100 = some 1 := by kernel_rfl
theorem tag_100 : tag Try.prog 100 = some false := by kernel_rfl
theorem tcon_100 : tcon Try.prog 100 = true := by kernel_rfl
theorem tstr_100 : tstr Try.prog 100 = false := by kernel_rfl
theorem tbool_100 : tbool Try.prog 100 = false := by kernel_rfl
theorem tslc_100 : tslc Try.prog 100 = none := by kernel_rfl
theorem tarr_100 : tarr Try.prog 100 = none := by kernel_rfl
theorem tby_100 : tby Try.prog 100 = some 8 := by kernel_rfl
theorem tzr_100 : tzr Try.prog 100 = some [.raw .nilFunc] := by kernel_rfl
theorem tsz_101 : tsz Try.prog 101 = some 1 := by kernel_rfl
theorem tag_101 : tag Try.prog 101 = some false := by kernel_rfl
theorem tcon_101 : tcon Try.prog 101 = true := by kernel_rfl
theorem tstr_101 : tstr Try.prog 101 = false := by kernel_rfl
theorem tbool_101 : tbool Try.prog 101 = false := by kernel_rfl
theorem tslc_101 : tslc Try.prog 101 = none := by kernel_rfl
theorem tarr_101 : tarr Try.prog 101 = none := by kernel_rfl
theorem tby_101 : tby Try.prog 101 = some 8 := by kernel_rfl
theorem tzr_101 : tzr Try.prog 101 = some [.raw .nilFunc] := by kernel_rfl
theorem tsz_103 : tsz Try.prog 103 = some 1 := by kernel_rfl
theorem tag_103 : tag Try.prog 103 = some true := by kernel_rfl
theorem tcon_103 : tcon Try.prog 103 = true := by kernel_rfl
theorem tstr_103 : tstr Try.prog 103 = false := by kernel_rfl
theorem tbool_103 : tbool Try.prog 103 = false := by kernel_rfl
theorem tslc_103 : tslc Try.prog 103 = none := by kernel_rfl
theorem tarr_103 : tarr Try.prog 103 = none := by kernel_rfl
theorem tby_103 : tby Try.prog 103 = some 8 := by kernel_rfl
theorem tzr_103 : tzr Try.prog 103 = some [.d (.int .i64 0)] := by kernel_rfl
theorem tfld_103_0 : tfld Try.prog 103 0 = some (0, 1, 3) := by kernel_rfl
theorem place_103_0 : place Try.prog 103 0 = some (0, 1) := by kernel_rfl
theorem tbld_103 : tbld Try.prog 103 = true := by kernel_rfl
theorem tsz_104 : tsz Try.prog 104 = some 1 := by kernel_rfl
theorem tag_104 : tag Try.prog 104 = some true := by kernel_rfl
theorem tcon_104 : tcon Try.prog 104 = true := by kernel_rfl
theorem tstr_104 : tstr Try.prog 104 = false := by kernel_rfl
theorem tbool_104 : tbool Try.prog 104 = false := by kernel_rfl
theorem tslc_104 : tslc Try.prog 104 = none := by kernel_rfl
theorem tarr_104 : tarr Try.prog 104 = none := by kernel_rfl
theorem tby_104 : tby Try.prog 104 = some 8 := by kernel_rfl
theorem tzr_104 : tzr Try.prog 104 = some [.d (.int .i64 0)] := by kernel_rfl
theorem tfld_104_0 : tfld Try.prog 104 0 = some (0, 1, 3) := by kernel_rfl
theorem place_104_0 : place Try.prog 104 0 = some (0, 1) := by kernel_rfl
theorem tbld_104 : tbld Try.prog 104 = true := by kernel_rfl
theorem tsz_105 : tsz Try.prog 105 = some 1 := by kernel_rfl
theorem tag_105 : tag Try.prog 105 = some false := by kernel_rfl
theorem tcon_105 : tcon Try.prog 105 = true := by kernel_rfl
theorem tstr_105 : tstr Try.prog 105 = false := by kernel_rfl
theorem tbool_105 : tbool Try.prog 105 = false := by kernel_rfl
theorem tslc_105 : tslc Try.prog 105 = none := by kernel_rfl
theorem tarr_105 : tarr Try.prog 105 = none := by kernel_rfl
theorem tby_105 : tby Try.prog 105 = some 8 := by kernel_rfl
theorem tzr_105 : tzr Try.prog 105 = some [.raw .nilFunc] := by kernel_rfl
theorem tsz_106 : tsz Try.prog 106 = some 1 := by kernel_rfl
theorem tag_106 : tag Try.prog 106 = some false := by kernel_rfl
theorem tcon_106 : tcon Try.prog 106 = true := by kernel_rfl
theorem tstr_106 : tstr Try.prog 106 = false := by kernel_rfl
theorem tbool_106 : tbool Try.prog 106 = false := by kernel_rfl
theorem tslc_106 : tslc Try.prog 106 = none := by kernel_rfl
theorem tarr_106 : tarr Try.prog 106 = none := by kernel_rfl
theorem tby_106 : tby Try.prog 106 = some 8 := by kernel_rfl
theorem tzr_106 : tzr Try.prog 106 = some [.raw .nilFunc] := by kernel_rfl
theorem tsz_107 : tsz Try.prog 107 = some 1 := by kernel_rfl
theorem tag_107 : tag Try.prog 107 = some false := by kernel_rfl
theorem tcon_107 : tcon Try.prog 107 = true := by kernel_rfl
theorem tstr_107 : tstr Try.prog 107 = false := by kernel_rfl
theorem tbool_107 : tbool Try.prog 107 = false := by kernel_rfl
theorem tslc_107 : tslc Try.prog 107 = none := by kernel_rfl
theorem tarr_107 : tarr Try.prog 107 = none := by kernel_rfl
theorem tby_107 : tby Try.prog 107 = some 8 := by kernel_rfl
theorem tzr_107 : tzr Try.prog 107 = some [.raw .nilFunc] := by kernel_rfl
theorem tsz_108 : tsz Try.prog 108 = some 1 := by kernel_rfl
theorem tag_108 : tag Try.prog 108 = some false := by kernel_rfl
theorem tcon_108 : tcon Try.prog 108 = true := by kernel_rfl
theorem tstr_108 : tstr Try.prog 108 = false := by kernel_rfl
theorem tbool_108 : tbool Try.prog 108 = false := by kernel_rfl
theorem tslc_108 : tslc Try.prog 108 = none := by kernel_rfl
theorem tarr_108 : tarr Try.prog 108 = none := by kernel_rfl
theorem tby_108 : tby Try.prog 108 = some 8 := by kernel_rfl
theorem tzr_108 : tzr Try.prog 108 = some [.raw .nilFunc] := by kernel_rfl
theorem tsz_109 : tsz Try.prog 109 = some 1 := by kernel_rfl
theorem tag_109 : tag Try.prog 109 = some false := by kernel_rfl
theorem tcon_109 : tcon Try.prog 109 = true := by kernel_rfl
theorem tstr_109 : tstr Try.prog 109 = false := by kernel_rfl
theorem tbool_109 : tbool Try.prog 109 = false := by kernel_rfl
theorem tslc_109 : tslc Try.prog 109 = none := by kernel_rfl
theorem tarr_109 : tarr Try.prog 109 = none := by kernel_rfl
theorem tby_109 : tby Try.prog 109 = some 8 := by kernel_rfl
theorem tzr_109 : tzr Try.prog 109 = some [.raw .nilFunc] := by kernel_rfl
theorem tsz_110 : tsz Try.prog 110 = some 1 := by kernel_rfl
theorem tag_110 : tag Try.prog 110 = some false := by kernel_rfl
theorem tcon_110 : tcon Try.prog 110 = true := by kernel_rfl
theorem tstr_110 : tstr Try.prog 110 = false := by kernel_rfl
theorem tbool_110 : tbool Try.prog 110 = false := by kernel_rfl
theorem tslc_110 : tslc Try.prog 110 = none := by kernel_rfl
theorem tarr_110 : tarr Try.prog 110 = none := by kernel_rfl
theorem tby_110 : tby Try.prog 110 = some 8 := by kernel_rfl
theorem tzr_110 : tzr Try.prog 110 = some [.raw .nilFunc] := by kernel_rfl
theorem tsz_111 : tsz Try.prog 111 = some 1 := by kernel_rfl
theorem tag_111 : tag Try.prog 111 = some false := by kernel_rfl
theorem tcon_111 : tcon Try.prog 111 = true := by kernel_rfl
theorem tstr_111 : tstr Try.prog 111 = false := by kernel_rfl
theorem tbool_111 : tbool Try.prog 111 = false := by kernel_rfl
theorem tslc_111 : tslc Try.prog 111 = none := by kernel_rfl
theorem tarr_111 : tarr Try.prog 111 = none := by kernel_rfl
theorem tby_111 : tby Try.prog 111 = some 8 := by kernel_rfl
theorem tzr_111 : tzr Try.prog 111 = some [.raw .nilFunc] := by kernel_rfl
theorem tsz_112 : tsz Try.prog 112 = some 1 := by kernel_rfl
theorem tag_112 : tag Try.prog 112 = some false := by kernel_rfl
theorem tcon_112 : tcon Try.prog 112 = true := by kernel_rfl
theorem tstr_112 : tstr Try.prog 112 = false := by kernel_rfl
theorem tbool_112 : tbool Try.prog 112 = false := by kernel_rfl
theorem tslc_112 : tslc Try.prog 112 = none := by kernel_rfl
theorem tarr_112 : tarr Try.prog 112 = none := by kernel_rfl
theorem tby_112 : tby Try.prog 112 = some 8 := by kernel_rfl
theorem tzr_112 : tzr Try.prog 112 = some [.raw .nilFunc] := by kernel_rfl
theorem tsz_113 : tsz Try.prog 113 = some 1 := by kernel_rfl
theorem tag_113 : tag Try.prog 113 = some false := by kernel_rfl
theorem tcon_113 : tcon Try.prog 113 = true := by kernel_rfl
theorem tstr_113 : tstr Try.prog 113 = false := by kernel_rfl
theorem tbool_113 : tbool Try.prog 113 = false := by kernel_rfl
theorem tslc_113 : tslc Try.prog 113 = none := by kernel_rfl
theorem tarr_113 : tarr Try.prog 113 = none := by kernel_rfl
theorem tby_113 : tby Try.prog 113 = some 8 := by kernel_rfl
theorem tzr_113 : tzr Try.prog 113 = some [.raw .nilFunc] := by kernel_rfl
theorem tsz_114 : tsz Try.prog 114 = some 1 := by kernel_rfl
theorem tag_114 : tag Try.prog 114 = some false := by kernel_rfl
theorem tcon_114 : tcon Try.prog 114 = true := by kernel_rfl
theorem tstr_114 : tstr Try.prog 114 = false := by kernel_rfl
theorem tbool_114 : tbool Try.prog 114 = false := by kernel_rfl
theorem tslc_114 : tslc Try.prog 114 = none := by kernel_rfl
theorem tarr_114 : tarr Try.prog 114 = none := by kernel_rfl
theorem tby_114 : tby Try.prog 114 = some 8 := by kernel_rfl
theorem tzr_114 : tzr Try.prog 114 = some [.raw .nilFunc] := by kernel_rfl
theorem tsz_115 : tsz Try.prog 115 = some 1 := by kernel_rfl
theorem tag_115 : tag Try.prog 115 = some false := by kernel_rfl
theorem tcon_115 : tcon Try.prog 115 = true := by kernel_rfl
theorem tstr_115 : tstr Try.prog 115 = false := by kernel_rfl
theorem tbool_115 : tbool Try.prog 115 = false := by kernel_rfl
theorem tslc_115 : tslc Try.prog 115 = none := by kernel_rfl
theorem tarr_115 : tarr Try.prog 115 = none := by kernel_rfl
theorem tby_115 : tby Try.prog 115 = some 8 := by kernel_rfl
theorem tzr_115 : tzr Try.prog 115 = some [.raw .nilFunc] := by kernel_rfl
theorem tsz_116 : tsz Try.prog 116 = some 7 := by kernel_rfl
theorem tag_116 : tag Try.prog 116 = some true := by kernel_rfl
theorem tcon_116 : tcon Try.prog 116 = true := by kernel_rfl
theorem tstr_116 : tstr Try.prog 116 = false := by kernel_rfl
theorem tbool_116 : tbool Try.prog 116 = false := by kernel_rfl
theorem tslc_116 : tslc Try.prog 116 = none := by kernel_rfl
theorem tarr_116 : tarr Try.prog 116 = some (7, 114) := by kernel_rfl
theorem tby_116 : tby Try.prog 116 = some 56 := by kernel_rfl
theorem tzr_116 : tzr Try.prog 116 = some [.raw .nilFunc, .raw .nilFunc, .raw .nilFunc, .raw .nilFunc, .raw .nilFunc, .raw .nilFunc, .raw .nilFunc] := by kernel_rfl
theorem place_116_0 : place Try.prog 116 0 = some (0, 1) := by kernel_rfl
theorem place_116_1 : place Try.prog 116 1 = some (1, 1) := by kernel_rfl
theorem place_116_2 : place Try.prog 116 2 = some (2, 1) := by kernel_rfl
theorem place_116_3 : place Try.prog 116 3 = some (3, 1) := by kernel_rfl
theorem place_116_4 : place Try.prog 116 4 = some (4, 1) := by kernel_rfl
theorem place_116_5 : place Try.prog 116 5 = some (5, 1) := by kernel_rfl
theorem place_116_6 : place Try.prog 116 6 = some (6, 1) := by kernel_rfl
theorem tbld_116 : tbld Try.prog 116 = true := by kernel_rfl
theorem tsz_117 : tsz Try.prog 117 = some 1 := by kernel_rfl
theorem tag_117 : tag Try.prog 117 = some false := by kernel_rfl
theorem tcon_117 : tcon Try.prog 117 = true := by kernel_rfl
theorem tstr_117 : tstr Try.prog 117 = false := by kernel_rfl
theorem tbool_117 : tbool Try.prog 117 = false := by kernel_rfl
theorem tslc_117 : tslc Try.prog 117 = none := by kernel_rfl
theorem tarr_117 : tarr Try.prog 117 = none := by kernel_rfl
theorem tby_117 : tby Try.prog 117 = some 8 := by kernel_rfl
theorem tzr_117 : tzr Try.prog 117 = some [.raw .nilFunc] := by kernel_rfl
theorem tsz_118 : tsz Try.prog 118 = some 1 := by kernel_rfl
theorem tag_118 : tag Try.prog 118 = some false := by kernel_rfl
theorem tcon_118 : tcon Try.prog 118 = true := by kernel_rfl
theorem tstr_118 : tstr Try.prog 118 = false := by kernel_rfl
theorem tbool_118 : tbool Try.prog 118 = false := by kernel_rfl
theorem tslc_118 : tslc Try.prog 118 = none := by kernel_rfl
theorem tarr_118 : tarr Try.prog 118 = none := by kernel_rfl
theorem tby_118 : tby Try.prog 118 = some 8 := by kernel_rfl
theorem tzr_118 : tzr Try.prog 118 = some [.raw .nilFunc] := by kernel_rfl
theorem tsz_119 : tsz Try.prog 119 = some 1 := by kernel_rfl
theorem tag_119 : tag Try.prog 119 = some false := by kernel_rfl
theorem tcon_119 : tcon Try.prog 119 = true := by kernel_rfl
theorem tstr_119 : tstr Try.prog 119 = false := by kernel_rfl
theorem tbool_119 : tbool Try.prog 119 = false := by kernel_rfl
theorem tslc_119 : tslc Try.prog 119 = none := by kernel_rfl
theorem tarr_119 : tarr Try.prog 119 = none := by kernel_rfl
theorem tby_119 : tby Try.prog 119 = some 8 := by kernel_rfl
theorem tzr_119 : tzr Try.prog 119 = some [.raw .nilFunc] := by kernel_rfl
theorem tsz_120 : tsz Try.prog 120 = some 1 := by kernel_rfl
theorem tag_120 : tag Try.prog 120 = some false := by kernel_rfl
theorem tcon_120 : tcon Try.prog 120 = true := by kernel_rfl
theorem tstr_120 : tstr Try.prog 120 = false := by kernel_rfl
theorem tbool_120 : tbool Try.prog 120 = false := by kernel_rfl
theorem tslc_120 : tslc Try.prog 120 = none := by kernel_rfl
theorem tarr_120 : tarr Try.prog 120 = none := by kernel_rfl
theorem tby_120 : tby Try.prog 120 = some 8 := by kernel_rfl
theorem tzr_120 : tzr Try.prog 120 = some [.raw .nilFunc] := by kernel_rfl
theorem tsz_121 : tsz Try.prog 121 = some 1 := by kernel_rfl
theorem tag_121 : tag Try.prog 121 = some false := by kernel_rfl
theorem tcon_121 : tcon Try.prog 121 = true := by kernel_rfl
theorem tstr_121 : tstr Try.prog 121 = false := by kernel_rfl
theorem tbool_121 : tbool Try.prog 121 = false := by kernel_rfl
theorem tslc_121 : tslc Try.prog 121 = none := by kernel_rfl
theorem tarr_121 : tarr Try.prog 121 = none := by kernel_rfl
theorem tby_121 : tby Try.prog 121 = some 8 := by kernel_rfl
theorem tzr_121 : tzr Try.prog 121 = some [.raw .nilFunc] := by kernel_rfl
theorem tsz_122 : tsz Try.prog 122 = some 1 := by kernel_rfl
theorem tag_122 : tag Try.prog 122 = some false := by kernel_rfl
theorem tcon_122 : tcon Try.prog 122 = true := by kernel_rfl
theorem tstr_122 : tstr Try.prog 122 = false := by kernel_rfl
theorem tbool_122 : tbool Try.prog 122 = false := by kernel_rfl
theorem tslc_122 : tslc Try.prog 122 = none := by kernel_rfl
theorem tarr_122 : tarr Try.prog 122 = none := by kernel_rfl
theorem tby_122 : tby Try.prog 122 = some 8 := by kernel_rfl
theorem tzr_122 : tzr Try.prog 122 = some [.raw .nilFunc] := by kernel_rfl
theorem tsz_123 : tsz Try.prog 123 = some 1 := by kernel_rfl
theorem tag_123 : tag Try.prog 123 = some false := by kernel_rfl
theorem tcon_123 : tcon Try.prog 123 = true := by kernel_rfl
theorem tstr_123 : tstr Try.prog 123 = false := by kernel_rfl
theorem tbool_123 : tbool Try.prog 123 = false := by kernel_rfl
theorem tslc_123 : tslc Try.prog 123 = none := by kernel_rfl
theorem tarr_123 : tarr Try.prog 123 = none := by kernel_rfl
theorem tby_123 : tby Try.prog 123 = some 8 := by kernel_rfl
theorem tzr_123 : tzr Try.prog 123 = some [.raw .nilFunc] := by kernel_rfl
theorem tsz_124 : tsz Try.prog 124 = some 1 := by kernel_rfl
theorem tag_124 : tag Try.prog 124 = some false := by kernel_rfl
theorem tcon_124 : tcon Try.prog 124 = true := by kernel_rfl
theorem tstr_124 : tstr Try.prog 124 = false := by kernel_rfl
theorem tbool_124 : tbool Try.prog 124 = false := by kernel_rfl
theorem tslc_124 : tslc Try.prog 124 = none := by kernel_rfl
theorem tarr_124 : tarr Try.prog 124 = none := by kernel_rfl
theorem tby_124 : tby Try.prog 124 = some 8 := by kernel_rfl
theorem tzr_124 : tzr Try.prog 124 = some [.raw .nilFunc] := by kernel_rfl
theorem tsz_127 : tsz Try.prog 127 = some 1 := by kernel_rfl
theorem tag_127 : tag Try.prog 127 = some false := by kernel_rfl
theorem tcon_127 : tcon Try.prog 127 = true := by kernel_rfl
theorem tstr_127 : tstr Try.prog 127 = false := by kernel_rfl
theorem tbool_127 : tbool Try.prog 127 = false := by kernel_rfl
theorem tslc_127 : tslc Try.prog 127 = none := by kernel_rfl
theorem tarr_127 : tarr Try.prog 127 = none := by kernel_rfl
theorem tby_127 : tby Try.prog 127 = some 8 := by kernel_rfl
theorem tzr_127 : tzr Try.prog 127 = some [.raw .nilFunc] := by kernel_rfl
theorem tsz_128 : tsz Try.prog 128 = some 1 := by kernel_rfl
theorem tag_128 : tag Try.prog 128 = some false := by kernel_rfl
theorem tcon_128 : tcon Try.prog 128 = true := by kernel_rfl
theorem tstr_128 : tstr Try.prog 128 = false := by kernel_rfl
theorem tbool_128 : tbool Try.prog 128 = false := by kernel_rfl
theorem tslc_128 : tslc Try.prog 128 = none := by kernel_rfl
theorem tarr_128 : tarr Try.prog 128 = none := by kernel_rfl
theorem tby_128 : tby Try.prog 128 = some 8 := by kernel_rfl
theorem tzr_128 : tzr Try.prog 128 = some [.raw .nilFunc] := by kernel_rfl
theorem tsz_129 : tsz Try.prog 129 = some 1 := by kernel_rfl
theorem tag_129 : tag Try.prog 129 = some false := by kernel_rfl
theorem tcon_129 : tcon Try.prog 129 = true := by kernel_rfl
theorem tstr_129 : tstr Try.prog 129 = false := by kernel_rfl
theorem tbool_129 : tbool Try.prog 129 = false := by kernel_rfl
theorem tslc_129 : tslc Try.prog 129 = none := by kernel_rfl
theorem tarr_129 : tarr Try.prog 129 = none := by kernel_rfl
theorem tby_129 : tby Try.prog 129 = some 8 := by kernel_rfl
theorem tzr_129 : tzr Try.prog 129 = some [.raw .nilFunc] := by kernel_rfl
theorem tsz_130 : tsz Try.prog 130 = some 1 := by kernel_rfl
theorem tag_130 : tag Try.prog 130 = some false := by kernel_rfl
theorem tcon_130 : tcon Try.prog 130 = true := by kernel_rfl
theorem tstr_130 : tstr Try.prog 130 = false := by kernel_rfl
theorem tbool_130 : tbool Try.prog 130 = false := by kernel_rfl
theorem tslc_130 : tslc Try.prog 130 = none := by kernel_rfl
theorem tarr_130 : tarr Try.prog 130 = none := by kernel_rfl
theorem tby_130 : tby Try.prog 130 = some 8 := by kernel_rfl
theorem tzr_130 : tzr Try.prog 130 = some [.raw (.pointer none)] := by kernel_rfl
theorem tsz_131 : tsz Try.prog 131 = some 2 := by kernel_rfl
theorem tag_131 : tag Try.prog 131 = some true := by kernel_rfl
theorem tcon_131 : tcon Try.prog 131 = true := by kernel_rfl
theorem tstr_131 : tstr Try.prog 131 = false := by kernel_rfl
theorem tbool_131 : tbool Try.prog 131 = false := by kernel_rfl
theorem tslc_131 : tslc Try.prog 131 = none := by kernel_rfl
theorem tarr_131 : tarr Try.prog 131 = none := by kernel_rfl
theorem tby_131 : tby Try.prog 131 = some 16 := by kernel_rfl
theorem tzr_131 : tzr Try.prog 131 = some [.d (.int .i64 0), .d (.int .i64 0)] := by kernel_rfl
theorem tfld_131_0 : tfld Try.prog 131 0 = some (0, 1, 3) := by kernel_rfl
theorem place_131_0 : place Try.prog 131 0 = some (0, 1) := by kernel_rfl
theorem tfld_131_1 : tfld Try.prog 131 1 = some (1, 1, 29) := by kernel_rfl
theorem place_131_1 : place Try.prog 131 1 = some (1, 1) := by kernel_rfl
theorem tbld_131 : tbld Try.prog 131 = true := by kernel_rfl
theorem tsz_132 : tsz Try.prog 132 = some 2 := by kernel_rfl
theorem tag_132 : tag Try.prog 132 = some true := by kernel_rfl
theorem tcon_132 : tcon Try.prog 132 = true := by kernel_rfl
theorem tstr_132 : tstr Try.prog 132 = false := by kernel_rfl
theorem tbool_132 : tbool Try.prog 132 = false := by kernel_rfl
theorem tslc_132 : tslc Try.prog 132 = none := by kernel_rfl
theorem tarr_132 : tarr Try.prog 132 = none := by kernel_rfl
theorem tby_132 : tby Try.prog 132 = some 16 := by kernel_rfl
theorem tzr_132 : tzr Try.prog 132 = some [.d (.int .i64 0), .d (.int .i64 0)] := by kernel_rfl
theorem tfld_132_0 : tfld Try.prog 132 0 = some (0, 1, 3) := by kernel_rfl
theorem place_132_0 : place Try.prog 132 0 = some (0, 1) := by kernel_rfl
theorem tfld_132_1 : tfld Try.prog 132 1 = some (1, 1, 29) := by kernel_rfl
theorem place_132_1 : place Try.prog 132 1 = some (1, 1) := by kernel_rfl
theorem tbld_132 : tbld Try.prog 132 = true := by kernel_rfl
theorem tsz_133 : tsz Try.prog 133 = some 1 := by kernel_rfl
theorem tag_133 : tag Try.prog 133 = some false := by kernel_rfl
theorem tcon_133 : tcon Try.prog 133 = true := by kernel_rfl
theorem tstr_133 : tstr Try.prog 133 = false := by kernel_rfl
theorem tbool_133 : tbool Try.prog 133 = false := by kernel_rfl
theorem tslc_133 : tslc Try.prog 133 = none := by kernel_rfl
theorem tarr_133 : tarr Try.prog 133 = none := by kernel_rfl
theorem tby_133 : tby Try.prog 133 = some 8 := by kernel_rfl
theorem tzr_133 : tzr Try.prog 133 = some [.raw .nilFunc] := by kernel_rfl
theorem tsz_134 : tsz Try.prog 134 = some 1 := by kernel_rfl
theorem tag_134 : tag Try.prog 134 = some false := by kernel_rfl
theorem tcon_134 : tcon Try.prog 134 = true := by kernel_rfl
theorem tstr_134 : tstr Try.prog 134 = false := by kernel_rfl
theorem tbool_134 : tbool Try.prog 134 = false := by kernel_rfl
theorem tslc_134 : tslc Try.prog 134 = none := by kernel_rfl
theorem tarr_134 : tarr Try.prog 134 = none := by kernel_rfl
theorem tby_134 : tby Try.prog 134 = some 8 := by kernel_rfl
theorem tzr_134 : tzr Try.prog 134 = some [.raw .nilFunc] := by kernel_rfl
theorem tsz_135 : tsz Try.prog 135 = some 1 := by kernel_rfl
theorem tag_135 : tag Try.prog 135 = some false := by kernel_rfl
theorem tcon_135 : tcon Try.prog 135 = true := by kernel_rfl
theorem tstr_135 : tstr Try.prog 135 = false := by kernel_rfl
theorem tbool_135 : tbool Try.prog 135 = false := by kernel_rfl
theorem tslc_135 : tslc Try.prog 135 = none := by kernel_rfl
theorem tarr_135 : tarr Try.prog 135 = none := by kernel_rfl
theorem tby_135 : tby Try.prog 135 = some 8 := by kernel_rfl
theorem tzr_135 : tzr Try.prog 135 = some [.raw .nilFunc] := by kernel_rfl
theorem tsz_137 : tsz Try.prog 137 = some 1 := by kernel_rfl
theorem tag_137 : tag Try.prog 137 = some false := by kernel_rfl
theorem tcon_137 : tcon Try.prog 137 = true := by kernel_rfl
theorem tstr_137 : tstr Try.prog 137 = false := by kernel_rfl
theorem tbool_137 : tbool Try.prog 137 = false := by kernel_rfl
theorem tslc_137 : tslc Try.prog 137 = none := by kernel_rfl
theorem tarr_137 : tarr Try.prog 137 = none := by kernel_rfl
theorem tby_137 : tby Try.prog 137 = some 8 := by kernel_rfl
theorem tzr_137 : tzr Try.prog 137 = some [.raw .nilFunc] := by kernel_rfl
theorem tsz_138 : tsz Try.prog 138 = some 1 := by kernel_rfl
theorem tag_138 : tag Try.prog 138 = some false := by kernel_rfl
theorem tcon_138 : tcon Try.prog 138 = true := by kernel_rfl
theorem tstr_138 : tstr Try.prog 138 = false := by kernel_rfl
theorem tbool_138 : tbool Try.prog 138 = false := by kernel_rfl
theorem tslc_138 : tslc Try.prog 138 = none := by kernel_rfl
theorem tarr_138 : tarr Try.prog 138 = none := by kernel_rfl
theorem tby_138 : tby Try.prog 138 = some 8 := by kernel_rfl
theorem tzr_138 : tzr Try.prog 138 = some [.raw .nilFunc] := by kernel_rfl
theorem tsz_139 : tsz Try.prog 139 = some 1 := by kernel_rfl
theorem tag_139 : tag Try.prog 139 = some false := by kernel_rfl
theorem tcon_139 : tcon Try.prog 139 = true := by kernel_rfl
theorem tstr_139 : tstr Try.prog 139 = false := by kernel_rfl
theorem tbool_139 : tbool Try.prog 139 = false := by kernel_rfl
theorem tslc_139 : tslc Try.prog 139 = some 22 := by kernel_rfl
theorem tarr_139 : tarr Try.prog 139 = none := by kernel_rfl
theorem tby_139 : tby Try.prog 139 = some 24 := by kernel_rfl
theorem tzr_139 : tzr Try.prog 139 = some [.clip []] := by kernel_rfl
theorem tsz_140 : tsz Try.prog 140 = some 1 := by kernel_rfl
theorem tag_140 : tag Try.prog 140 = some false := by kernel_rfl
theorem tcon_140 : tcon Try.prog 140 = true := by kernel_rfl
theorem tstr_140 : tstr Try.prog 140 = false := by kernel_rfl
theorem tbool_140 : tbool Try.prog 140 = false := by kernel_rfl
theorem tslc_140 : tslc Try.prog 140 = none := by kernel_rfl
theorem tarr_140 : tarr Try.prog 140 = none := by kernel_rfl
theorem tby_140 : tby Try.prog 140 = some 8 := by kernel_rfl
theorem tzr_140 : tzr Try.prog 140 = some [.raw .nilFunc] := by kernel_rfl
theorem tsz_141 : tsz Try.prog 141 = some 1 := by kernel_rfl
theorem tag_141 : tag Try.prog 141 = some false := by kernel_rfl
theorem tcon_141 : tcon Try.prog 141 = true := by kernel_rfl
theorem tstr_141 : tstr Try.prog 141 = false := by kernel_rfl
theorem tbool_141 : tbool Try.prog 141 = false := by kernel_rfl
theorem tslc_141 : tslc Try.prog 141 = none := by kernel_rfl
theorem tarr_141 : tarr Try.prog 141 = none := by kernel_rfl
theorem tby_141 : tby Try.prog 141 = some 8 := by kernel_rfl
theorem tzr_141 : tzr Try.prog 141 = some [.raw .nilFunc] := by kernel_rfl
theorem tsz_142 : tsz Try.prog 142 = some 1 := by kernel_rfl
theorem tag_142 : tag Try.prog 142 = some false := by kernel_rfl
theorem tcon_142 : tcon Try.prog 142 = true := by kernel_rfl
theorem tstr_142 : tstr Try.prog 142 = false := by kernel_rfl
theorem tbool_142 : tbool Try.prog 142 = false := by kernel_rfl
theorem tslc_142 : tslc Try.prog 142 = none := by kernel_rfl
theorem tarr_142 : tarr Try.prog 142 = none := by kernel_rfl
theorem tby_142 : tby Try.prog 142 = some 8 := by kernel_rfl
theorem tzr_142 : tzr Try.prog 142 = some [.raw .nilFunc] := by kernel_rfl
theorem tsz_143 : tsz Try.prog 143 = some 1 := by kernel_rfl
theorem tag_143 : tag Try.prog 143 = some false := by kernel_rfl
theorem tcon_143 : tcon Try.prog 143 = true := by kernel_rfl
theorem tstr_143 : tstr Try.prog 143 = false := by kernel_rfl
theorem tbool_143 : tbool Try.prog 143 = false := by kernel_rfl
theorem tslc_143 : tslc Try.prog 143 = none := by kernel_rfl
theorem tarr_143 : tarr Try.prog 143 = none := by kernel_rfl
theorem tby_143 : tby Try.prog 143 = some 8 := by kernel_rfl
theorem tzr_143 : tzr Try.prog 143 = some [.raw .nilFunc] := by kernel_rfl
theorem tsz_144 : tsz Try.prog 144 = some 1 := by kernel_rfl
theorem tag_144 : tag Try.prog 144 = some false := by kernel_rfl
theorem tcon_144 : tcon Try.prog 144 = true := by kernel_rfl
theorem tstr_144 : tstr Try.prog 144 = false := by kernel_rfl
theorem tbool_144 : tbool Try.prog 144 = false := by kernel_rfl
theorem tslc_144 : tslc Try.prog 144 = none := by kernel_rfl
theorem tarr_144 : tarr Try.prog 144 = none := by kernel_rfl
theorem tby_144 : tby Try.prog 144 = some 8 := by kernel_rfl
theorem tzr_144 : tzr Try.prog 144 = some [.raw .nilFunc] := by kernel_rfl
theorem tsz_150 : tsz Try.prog 150 = some 1 := by kernel_rfl
theorem tag_150 : tag Try.prog 150 = some false := by kernel_rfl
theorem tcon_150 : tcon Try.prog 150 = true := by kernel_rfl
theorem tstr_150 : tstr Try.prog 150 = false := by kernel_rfl
theorem tbool_150 : tbool Try.prog 150 = false := by kernel_rfl
theorem tslc_150 : tslc Try.prog 150 = none := by kernel_rfl
theorem tarr_150 : tarr Try.prog 150 = none := by kernel_rfl
theorem tby_150 : tby Try.prog 150 = some 8 := by kernel_rfl
theorem tzr_150 : tzr Try.prog 150 = some [.raw .nilFunc] := by kernel_rfl
theorem tsz_151 : tsz Try.prog 151 = some 1 := by kernel_rfl
theorem tag_151 : tag Try.prog 151 = some false := by kernel_rfl
theorem tcon_151 : tcon Try.prog 151 = true := by kernel_rfl
theorem tstr_151 : tstr Try.prog 151 = false := by kernel_rfl
theorem tbool_151 : tbool Try.prog 151 = false := by kernel_rfl
theorem tslc_151 : tslc Try.prog 151 = none := by kernel_rfl
theorem tarr_151 : tarr Try.prog 151 = none := by kernel_rfl
theorem tby_151 : tby Try.prog 151 = some 4 := by kernel_rfl
theorem tzr_151 : tzr Try.prog 151 = some [.d (.int .u32 0)] := by kernel_rfl
theorem tsz_154 : tsz Try.prog 154 = some 1 := by kernel_rfl
theorem tag_154 : tag Try.prog 154 = some false := by kernel_rfl
theorem tcon_154 : tcon Try.prog 154 = true := by kernel_rfl
theorem tstr_154 : tstr Try.prog 154 = false := by kernel_rfl
theorem tbool_154 : tbool Try.prog 154 = false := by kernel_rfl
theorem tslc_154 : tslc Try.prog 154 = none := by kernel_rfl
theorem tarr_154 : tarr Try.prog 154 = none := by kernel_rfl
theorem tby_154 : tby Try.prog 154 = some 8 := by kernel_rfl
theorem tzr_154 : tzr Try.prog 154 = some [.raw .nilFunc] := by kernel_rfl
theorem tsz_155 : tsz Try.prog 155 = some 1 := by kernel_rfl
theorem tag_155 : tag Try.prog 155 = some false := by kernel_rfl
theorem tcon_155 : tcon Try.prog 155 = true := by kernel_rfl
theorem tstr_155 : tstr Try.prog 155 = false := by kernel_rfl
theorem tbool_155 : tbool Try.prog 155 = false := by kernel_rfl
theorem tslc_155 : tslc Try.prog 155 = none := by kernel_rfl
theorem tarr_155 : tarr Try.prog 155 = none := by kernel_rfl
theorem tby_155 : tby Try.prog 155 = some 8 := by kernel_rfl
theorem tzr_155 : tzr Try.prog 155 = some [.raw (.pointer none)] := by kernel_rfl
def escT : Nat → List Nat
  | 23 => [4, 5]
  | 27 => [4, 5]
  | 30 => [4, 5]
  | 35 => [2, 3]
  | 39 => [25]
  | 41 => [22]
  | 43 => [22]
  | 50 => [3]
  | 51 => [3, 4]
  | 57 => [3, 4, 5, 8]
  | 64 => [2, 3, 7]
  | 69 => [5]
  | 79 => [3, 4, 5]
  | 81 => [1]
  | 86 => [24]
  | 133 => [1]
  | 134 => [1]
  | _ => []
def clrT' : Nat → Nat → List Nat
  | 3, 0 => [0, 8]
  | 3, 1 => [16]
  | 3, 2 => [17, 18]
  | 3, 3 => [19, 20]
  | 3, 4 => [21, 22]
  | 3, 5 => [10, 11, 12, 23, 24, 25, 26, 27, 28, 29, 30, 31, 32, 33, 34, 35, 36, 37, 38, 39, 40, 41, 42, 43, 44, 45, 46, 47, 48, 49, 50, 51, 52, 53, 54, 55, 56, 57, 58, 59, 60, 61, 62, 63, 64, 65, 66]
  | 3, 6 => [1, 2, 3, 4, 9, 67, 68]
  | 3, 7 => [9, 67]
  | 3, 8 => [69, 70, 71]
  | 3, 10 => [72, 75, 76, 77, 78, 79, 80, 81, 82, 83, 84, 85, 86, 87, 88]
  | 3, 11 => [1, 2, 3, 4, 13, 89]
  | 3, 9 => [73, 74, 89]
  | 3, 12 => [1, 4, 13, 72, 90, 91, 92, 93, 94, 95, 96]
  | 3, 13 => [2, 3, 14, 15, 97, 98, 99, 100, 101, 102, 103, 104, 105]
  | 4, 0 => [0, 10]
  | 4, 1 => [30]
  | 4, 2 => [31, 32]
  | 4, 3 => [33, 34]
  | 4, 4 => [35, 36]
  | 4, 5 => [12, 13, 14, 37, 38, 39, 40, 41, 42, 43, 44, 45, 46, 47, 48, 49, 50, 51, 52, 53, 54]
  | 4, 6 => [1, 2, 3, 4, 5, 11, 55, 56]
  | 4, 7 => [11, 55, 57, 58, 59, 60, 61, 62, 63]
  | 4, 8 => [5, 64, 65, 66, 67, 68, 69, 70]
  | 4, 9 => [15, 17, 71, 72, 73]
  | 4, 10 => [74, 75, 76, 77, 78, 79, 80]
  | 4, 11 => [2, 81, 82, 83, 84, 85, 86, 87]
  | 4, 12 => [20, 22, 88, 89, 90]
  | 4, 13 => [91, 92, 93, 94, 95, 96, 97]
  | 4, 14 => [1, 3, 4, 98, 99, 100, 101, 102, 103, 104]
  | 4, 15 => [25, 27, 105, 106, 107]
  | 4, 16 => [16, 18, 19, 21, 23, 24, 26, 28, 29, 108, 109, 110, 111, 112, 113, 114, 115, 116, 117, 118, 119, 120, 121, 122, 123, 124, 125, 126, 127, 128, 129]
  | 5, 0 => [0, 6]
  | 5, 1 => [16]
  | 5, 2 => [17, 18]
  | 5, 3 => [19, 20]
  | 5, 4 => [8, 9, 21, 22, 23, 24, 25, 26, 27, 28, 29, 30, 31, 32, 33, 34, 35, 36, 37, 38, 39, 40, 41, 42]
  | 5, 5 => [1, 2, 3, 7, 43, 44]
  | 5, 6 => [7, 43]
  | 5, 7 => [45, 46, 47]
  | 5, 9 => [48, 51, 52, 53, 54, 55]
  | 5, 10 => [1, 2, 3, 10, 56]
  | 5, 8 => [49, 50, 56]
  | 5, 11 => [10, 48, 57, 58]
  | 5, 12 => [1, 59, 60, 61, 62, 63, 64, 65]
  | 5, 13 => [2, 14, 66, 67, 68, 69, 70, 71]
  | 5, 14 => [3, 11, 12, 13, 15, 72, 73, 74, 75, 76, 77, 78, 79, 80, 81, 82, 83, 84, 85, 86, 87]
  | 6, 0 => [0, 6]
  | 6, 1 => [23]
  | 6, 2 => [24, 25]
  | 6, 3 => [26, 27]
  | 6, 4 => [28, 29]
  | 6, 5 => [30, 31]
  | 6, 6 => [8, 9, 10, 11, 32, 33, 34, 35, 36, 37, 38, 39, 40, 41, 42, 43, 44, 45, 46, 47, 48, 49, 50, 51, 52, 53]
  | 6, 7 => [1, 2, 3, 7, 54, 55]
  | 6, 8 => [7, 54]
  | 6, 9 => [56, 57, 58]
  | 6, 11 => [59, 62, 63, 64, 65, 66]
  | 6, 12 => [13, 67, 68, 69, 70, 71, 72, 73, 74, 75]
  | 6, 13 => [1, 2, 3, 12, 76]
  | 6, 10 => [60, 61, 76]
  | 6, 14 => [12, 59]
  | 6, 15 => [77, 78, 79]
  | 6, 17 => [80, 83, 84, 85, 86, 87]
  | 6, 18 => [1, 2, 3, 14, 88]
  | 6, 16 => [81, 82, 88]
  | 6, 19 => [14, 80, 89, 90, 91, 92, 93, 94]
  | 6, 20 => [15, 95, 96, 97, 98, 99, 100]
  | 6, 21 => [1, 2, 101, 102, 103, 104, 105, 106, 107, 108, 109]
  | 6, 22 => [3, 19, 110, 111, 112, 113, 114, 115]
  | 6, 23 => [16, 17, 18, 20, 21, 22, 116, 117, 118, 119, 120, 121, 122, 123, 124, 125, 126, 127, 128, 129, 130, 131, 132, 133, 134]
  | 7, 0 => [0, 6]
  | 7, 1 => [19]
  | 7, 2 => [20, 21]
  | 7, 3 => [22, 23]
  | 7, 4 => [8, 9, 24, 25, 26, 27, 28, 29, 30, 31, 32, 33, 34, 35, 36, 37, 38, 39, 40, 41, 42, 43, 44, 45]
  | 7, 5 => [1, 2, 3, 7, 46, 47]
  | 7, 6 => [7, 46, 48, 49, 50, 51, 52, 53, 54, 55, 56, 57, 58]
  | 7, 7 => [10, 11, 59, 60, 61, 62, 63, 64, 65]
  | 7, 8 => [1, 2, 3, 66]
  | 7, 9 => [66]
  | 7, 10 => [67, 68, 69]
  | 7, 12 => [70, 73, 74, 75, 76, 77]
  | 7, 13 => [13, 78, 79, 80, 81, 82, 83, 84, 85, 86, 87, 88, 89, 90]
  | 7, 14 => [1, 2, 3, 12, 91]
  | 7, 11 => [71, 72, 91]
  | 7, 15 => [12, 70, 92, 93]
  | 7, 16 => [94, 95]
  | 7, 17 => [1, 2, 3, 14, 96]
  | 7, 18 => [14, 96, 97, 98, 99, 100, 101, 102, 103, 104]
  | 7, 19 => [1, 2, 3, 105, 106, 107, 108, 109, 110, 111, 112]
  | 7, 20 => [15, 16, 17, 18, 113, 114, 115, 116, 117, 118, 119, 120]
  | 8, 0 => [8]
  | 8, 1 => [19]
  | 8, 2 => [20, 21]
  | 8, 3 => [22, 23]
  | 8, 4 => [10, 11, 24, 25, 26, 27, 28, 29, 30, 31, 32, 33, 34, 35, 36, 37, 38, 39, 40, 41, 42, 43, 44, 45, 46, 47, 48, 49, 50]
  | 8, 5 => [0, 1, 2, 3, 9, 51, 52]
  | 8, 6 => [9, 51, 53, 54, 55, 56, 57, 58, 59]
  | 8, 7 => [60, 61, 62, 63, 64, 65, 66, 67, 68]
  | 8, 8 => [1, 2, 69, 70, 71, 72, 73, 74, 75, 76, 77, 78, 79, 80]
  | 8, 9 => [13, 81]
  | 8, 10 => [0, 3, 12, 14, 15, 16, 17, 82, 83, 84, 85]
  | 8, 11 => [0, 15, 16, 17, 82, 86, 87, 88, 89, 90, 91, 92, 93, 94, 95, 96, 97, 98, 99, 100, 101, 102, 103, 104, 105, 106, 107, 108, 109, 110, 111, 112]
  | 8, 12 => [3, 12, 14, 113]
  | 8, 13 => [113]
  | 8, 14 => [114, 115]
  | 8, 16 => [116, 119, 120, 121, 122, 123, 124, 125, 126, 127]
  | 8, 17 => [3, 12, 14, 18, 128]
  | 8, 15 => [117, 118, 128]
  | 8, 18 => [3, 12, 14, 18, 116, 129, 130, 131, 132, 133, 134]
  | 9, 0 => [3, 4, 10]
  | 9, 1 => [15]
  | 9, 2 => [16, 17, 18, 19]
  | 9, 3 => [20, 21]
  | 9, 4 => [22, 23]
  | 9, 5 => [12, 13, 14, 24, 25, 26, 27, 28, 29, 30, 31, 32, 33, 34, 35, 36]
  | 9, 6 => [0, 1, 2, 8, 9, 11, 37, 38]
  | 9, 7 => [0, 1, 2, 8, 9, 11, 37, 39, 40, 41, 42, 43, 44, 45, 46, 47, 48, 49, 50, 51]
  | 10, 0 => [2, 3, 4, 10]
  | 10, 1 => [19]
  | 10, 2 => [20, 21, 22]
  | 10, 3 => [23, 24]
  | 10, 4 => [25, 26]
  | 10, 5 => [27, 28]
  | 10, 6 => [12, 13, 14, 15, 29, 30, 31, 32, 33, 34, 35, 36, 37, 38, 39, 40, 41, 42, 43, 44, 45, 46, 47, 48, 49, 50, 51, 52, 53, 54, 55, 56, 57, 58, 59, 60]
  | 10, 7 => [0, 1, 7, 8, 9, 11, 61, 62]
  | 10, 8 => [11, 61, 63, 64, 65]
  | 10, 9 => [66, 67, 68, 69]
  | 10, 10 => [70, 71, 72, 73, 74]
  | 10, 11 => [0, 1, 7, 8, 9, 16, 17, 18, 75, 76, 77, 78, 79, 80, 81, 82, 83, 84, 85, 86, 87, 88, 89, 90, 91, 92, 93, 94, 95, 96, 97, 98]
  | 11, 0 => [5, 6, 14]
  | 11, 1 => [23]
  | 11, 2 => [24, 25, 26, 27]
  | 11, 3 => [28, 29, 30]
  | 11, 4 => [31, 32]
  | 11, 5 => [33, 34]
  | 11, 6 => [16, 17, 18, 19, 35, 36, 37, 38, 39, 40, 41, 42, 43, 44, 45, 46, 47, 48, 49, 50, 51, 52, 53, 54, 55, 56, 57, 58, 59, 60]
  | 11, 7 => [0, 1, 2, 3, 4, 12, 13, 15, 61, 62]
  | 11, 8 => [0, 1, 15, 61, 63, 64, 65, 66]
  | 11, 9 => [2, 3, 67, 68, 69, 70]
  | 11, 10 => [4, 12, 13, 20, 21, 71, 72, 73, 74, 75, 76]
  | 11, 11 => [22, 77, 78, 79, 80, 81, 82]
  | 12, 0 => [3, 4, 5, 12]
  | 12, 1 => [19]
  | 12, 2 => [20, 21, 22, 23]
  | 12, 3 => [24, 25]
  | 12, 4 => [26, 27]
  | 12, 5 => [28, 29]
  | 12, 6 => [14, 15, 16, 17, 30, 31, 32, 33, 34, 35, 36, 37, 38, 39, 40, 41, 42, 43, 44, 45, 46, 47, 48, 49, 50, 51, 52, 53, 54, 55]
  | 12, 7 => [0, 1, 2, 9, 10, 11, 13, 56, 57]
  | 12, 8 => [0, 13, 56, 58, 59, 60, 61, 62, 63, 64, 65, 66, 67, 68, 69, 70, 71, 72, 73, 74]
  | 12, 9 => [1, 2, 9, 10, 11, 18, 75, 76, 77, 78, 79, 80, 81, 82, 83, 84, 85, 86, 87, 88, 89]
  | 13, 0 => [3, 4, 12]
  | 13, 1 => [17]
  | 13, 2 => [18, 19, 20, 21]
  | 13, 3 => [22, 23]
  | 13, 4 => [24, 25]
  | 13, 5 => [14, 15, 16, 26, 27, 28, 29, 30, 31, 32, 33, 34, 35, 36, 37, 38, 39, 40, 41, 42, 43, 44, 45, 46, 47, 48, 49, 50, 51, 52, 53, 54, 55]
  | 13, 6 => [0, 1, 2, 5, 9, 10, 13, 56, 57]
  | 13, 7 => [0, 1, 2, 5, 9, 10, 13, 56, 58, 59, 60, 61, 62, 63, 64, 65, 66, 67, 68, 69]
  | 14, 0 => [3, 8]
  | 14, 1 => [12]
  | 14, 2 => [13, 14, 15, 16]
  | 14, 3 => [17, 18]
  | 14, 4 => [10, 11, 19, 20, 21, 22, 23, 24, 25, 26, 27]
  | 14, 5 => [0, 1, 2, 7, 9, 28, 29]
  | 14, 6 => [0, 1, 2, 7, 9, 28, 30, 31, 32, 33, 34, 35, 36, 37, 38, 39, 40, 41, 42, 43, 44, 45, 46, 47, 48, 49, 50, 51, 52, 53]
  | 15, 0 => [3, 4, 10]
  | 15, 1 => [19]
  | 15, 2 => [20, 21, 22]
  | 15, 3 => [23, 24]
  | 15, 4 => [25, 26]
  | 15, 5 => [27, 28]
  | 15, 6 => [29, 30]
  | 15, 7 => [12, 13, 14, 15, 16, 31, 32, 33, 34, 35, 36, 37, 38, 39, 40, 41, 42, 43, 44, 45, 46, 47, 48, 49, 50, 51, 52, 53, 54, 55, 56, 57, 58, 59]
  | 15, 8 => [0, 1, 2, 8, 9, 11, 60, 61]
  | 15, 9 => [11, 60]
  | 15, 10 => [62, 63, 64]
  | 15, 12 => [65, 68, 69, 70, 71, 72]
  | 15, 13 => [0, 1, 2, 8, 9, 17, 73]
  | 15, 11 => [66, 67, 73]
  | 15, 14 => [17, 65, 74, 75, 76, 77]
  | 15, 15 => [18, 78, 79, 80, 81, 82]
  | 15, 16 => [0, 1, 2, 8, 9, 83]
  | 15, 17 => [83, 84, 85]
  | 15, 18 => [0, 1, 2, 8, 9, 86]
  | 15, 19 => [1, 2, 86, 87, 88, 89, 90, 91, 92, 93]
  | 15, 20 => [0, 8, 9, 18, 94, 95, 96, 97, 98, 99, 100, 101]
  | 16, 0 => [2, 3, 4, 10]
  | 16, 1 => [23]
  | 16, 2 => [24, 25, 26]
  | 16, 3 => [27, 28]
  | 16, 4 => [29, 30]
  | 16, 5 => [31, 32]
  | 16, 6 => [12, 13, 14, 15, 33, 34, 35, 36, 37, 38, 39, 40, 41, 42, 43, 44, 45, 46, 47, 48, 49, 50, 51, 52, 53, 54]
  | 16, 7 => [0, 1, 7, 8, 9, 11, 55, 56]
  | 16, 8 => [11, 55, 57, 58, 59]
  | 16, 9 => [60, 61, 62]
  | 16, 10 => [16, 63, 64, 65, 66, 67, 68, 69, 70, 71, 72, 73, 74, 75, 76, 77, 78, 79, 80, 81, 82, 83, 84, 85, 86, 87, 88, 89, 90, 91]
  | 16, 11 => [0, 1, 7, 8, 9, 17, 92]
  | 16, 12 => [7, 92, 93, 94, 95, 96, 97, 98, 99, 100]
  | 16, 13 => [8, 9, 101, 102, 103, 104, 105, 106, 107, 108]
  | 16, 14 => [109, 110, 111, 112, 113]
  | 16, 15 => [0, 1, 17, 18, 19, 20, 21, 114, 115, 116, 117, 118, 119, 120]
  | 16, 16 => [0, 1, 17, 18, 19, 20, 21, 114, 121, 122, 123, 124, 125, 126, 127]
  | 16, 17 => [22, 128, 129, 130, 131, 132, 133, 134, 135, 136, 137]
  | 17, 0 => [2, 3, 8]
  | 17, 1 => [17]
  | 17, 2 => [18, 19, 20]
  | 17, 3 => [21, 22]
  | 17, 4 => [23, 24]
  | 17, 5 => [10, 11, 12, 25, 26, 27, 28, 29, 30, 31, 32, 33, 34, 35, 36, 37, 38, 39, 40, 41, 42, 43, 44, 45, 46, 47]
  | 17, 6 => [0, 1, 6, 7, 9, 48, 49]
  | 17, 7 => [9, 48, 50, 51, 52, 53]
  | 17, 8 => [54, 55, 56, 57, 58]
  | 17, 9 => [13, 59, 60, 61, 62, 63]
  | 17, 10 => [7, 14, 64, 65, 66, 67, 68, 69, 70, 71, 72, 73, 74, 75]
  | 17, 11 => [0, 1, 6, 15, 16, 76, 77, 78, 79, 80, 81, 82, 83, 84, 85, 86, 87, 88, 89, 90, 91, 92]
  | 18, 0 => [0]
  | 18, 1 => [5, 6, 7]
  | 18, 2 => [8, 9, 10]
  | 18, 3 => [1, 2, 11, 12, 13, 14, 15, 16, 17]
  | 18, 4 => [3, 4, 18, 19, 20, 21, 22, 23, 24, 25, 26, 27, 28, 29, 30, 31, 32, 33, 34, 35, 36, 37, 38]
  | 19, 0 => [0, 6]
  | 19, 1 => [8, 9]
  | 19, 2 => [1, 2, 3, 7, 10, 11, 12, 13, 14, 15, 16, 17, 18, 19, 20, 21, 22]
  | 20, 0 => [6]
  | 20, 1 => [9, 10]
  | 20, 2 => [0, 1, 2, 11]
  | 20, 3 => [11]
  | 20, 4 => [12, 13, 14]
  | 20, 6 => [15, 18, 19, 20, 21, 22, 23, 24]
  | 20, 7 => [8, 25]
  | 20, 8 => [0, 1, 2, 7, 26]
  | 20, 5 => [16, 17, 26]
  | 20, 9 => [0, 1, 2, 7, 15]
  | 21, 0 => [0, 2]
  | 21, 1 => [5, 6, 7, 8, 9, 10, 11, 12]
  | 21, 2 => [1, 13]
  | 21, 3 => [13]
  | 21, 4 => [14, 15, 16, 17]
  | 21, 6 => [18, 21, 22, 23, 24, 25, 26]
  | 21, 7 => [4, 27]
  | 21, 8 => [1, 3, 28]
  | 21, 5 => [19, 20, 28]
  | 21, 9 => [1, 3, 18]
  | 22, 0 => [0, 2]
  | 22, 1 => [1, 3, 4, 5, 6, 7, 8, 9, 10, 11, 12, 13, 14]
  | 23, 0 => [0, 1, 2, 6]
  | 23, 1 => [3, 4, 5, 7, 8, 9]
  | 24, 0 => [0, 7]
  | 24, 1 => [10, 11, 12, 13, 14, 15, 16, 17, 18, 19, 20, 21, 22, 23, 24, 25, 26, 27]
  | 24, 2 => [1, 2, 3, 28, 29]
  | 24, 3 => [1, 2, 3, 28, 30, 31, 32, 33, 34, 35, 36]
  | 24, 4 => [38, 39]
  | 24, 5 => [8, 9, 37, 40, 41]
  | 24, 6 => [9, 37, 43, 44]
  | 24, 7 => [8, 42, 45]
  | 24, 8 => [8, 42, 46]
  | 25, 0 => [0, 7]
  | 25, 1 => [14, 15]
  | 25, 2 => [8, 16, 17, 18, 19, 20, 21, 22, 23, 24, 25, 26, 27, 28, 29]
  | 25, 3 => [1, 2, 3, 30, 31]
  | 25, 4 => [30]
  | 25, 5 => [32, 33, 34]
  | 25, 7 => [35, 38, 39, 40, 41, 42]
  | 25, 8 => [10, 43]
  | 25, 9 => [1, 2, 3, 9, 44, 45]
  | 25, 6 => [36, 37, 44]
  | 25, 10 => [1, 2, 3, 9, 35, 46, 47, 48, 49, 50, 51, 52]
  | 25, 11 => [53]
  | 25, 12 => [11, 12, 54, 55, 56]
  | 25, 13 => [12, 54, 57, 58]
  | 25, 14 => [13, 59]
  | 25, 15 => [11, 60, 61]
  | 25, 16 => [11, 60, 62]
  | 26, 0 => [0, 1, 4]
  | 26, 1 => [7, 8, 9, 10, 11, 12, 13, 14, 15, 16, 17, 18, 19, 20, 21, 22, 23, 24, 25, 26]
  | 26, 2 => [2, 3, 27]
  | 26, 3 => [27]
  | 26, 4 => [28, 29, 30, 31]
  | 26, 6 => [32, 35, 36, 37, 38, 39, 40, 41, 42, 43, 44, 45]
  | 26, 7 => [6, 46]
  | 26, 8 => [2, 3, 5, 47]
  | 26, 5 => [33, 34, 47]
  | 26, 9 => [2, 3, 5, 32]
  | 27, 0 => [1, 2, 6, 7]
  | 27, 1 => [0, 4, 5, 8, 9, 10, 11, 12]
  | 28, 0 => [6, 7]
  | 28, 3 => [12, 13, 14]
  | 28, 5 => [15, 18, 19, 20, 21, 22, 23, 24, 25, 26, 27, 28, 29]
  | 28, 6 => [30]
  | 28, 7 => [0, 1, 2, 8, 9, 10, 11, 31, 32]
  | 28, 8 => [10, 11, 31, 33, 34, 35, 36]
  | 28, 4 => [16, 17]
  | 28, 9 => [0, 1, 2, 8, 9, 15, 37]
  | 29, 0 => [4]
  | 29, 1 => [7, 8, 9, 10]
  | 29, 2 => [0, 1, 11]
  | 29, 3 => [11]
  | 29, 4 => [12, 13, 14]
  | 29, 6 => [15, 18, 19, 20, 21, 22, 23, 24, 25, 26]
  | 29, 7 => [6, 27]
  | 29, 8 => [0, 1, 5, 28]
  | 29, 5 => [16, 17, 28]
  | 29, 9 => [0, 1, 5, 15]
  | 30, 0 => [1, 2, 6, 7]
  | 30, 1 => [8, 9, 10, 11]
  | 30, 2 => [0, 4, 5, 12]
  | 30, 3 => [0, 4, 5, 12, 13, 14, 15, 16, 17]
  | 31, 0 => [6, 7]
  | 31, 1 => [12, 13, 14, 15]
  | 31, 2 => [0, 1, 2, 16]
  | 31, 3 => [16]
  | 31, 5 => [17, 18, 19]
  | 31, 7 => [20, 23, 24, 25, 26, 27, 28, 29, 30, 31, 32, 33, 34, 35]
  | 31, 8 => [36]
  | 31, 9 => [0, 1, 2, 8, 9, 10, 11, 37, 38]
  | 31, 10 => [10, 11, 37, 39, 40, 41, 42]
  | 31, 6 => [21, 22]
  | 31, 11 => [0, 1, 2, 8, 9, 20, 43]
  | 32, 0 => [0, 2]
  | 32, 1 => [5, 6]
  | 32, 2 => [1, 7]
  | 32, 3 => [7]
  | 32, 4 => [8, 9, 10, 11]
  | 32, 6 => [12, 15, 16, 17, 18, 19, 20]
  | 32, 7 => [4]
  | 32, 8 => [1, 3, 21]
  | 32, 5 => [13, 14, 21]
  | 32, 9 => [1, 3, 12]
  | 33, 0 => [0, 1, 4]
  | 33, 1 => [7, 8, 9, 10, 11, 12, 13, 14, 15, 16, 17, 18, 19, 20, 21, 22, 23, 24, 25, 26]
  | 33, 2 => [2, 3, 27]
  | 33, 3 => [2, 27, 28]
  | 33, 5 => [32, 33, 34, 35]
  | 33, 6 => [5, 6, 36, 37, 38, 39, 40, 41, 42]
  | 33, 7 => [3, 29, 30, 31, 43]
  | 33, 8 => [43, 44]
  | 33, 9 => [3, 29, 30, 31, 32]
  | 34, 1 => [5, 6, 7]
  | 34, 2 => [8, 9]
  | 34, 5 => [12, 13]
  | 34, 6 => [4, 14, 15, 16, 17, 18, 19, 20, 21, 22, 23]
  | 34, 7 => [24]
  | 34, 8 => [0, 3, 10, 11, 12, 25]
  | 35, 0 => [0, 1, 5]
  | 35, 1 => [6, 7, 8, 9, 10, 11, 12]
  | 35, 2 => [2, 3, 13, 14]
  | 35, 3 => [2, 3, 13, 15, 16, 17, 18]
  | 36, 0 => [0]
  | 36, 1 => [8]
  | 36, 2 => [9, 10, 11]
  | 36, 3 => [12, 13, 14]
  | 36, 4 => [15, 16, 17, 18, 19, 20]
  | 36, 5 => [21, 22, 23, 24]
  | 36, 6 => [3, 25, 26, 27, 28, 29, 30, 31]
  | 36, 7 => [2, 32, 33, 34, 35]
  | 36, 8 => [1, 4, 5, 6, 7, 36, 37, 38, 39, 40, 41, 42, 43, 44, 45, 46, 47, 48, 49, 50, 51, 52, 53, 54, 55]
  | 37, 0 => [6]
  | 37, 1 => [0, 12, 13]
  | 37, 2 => [7, 14, 15, 16, 17, 18, 19]
  | 37, 3 => [1, 2, 20]
  | 37, 4 => [20]
  | 37, 5 => [21, 22, 23]
  | 37, 7 => [24, 27, 28, 29, 30, 31, 32]
  | 37, 8 => [33, 34, 35, 36, 37, 38]
  | 37, 9 => [9, 10, 39, 40, 41, 42, 43]
  | 37, 10 => [1, 2, 8, 44]
  | 37, 6 => [25, 26, 44]
  | 37, 11 => [1, 2, 8, 24, 45, 46]
  | 37, 12 => [11, 47]
  | 38, 0 => [3, 4, 10]
  | 38, 1 => [0, 1, 2, 12, 13, 14, 15]
  | 38, 2 => [16, 17, 18, 19, 20]
  | 38, 3 => [8, 9, 11, 21]
  | 38, 4 => [8, 9, 11, 21, 22, 23, 24, 25]
  | 39, 0 => [3, 4, 10]
  | 39, 1 => [13, 14, 15, 16, 17, 18, 19]
  | 39, 2 => [11, 20]
  | 39, 3 => [0, 1, 2, 8, 9, 21]
  | 39, 4 => [0, 1, 21, 22, 23, 24]
  | 39, 5 => [2, 8, 9, 12, 25, 26, 27, 28, 29, 30]
  | 40, 0 => [3, 8]
  | 40, 1 => [0, 1, 2, 10, 11, 12, 13]
  | 40, 2 => [14, 15, 16, 17]
  | 40, 3 => [7, 9, 18]
  | 40, 4 => [7, 9, 18, 19, 20, 21]
  | 41, 0 => [3, 8]
  | 41, 1 => [11, 12, 13, 14, 15, 16]
  | 41, 2 => [9, 17]
  | 41, 3 => [0, 1, 2, 7, 18]
  | 41, 4 => [0, 1, 18, 19, 20, 21]
  | 41, 5 => [2, 7, 10, 22, 23, 24, 25, 26]
  | 42, 0 => [3, 8]
  | 42, 1 => [0, 1, 2, 10, 11, 12, 13]
  | 42, 2 => [14, 15, 16, 17]
  | 42, 3 => [7, 9, 18]
  | 42, 4 => [7, 9, 18, 19, 20, 21]
  | 43, 0 => [3, 8]
  | 43, 1 => [11, 12, 13, 14, 15, 16]
  | 43, 2 => [9, 17]
  | 43, 3 => [0, 1, 2, 7, 18]
  | 43, 4 => [0, 1, 18, 19, 20, 21]
  | 43, 5 => [2, 7, 10, 22, 23, 24, 25, 26]
  | 44, 0 => [4]
  | 44, 2 => [7, 8, 9]
  | 44, 4 => [10, 13, 14, 15, 16, 17, 18, 19, 20, 21, 22, 23, 24, 25, 26, 27, 28, 29, 30, 31, 32, 33]
  | 44, 5 => [0, 1, 5, 34]
  | 44, 3 => [11, 12, 34]
  | 44, 6 => [5, 10]
  | 44, 7 => [35, 36, 37]
  | 44, 9 => [38, 41, 42, 43, 44, 45, 46, 47, 48, 49]
  | 44, 10 => [0, 1, 6, 50]
  | 44, 8 => [39, 40, 50]
  | 44, 11 => [0, 1, 6, 38]
  | 45, 0 => [0]
  | 45, 1 => [9, 10, 11, 12]
  | 45, 2 => [1, 2, 3, 13, 14, 15]
  | 45, 3 => [1, 2, 3, 8, 13, 16, 17, 18, 19, 20, 21, 22, 23, 24]
  | 45, 4 => [7, 25]
  | 46, 0 => [0, 2]
  | 46, 1 => [5, 6]
  | 46, 2 => [1, 7]
  | 46, 3 => [7]
  | 46, 4 => [8, 9, 10, 11]
  | 46, 6 => [12, 15, 16, 17, 18, 19, 20]
  | 46, 7 => [4, 21]
  | 46, 8 => [1, 3, 22]
  | 46, 5 => [13, 14, 22]
  | 46, 9 => [1, 3, 12]
  | 47, 0 => [0, 2]
  | 47, 3 => [5, 6, 7, 8]
  | 47, 5 => [9, 12, 13, 14, 15, 16, 17, 18, 19]
  | 47, 4 => [10, 11]
  | 47, 6 => [1, 3, 4, 9, 20]
  | 48, 0 => [0, 2]
  | 48, 3 => [6, 7, 8, 9]
  | 48, 5 => [10, 13, 14, 15, 16, 17, 18]
  | 48, 6 => [19, 20]
  | 48, 7 => [5, 21, 22]
  | 48, 4 => [5, 11, 12, 21]
  | 48, 8 => [1, 3, 4, 10, 23, 24]
  | 49, 0 => [0, 2]
  | 49, 2 => [1, 6]
  | 49, 4 => [10, 11, 12]
  | 49, 5 => [5, 13, 14, 15, 16]
  | 49, 6 => [17]
  | 49, 7 => [3, 7, 8, 9, 10, 18, 19]
  | 50, 0 => [0]
  | 50, 2 => [1, 4]
  | 50, 3 => [2, 3, 5, 6, 7, 8, 9]
  | 50, 4 => [3, 5, 10]
  | 51, 0 => [0, 1]
  | 51, 1 => [2, 7]
  | 51, 2 => [8, 9]
  | 51, 3 => [10]
  | 51, 4 => [3, 5, 6, 11, 12, 13, 14]
  | 51, 5 => [15]
  | 51, 6 => [3, 8]
  | 52, 0 => [0, 1, 4]
  | 52, 1 => [3, 5, 6]
  | 53, 0 => [0, 2]
  | 53, 1 => [3]
  | 53, 2 => [6]
  | 53, 3 => [1, 4, 5, 7, 8, 9, 10, 11, 12, 13, 14, 15]
  | 53, 4 => [5, 17]
  | 53, 5 => [1, 4, 16, 18, 19, 20, 21, 22, 23, 24, 25, 26]
  | 53, 6 => [4, 16, 28]
  | 53, 7 => [1, 27, 29, 30, 31, 32, 33, 34, 35, 36, 37]
  | 53, 8 => [1, 27, 38, 39, 40, 41, 42, 43, 44, 45, 46, 47, 48, 49, 50]
  | 54, 0 => [1, 6]
  | 54, 1 => [0, 2, 3, 5, 7, 8, 9, 10, 11, 12, 13, 14, 15, 16, 17, 18, 19, 20, 21, 22, 23, 24, 25, 26, 27, 28]
  | 55, 0 => [0, 2]
  | 55, 1 => [1, 3, 4, 5]
  | 56, 0 => [4]
  | 56, 1 => [0, 1, 5, 6, 7, 8]
  | 57, 0 => [0, 1, 2, 7]
  | 57, 1 => [11, 12, 13, 14, 15, 16, 17, 18]
  | 57, 2 => [8, 19, 20, 21, 22, 23, 24, 25]
  | 57, 3 => [27, 28]
  | 57, 4 => [3, 4, 5, 9, 10, 26, 29, 30]
  | 57, 5 => [10, 26, 32, 33, 34]
  | 57, 6 => [3, 4, 5, 9, 31, 35, 36, 37, 38, 39, 40]
  | 57, 7 => [31, 42, 43, 44, 45, 46]
  | 57, 8 => [3, 4, 5, 9, 41, 47]
  | 57, 9 => [41, 49, 50]
  | 57, 10 => [3, 4, 5, 9, 48, 51]
  | 57, 11 => [3, 4, 5, 9, 48, 52, 53, 54, 55, 56, 57, 58, 59, 60, 61, 62]
  | 58, 0 => [0, 2]
  | 58, 1 => [4, 5]
  | 58, 2 => [1, 3, 6, 7, 8, 9, 10, 11, 12, 13, 14, 15, 16]
  | 59, 0 => [0, 7]
  | 59, 1 => [17]
  | 59, 4 => [18, 19, 20, 21]
  | 59, 6 => [22, 25, 26, 27, 28, 29, 30, 31, 32, 33, 34, 35, 36, 37, 38, 39]
  | 59, 7 => [40]
  | 59, 8 => [1, 2, 3, 8, 9, 10, 11, 12, 41, 42, 43]
  | 59, 9 => [11, 12, 41, 44, 45, 46, 47]
  | 59, 5 => [23, 24]
  | 59, 10 => [10, 22, 48, 49]
  | 59, 11 => [1, 2, 3, 8, 9, 50, 51, 52, 53, 54, 55, 56]
  | 59, 12 => [50, 57, 58, 59, 60]
  | 59, 13 => [1, 2, 3, 8, 9, 61, 62]
  | 59, 14 => [61]
  | 59, 15 => [63, 64, 65]
  | 59, 17 => [66, 69, 70, 71, 72, 73]
  | 59, 18 => [14, 74]
  | 59, 19 => [1, 2, 3, 8, 9, 13, 75, 76]
  | 59, 16 => [67, 68, 75]
  | 59, 20 => [1, 2, 3, 8, 9, 13, 66, 77, 78, 79, 80, 81, 82, 83, 84, 85, 86, 87, 88]
  | 59, 21 => [15, 16, 89, 90]
  | 60, 0 => [4, 5]
  | 60, 2 => [0]
  | 60, 4 => [14, 15, 16, 17]
  | 60, 5 => [7, 8, 18, 19, 20, 21, 22, 23, 24]
  | 60, 6 => [25]
  | 60, 7 => [1, 6, 9, 10, 11, 12, 13, 26, 27]
  | 60, 8 => [9, 10, 26, 28, 29, 30, 31]
  | 60, 9 => [32]
  | 60, 10 => [1, 6, 11, 12, 13, 14, 33]
  | 61, 0 => [1, 7]
  | 61, 1 => [0, 2, 3, 5, 8, 9, 10, 11, 12, 13, 14, 15]
  | 62, 0 => [1, 7]
  | 62, 1 => [0, 2, 3, 5, 8, 9, 10, 11, 12, 13, 14, 15, 16]
  | 63, 0 => [0, 2]
  | 63, 2 => [1, 3, 4, 5, 6, 7, 8, 9, 10, 11, 12, 13, 14, 15, 16, 17, 18, 19, 20, 21, 22, 23, 24]
  | 64, 1 => [4]
  | 64, 2 => [0, 5, 6, 7, 8]
  | 64, 3 => [9, 10]
  | 64, 4 => [11, 12]
  | 64, 5 => [11, 13]
  | 65, 1 => [0, 1, 2, 5, 6, 7, 8]
  | 66, 0 => [1, 2]
  | 66, 1 => [11, 12, 13, 14, 15, 16, 17]
  | 66, 2 => [18, 19, 20, 21]
  | 66, 3 => [22, 23]
  | 66, 4 => [22, 24, 25, 26, 27, 28]
  | 66, 5 => [29]
  | 66, 7 => [33, 34, 35, 36]
  | 66, 8 => [37]
  | 66, 9 => [8, 38, 39, 40, 41, 42, 43, 44, 45, 46, 47, 48, 49, 50, 51, 52]
  | 66, 10 => [53, 54, 55]
  | 66, 11 => [9, 10, 53, 56, 57, 58, 59, 60, 61, 62, 63, 64]
  | 66, 12 => [65]
  | 66, 13 => [30, 31, 32, 33, 66, 67]
  | 66, 14 => [0, 4, 5, 7, 68, 69]
  | 66, 15 => [0, 4, 5, 7, 68, 70, 71, 72, 73, 74, 75, 76, 77]
  | 67, 0 => [0]
  | 67, 1 => [2]
  | 67, 2 => [1, 3, 4, 5, 6, 7, 8, 9, 10, 11]
  | 68, 0 => [2]
  | 68, 1 => [5, 6]
  | 68, 2 => [0, 7]
  | 68, 3 => [7]
  | 68, 4 => [8, 9, 10]
  | 68, 6 => [11, 14, 15, 16, 17, 18, 19]
  | 68, 7 => [4, 20]
  | 68, 8 => [0, 3, 21]
  | 68, 5 => [12, 13, 21]
  | 68, 9 => [0, 3, 11]
  | 69, 0 => [0, 4]
  | 69, 2 => [1, 7, 8, 9, 10, 11, 12, 13, 14, 15, 16, 17, 18, 19, 20]
  | 69, 3 => [2, 5, 21]
  | 69, 4 => [21, 22]
  | 69, 5 => [2, 5, 6, 23, 24, 25, 26, 27, 28, 29, 30, 31, 32, 33, 34]
  | 70, 0 => [0, 1, 2, 6]
  | 70, 1 => [11, 12, 13, 14, 15, 16, 17, 18]
  | 70, 2 => [3, 4, 5, 10, 19, 20, 21, 22, 23, 24, 25, 26, 27, 28, 29, 30, 31, 32, 33]
  | 70, 3 => [10, 35, 36, 37, 38, 39, 40, 41, 42]
  | 70, 4 => [3, 4, 5, 34]
  | 70, 5 => [34, 43]
  | 70, 6 => [3, 4, 7, 44, 45, 46, 47, 48, 49, 50, 51, 52, 53]
  | 70, 7 => [5, 8, 54, 55, 56, 57, 58, 59, 60]
  | 70, 8 => [61]
  | 70, 9 => [9, 61, 62]
  | 71, 0 => [8]
  | 71, 1 => [16, 17]
  | 71, 2 => [0, 1, 2, 3, 18]
  | 71, 3 => [18]
  | 71, 4 => [19, 20, 21]
  | 71, 6 => [22, 25, 26, 27, 28, 29, 30]
  | 71, 7 => [10, 31]
  | 71, 8 => [0, 1, 2, 3, 9, 32]
  | 71, 5 => [23, 24, 32]
  | 71, 9 => [0, 9, 22]
  | 71, 10 => [33, 34, 35]
  | 71, 12 => [36, 39, 40, 41, 42, 43, 44]
  | 71, 13 => [45, 46, 47, 48, 49, 50]
  | 71, 14 => [12, 13, 51, 52, 53, 54, 55]
  | 71, 15 => [1, 2, 3, 11, 56]
  | 71, 11 => [37, 38, 56]
  | 71, 16 => [1, 2, 11, 36, 57, 58]
  | 71, 17 => [3, 59, 60]
  | 71, 18 => [14, 15, 61, 62, 63, 64]
  | 72, 0 => [2, 3, 8]
  | 72, 1 => [12, 13]
  | 72, 2 => [14, 15, 16]
  | 72, 3 => [0, 1, 6, 7, 17]
  | 72, 4 => [0, 1, 6, 7, 17, 18, 19, 20, 21, 22, 23, 24, 25, 26, 27, 28, 29, 30, 31, 32, 33]
  | 72, 5 => [14, 34, 35]
  | 72, 6 => [0, 1, 6, 7, 36]
  | 72, 7 => [0, 1, 6, 36, 37, 38, 39, 40, 41, 42, 43]
  | 72, 8 => [44]
  | 72, 9 => [7, 9, 10, 45, 46]
  | 72, 10 => [7, 9, 10, 45, 47, 48, 49]
  | 72, 11 => [11, 50]
  | 72, 12 => [51]
  | 72, 13 => [51]
  | 73, 0 => [0, 1, 4]
  | 73, 1 => [7]
  | 73, 2 => [10]
  | 73, 3 => [2, 3, 8, 9, 11, 12, 13]
  | 73, 4 => [8, 9, 15]
  | 73, 5 => [14, 16, 17, 18, 19, 20, 21, 22]
  | 73, 6 => [23]
  | 73, 7 => [2, 3, 24, 25, 26, 27, 28, 29, 30, 31, 32]
  | 73, 8 => [2, 3, 5, 24, 33, 34, 35, 36, 37, 38]
  | 73, 9 => [39]
  | 73, 10 => [6, 39, 40]
  | 73, 11 => [2, 3, 14]
  | 74, 0 => [2, 6]
  | 74, 1 => [11, 12]
  | 74, 2 => [13, 14, 15, 16, 17, 18, 19, 20]
  | 74, 3 => [21]
  | 74, 4 => [0, 1, 5, 7, 22, 23]
  | 74, 5 => [0, 1, 5, 7, 22, 24, 25, 26, 27, 28, 29, 30, 31, 32, 33, 34, 35]
  | 74, 6 => [13, 36, 37]
  | 74, 7 => [0, 1, 5, 38]
  | 74, 8 => [38, 39, 40, 41, 42, 43, 44, 45]
  | 74, 9 => [0, 1, 5, 46]
  | 74, 10 => [46, 47, 48, 49, 50, 51, 52, 53, 54, 55, 56]
  | 74, 11 => [8, 57]
  | 74, 12 => [0, 1, 5, 58]
  | 74, 13 => [0, 1, 5, 58, 59, 60, 61, 62, 63, 64, 65, 66, 67, 68, 69, 70, 71, 72, 73, 74, 75]
  | 74, 14 => [76]
  | 74, 15 => [9, 10, 77, 78]
  | 74, 16 => [9, 10, 77, 79, 80]
  | 74, 17 => [81]
  | 74, 18 => [81]
  | 75, 0 => [0, 1, 4]
  | 75, 1 => [5]
  | 75, 2 => [8]
  | 75, 3 => [2, 3, 6, 7]
  | 75, 4 => [6, 7, 10]
  | 75, 5 => [2, 3, 9, 11, 12, 13]
  | 75, 6 => [2, 3, 9]
  | 76, 0 => [2, 6]
  | 76, 1 => [8, 9]
  | 76, 2 => [0, 1, 5, 10]
  | 76, 3 => [10, 11, 12]
  | 76, 4 => [0, 1, 5, 13]
  | 76, 5 => [13, 14, 15, 16, 17, 18, 19, 20]
  | 76, 6 => [21]
  | 76, 7 => [0, 1, 5, 7, 22, 23]
  | 76, 8 => [0, 1, 5, 7, 22, 24, 25, 26, 27, 28, 29, 30, 31, 32, 33, 34, 35]
  | 77, 0 => [0, 6]
  | 77, 1 => [1, 2, 3, 7, 8, 9, 10, 11, 12, 13, 14, 15, 16, 17, 18, 19, 20, 21, 22, 23, 24]
  | 78, 0 => [0]
  | 78, 2 => [6]
  | 78, 4 => [10, 11, 12]
  | 78, 5 => [5, 13, 14, 15, 16, 17]
  | 78, 6 => [18]
  | 78, 7 => [1, 3, 7, 8, 9, 10, 19, 20, 21, 22, 23, 24]
  | 79, 0 => [0, 1, 2, 7]
  | 79, 1 => [11, 12]
  | 79, 2 => [13, 14]
  | 79, 3 => [15, 16, 17, 18, 19, 20, 21, 22, 23]
  | 79, 4 => [9, 15, 24]
  | 79, 5 => [3, 4, 5, 8, 25, 26]
  | 79, 6 => [4, 5, 25, 27, 28, 29, 30, 31, 32, 33]
  | 79, 7 => [9, 34]
  | 79, 8 => [3, 8, 10, 35, 36]
  | 79, 9 => [3, 8, 10, 35, 37, 38, 39, 40, 41]
  | 80, 0 => [0, 6, 7]
  | 80, 1 => [2, 8, 9, 10, 11, 12]
  | 80, 2 => [1, 3, 13, 14, 15, 16, 17]
  | 80, 3 => [1, 3, 13, 18]
  | 81, 0 => [0, 2]
  | 81, 1 => [1, 3]
  | 82, 0 => [4]
  | 82, 1 => [6]
  | 82, 3 => [9, 10]
  | 82, 4 => [11, 12, 13, 14, 15]
  | 82, 5 => [0, 1, 5, 7, 8, 16, 17]
  | 82, 6 => [5, 16, 18]
  | 82, 7 => [0, 1, 7, 8, 9]
  | 83, 0 => [1, 9]
  | 83, 1 => [0, 2, 3, 10, 11, 12, 13, 14, 15, 16, 17]
  | 83, 2 => [4, 5, 7, 18, 19, 20, 21, 22, 23, 24, 25]
  | 83, 3 => [4, 5, 7, 18, 26, 27, 28, 29, 30, 31]
  | 84, 0 => [0, 2]
  | 84, 1 => [5]
  | 84, 3 => [8]
  | 84, 4 => [6, 7, 9, 10, 11, 12, 13, 14, 15, 16]
  | 84, 5 => [1, 17]
  | 84, 6 => [7, 19]
  | 84, 7 => [6, 18, 20, 21, 22, 23, 24, 25, 26, 27]
  | 84, 8 => [1, 28]
  | 84, 9 => [18, 30]
  | 84, 10 => [6, 29, 31, 32, 33, 34, 35, 36, 37, 38]
  | 84, 11 => [1, 39]
  | 84, 12 => [29, 41]
  | 84, 13 => [42]
  | 84, 14 => [43]
  | 84, 15 => [6, 44]
  | 84, 16 => [6, 40, 45, 46]
  | 84, 17 => [1, 47]
  | 84, 2 => [1, 6, 40]
  | 84, 18 => [17, 28, 39, 47]
  | 84, 19 => [48, 49, 50, 51]
  | 84, 21 => [52, 55, 56, 57, 58, 59, 60]
  | 84, 22 => [4, 61]
  | 84, 23 => [1, 3, 62]
  | 84, 20 => [53, 54, 62]
  | 84, 24 => [1, 3, 52]
  | 85, 0 => [0, 4]
  | 85, 1 => [1, 2, 5, 6, 7, 8, 9, 10, 11, 12, 13, 14, 15, 16, 17, 18, 19]
  | 85, 2 => [20]
  | 85, 3 => [20]
  | 86, 0 => [0, 1, 5]
  | 86, 1 => [12, 13]
  | 86, 2 => [14, 15]
  | 86, 3 => [6, 7, 16, 17, 18, 19, 20]
  | 86, 4 => [2, 3, 21, 22]
  | 86, 5 => [21, 23]
  | 86, 6 => [2, 3, 25, 26, 27, 28]
  | 86, 7 => [8, 9, 24, 29, 30, 31, 32, 33, 34]
  | 86, 8 => [10, 11, 35, 36]
  | 87, 0 => [0, 2]
  | 87, 1 => [1, 3, 4, 5]
  | 88, 0 => [5]
  | 88, 1 => [6, 7, 8, 9, 10]
  | 88, 2 => [4]
  | 88, 3 => [0, 1, 2, 3, 11, 12, 13]
  | 88, 4 => [0, 1, 3, 11, 14]
  | 88, 5 => [2, 15, 16]
  | 89, 0 => [0, 2, 3]
  | 90, 0 => [0]
  | 90, 1 => [6, 7, 8, 9]
  | 90, 2 => [1, 10]
  | 90, 4 => [14, 15, 16]
  | 90, 5 => [5, 17, 18, 19, 20, 21, 22, 23]
  | 90, 6 => [24]
  | 90, 7 => [11, 12, 13, 14, 25, 26, 27, 28, 29, 30]
  | 90, 8 => [3, 31]
  | 91, 0 => [1]
  | 91, 1 => [7, 8]
  | 91, 2 => [0, 2, 4, 9, 10]
  | 91, 3 => [9, 11]
  | 91, 4 => [14]
  | 91, 5 => [12, 13, 15, 16, 17, 18]
  | 91, 6 => [19, 20]
  | 91, 7 => [0, 2, 4, 19, 21, 22, 23, 24, 25, 26, 27, 28, 29, 30, 31, 32, 33]
  | 91, 8 => [0, 13, 35]
  | 91, 9 => [36]
  | 91, 10 => [12, 37]
  | 91, 11 => [2, 4, 12, 34, 38, 39, 40, 41, 42, 43, 44, 45, 46, 47]
  | 91, 12 => [2, 12, 34, 48]
  | 91, 13 => [4, 49]
  | 92, 0 => [0]
  | 92, 1 => [5, 6, 7, 8]
  | 92, 2 => [1, 2, 9, 10, 11, 12, 13, 14, 15, 16, 17, 18, 19, 20]
  | 92, 3 => [1, 2, 9, 21, 22, 23, 24, 25, 26, 27, 28, 29]
  | 93, 0 => [0, 2]
  | 93, 1 => [1, 3, 4, 5]
  | 94, 0 => [0, 3]
  | 94, 1 => [1, 2, 4, 5, 6, 7, 8, 9, 10, 11, 12, 13]
  | 95, 0 => [4]
  | 95, 1 => [0, 1, 5, 6, 7, 8]
  | 96, 0 => [0, 3]
  | 96, 1 => [1, 2, 4, 5, 6, 7]
  | 97, 0 => [4]
  | 97, 1 => [0, 1, 5, 6, 7, 8]
  | 98, 0 => [0, 1]
  | 98, 1 => [3, 5, 6, 7, 8, 9, 10, 11, 12, 13, 14, 15, 16, 17]
  | 98, 2 => [2, 18]
  | 99, 0 => [0, 1, 2, 3, 5]
  | 99, 1 => [6]
  | 100, 0 => [0, 1, 5]
  | 100, 1 => [6, 7, 8, 9, 10]
  | 100, 2 => [2, 3, 11, 12]
  | 100, 3 => [2, 3, 11, 13, 14, 15, 16, 17, 18, 19, 20, 21, 22, 23, 24, 25, 26, 27, 28, 29, 30, 31, 32, 33]
  | 101, 0 => [0, 1, 5]
  | 101, 1 => [8, 9, 10, 11, 12, 13, 14]
  | 101, 2 => [15]
  | 101, 3 => [2, 3, 6, 7, 16, 17, 18]
  | 101, 4 => [2, 3, 6, 7, 16, 19, 20, 21, 22, 23, 24, 25]
  | 102, 0 => [0, 1, 5]
  | 102, 1 => [11, 12, 13, 14, 15]
  | 102, 2 => [2, 3, 16, 17]
  | 102, 3 => [16, 18, 19, 20, 21, 22, 23]
  | 102, 4 => [24, 25, 26, 27, 28, 29]
  | 102, 5 => [2, 3, 6, 30, 31]
  | 102, 6 => [30, 32]
  | 102, 8 => [36, 37, 38, 39]
  | 102, 9 => [8, 40, 41, 42, 43, 44, 45, 46, 47, 48, 49, 50, 51, 52]
  | 102, 10 => [53]
  | 102, 11 => [7, 9, 54, 55, 56, 57, 58, 59, 60, 61, 62]
  | 102, 12 => [7, 9, 54, 63]
  | 102, 13 => [2, 3, 6, 10, 33, 34, 35, 64, 65, 66]
  | 102, 14 => [10, 64, 67]
  | 102, 15 => [2, 3, 6, 33, 34, 35, 36, 68, 69, 70, 71, 72, 73, 74, 75, 76, 77, 78]
  | 103, 0 => [2]
  | 103, 2 => [5, 6, 7]
  | 103, 4 => [8, 11, 12, 13, 14, 15]
  | 103, 5 => [4, 16]
  | 103, 6 => [0, 3, 17]
  | 103, 3 => [9, 10, 17]
  | 103, 7 => [0, 3, 8]
  | 104, 0 => [1, 4]
  | 104, 1 => [0, 3, 5, 6, 7, 8, 9]
  | 105, 0 => [2, 7]
  | 105, 1 => [15]
  | 105, 2 => [18]
  | 105, 3 => [16, 17, 19, 20, 21, 22]
  | 105, 4 => [0, 1, 5, 23, 24]
  | 105, 5 => [0, 1, 5, 23, 25, 26, 27, 28, 29, 30, 31, 32, 33, 34, 35, 36, 37, 38, 39, 40, 41, 42, 43, 44, 45]
  | 105, 6 => [8, 9, 46, 47]
  | 105, 7 => [17, 49]
  | 105, 8 => [16, 48, 50, 51, 52, 53, 54, 55, 56]
  | 105, 9 => [0, 1, 5, 57, 58]
  | 105, 10 => [57, 59, 60, 61, 62, 63, 64, 65, 66, 67, 68]
  | 105, 11 => [10]
  | 105, 12 => [0, 1, 5, 69, 70]
  | 105, 13 => [0, 1, 5, 69, 71, 72, 73, 74, 75, 76, 77, 78, 79, 80, 81, 82, 83, 84, 85, 86, 87]
  | 105, 14 => [11, 12, 88, 89]
  | 105, 15 => [16, 48, 91]
  | 105, 16 => [0, 1, 5, 90, 92, 93, 94, 95, 96, 97, 98]
  | 105, 17 => [13, 14, 99, 100]
  | 105, 18 => [0, 1, 5, 90, 101]
  | 106, 0 => [0, 1, 6]
  | 106, 1 => [8, 9, 10, 11, 12, 13]
  | 106, 2 => [14]
  | 106, 3 => [2, 3, 4, 7, 15, 16]
  | 106, 4 => [2, 3, 4, 7, 15, 17, 18, 19, 20, 21, 22, 23, 24, 25, 26, 27, 28]
  | 107, 0 => [0, 7]
  | 107, 1 => [2, 8, 9, 10, 11, 12, 13, 14, 15, 16, 17, 18, 19, 20, 21, 22]
  | 107, 2 => [1, 3, 23, 24]
  | 107, 3 => [1, 3, 23, 25, 26, 27, 28, 29, 30]
  | 108, 0 => [0, 1, 7]
  | 108, 1 => [2]
  | 108, 3 => [16, 17, 18]
  | 108, 4 => [19, 20]
  | 108, 5 => [3, 4, 9, 13, 14, 15, 21, 22]
  | 108, 6 => [21, 23, 24, 25, 26, 27, 28, 29]
  | 108, 7 => [30]
  | 108, 8 => [3, 4, 9, 10, 13, 14, 15, 31, 32, 33]
  | 108, 9 => [9, 10, 31, 34, 35, 36, 37, 38, 39, 40, 41, 42, 43, 44]
  | 108, 10 => [45]
  | 108, 11 => [3, 4, 11, 12, 13, 14, 15, 46, 47, 48]
  | 108, 12 => [11, 12, 46, 49]
  | 108, 13 => [50]
  | 108, 14 => [3, 4, 13, 14, 15, 16, 51]
  | 109, 0 => [0, 2]
  | 109, 1 => [1, 3, 5, 6, 7, 8, 9]
  | 109, 2 => [4, 10, 11, 12]
  | 110, 0 => [2, 9]
  | 110, 2 => [14, 15, 16]
  | 110, 4 => [17, 20, 21]
  | 110, 5 => [0, 1, 3, 6, 10, 22, 23]
  | 110, 6 => [22, 24, 25, 26, 27, 28, 29, 30, 31, 32, 33, 34]
  | 110, 7 => [35]
  | 110, 8 => [0, 1, 3, 6, 10, 11, 36, 37, 38]
  | 110, 9 => [11, 36, 39, 40, 41, 42, 43, 44, 45, 46, 47, 48, 49, 50, 51, 52]
  | 110, 10 => [53]
  | 110, 11 => [0, 1, 3, 6, 10, 12, 13, 54, 55, 56]
  | 110, 12 => [12, 13, 54, 57]
  | 110, 3 => [18, 19]
  | 110, 13 => [0, 1, 3, 6, 10, 17, 58]
  | 111, 0 => [4, 5]
  | 111, 2 => [0]
  | 111, 4 => [14, 15, 16, 17]
  | 111, 5 => [7, 8, 18, 19, 20, 21, 22, 23, 24]
  | 111, 6 => [10, 25]
  | 111, 7 => [1, 6, 9, 11, 12, 13, 26]
  | 111, 8 => [9, 26, 27, 28, 29, 30]
  | 111, 9 => [31]
  | 111, 10 => [1, 6, 11, 12, 13, 14, 32]
  | 112, 0 => [1, 8]
  | 112, 1 => [2, 10]
  | 112, 2 => [0, 3, 11, 12, 13, 14, 15, 16, 17, 18, 19, 20, 21, 22, 23, 24, 25]
  | 112, 3 => [26, 27, 28]
  | 112, 4 => [4, 6, 9, 26, 29, 30, 31, 32, 33, 34]
  | 113, 0 => [0, 1, 3, 4, 5]
  | 114, 0 => [0, 6]
  | 114, 1 => [10, 11, 12, 13]
  | 114, 2 => [1, 2, 3, 14]
  | 114, 3 => [14, 15]
  | 114, 5 => [19, 20, 21, 22]
  | 114, 6 => [23]
  | 114, 7 => [7, 24, 25, 26, 27, 28, 29, 30, 31, 32]
  | 114, 8 => [33, 34, 35]
  | 114, 9 => [8, 9, 33, 36, 37, 38, 39]
  | 114, 10 => [1, 2, 3, 16, 17, 18, 40]
  | 114, 11 => [40, 41]
  | 114, 12 => [1, 2, 3, 16, 17, 18, 19]
  | 115, 0 => [0, 2]
  | 115, 1 => [5, 6, 7, 8, 9, 10, 11, 12, 13, 14, 15, 16, 17]
  | 115, 2 => [1, 18]
  | 115, 3 => [18]
  | 115, 4 => [19, 20, 21, 22]
  | 115, 6 => [23, 26, 27, 28, 29, 30, 31]
  | 115, 7 => [4, 32]
  | 115, 8 => [1, 3, 33]
  | 115, 5 => [24, 25, 33]
  | 115, 9 => [1, 3, 23]
  | 116, 0 => [1, 2]
  | 116, 1 => [11, 12, 13, 14, 15, 16, 17, 18]
  | 116, 2 => [19, 20, 21, 22]
  | 116, 3 => [0, 4, 5, 23, 24, 25]
  | 116, 4 => [23]
  | 116, 6 => [26, 27, 28, 29]
  | 116, 8 => [30, 33]
  | 116, 9 => [34, 35, 36]
  | 116, 10 => [37, 38, 39]
  | 116, 11 => [9, 37, 40, 41, 42, 43, 44, 45, 46, 47]
  | 116, 12 => [48, 49, 50, 51]
  | 116, 13 => [0, 4, 5, 7, 8, 10, 52, 53]
  | 116, 14 => [10, 52, 54, 55, 56, 57]
  | 116, 7 => [31, 32]
  | 116, 15 => [8, 30, 58, 59]
  | 116, 16 => [0, 4, 5, 7, 60, 61, 62, 63, 64, 65, 66, 67]
  | 116, 17 => [0, 4, 5, 7, 60, 68, 69, 70, 71, 72, 73]
  | 117, 0 => [1, 5]
  | 117, 1 => [7, 8]
  | 117, 2 => [6, 9, 10, 11, 12, 13, 14, 15, 16]
  | 117, 3 => [17, 18, 19, 20]
  | 117, 4 => [17, 21, 22, 23, 24]
  | 117, 5 => [0, 3, 25, 26, 27, 28, 29, 30]
  | 117, 6 => [0, 3, 25, 31]
  | 118, 0 => [2]
  | 118, 4 => [12, 13, 14]
  | 118, 5 => [5, 15, 16, 17, 18]
  | 118, 6 => [19]
  | 118, 7 => [20, 21]
  | 118, 8 => [20, 22]
  | 118, 9 => [3, 9, 10, 11, 12, 23, 24]
  | 118, 10 => [0]
  | 118, 12 => [28, 29, 30]
  | 118, 13 => [8, 31, 32, 33]
  | 118, 14 => [34]
  | 118, 15 => [6, 25, 26, 27, 28, 35]
  | 119, 0 => [4]
  | 119, 1 => [6]
  | 119, 3 => [9, 10]
  | 119, 4 => [11, 12, 13, 14, 15]
  | 119, 5 => [0, 1, 5, 7, 8, 16, 17]
  | 119, 6 => [5, 16, 18]
  | 119, 7 => [0, 1, 7, 8, 9]
  | 120, 0 => [4]
  | 120, 1 => [6]
  | 120, 3 => [9, 10]
  | 120, 4 => [11, 12, 13, 14, 15]
  | 120, 5 => [0, 1, 5, 7, 8, 16, 17]
  | 120, 6 => [5, 16, 18]
  | 120, 7 => [0, 1, 7, 8, 9]
  | 121, 0 => [0]
  | 121, 1 => [8, 9, 10, 11]
  | 121, 2 => [7, 12]
  | 121, 3 => [1, 2, 3, 13, 14, 15]
  | 121, 4 => [1, 2, 3, 13, 16, 17, 18, 19]
  | 122, 0 => [2, 7]
  | 122, 1 => [15, 16, 17, 18, 19, 20, 21]
  | 122, 2 => [0, 1, 5, 22, 23]
  | 122, 3 => [22, 24, 25, 26, 27, 28, 29, 30, 31]
  | 122, 4 => [32, 33, 34, 35, 36, 37]
  | 122, 5 => [0, 1, 5, 8, 38, 39]
  | 122, 6 => [38]
  | 122, 7 => [40, 41, 42, 43]
  | 122, 9 => [44, 47, 48, 49, 50, 51, 52, 53, 54, 55, 56, 57, 58, 59, 60, 61, 62]
  | 122, 10 => [63]
  | 122, 11 => [0, 1, 5, 8, 9, 10, 11, 64, 65, 66]
  | 122, 12 => [10, 11, 64, 67, 68, 69, 70, 71, 72, 73, 74, 75]
  | 122, 13 => [76]
  | 122, 14 => [0, 1, 5, 8, 9, 12, 77, 78, 79]
  | 122, 8 => [12, 45, 46, 77]
  | 122, 15 => [0, 1, 5, 8, 9, 44, 80, 81, 82, 83, 84, 85, 86, 87, 88, 89, 90]
  | 122, 16 => [13, 14, 91, 92]
  | 123, 0 => [0, 2]
  | 123, 1 => [1, 3, 4, 5, 6]
  | 124, 0 => [0, 2]
  | 124, 2 => [5, 6, 7, 8, 9, 10, 11, 12]
  | 124, 3 => [13, 14, 15, 16, 17, 18, 19, 20]
  | 124, 4 => [21, 22, 23, 24]
  | 124, 5 => [1, 4, 13, 25, 26]
  | 125, 0 => [0, 2]
  | 125, 1 => [1, 3, 4, 5, 6, 7, 8, 9, 10]
  | 126, 1 => [5, 6, 7, 8]
  | 126, 2 => [0, 1, 9, 10, 11, 12, 13]
  | 126, 3 => [0, 1, 9, 14]
  | 127, 0 => [0]
  | 127, 1 => [5, 6, 7, 8]
  | 127, 3 => [9, 10, 11, 12]
  | 127, 5 => [13, 16, 17, 18, 19, 20, 21, 22, 23, 24, 25, 26]
  | 127, 4 => [14, 15]
  | 127, 6 => [1, 4, 13, 27, 28, 29, 30, 31, 32]
  | 127, 7 => [3, 33]
  | 128, 0 => [1]
  | 128, 1 => [9, 10, 11, 12, 13, 14, 15]
  | 128, 2 => [16, 17, 18, 19, 20]
  | 128, 3 => [7, 21]
  | 128, 4 => [0, 2, 4, 22, 23, 24]
  | 128, 5 => [22, 25, 26, 27, 28, 29, 30, 31, 32, 33, 34, 35]
  | 128, 6 => [36, 37, 38, 39]
  | 128, 7 => [0, 2, 4, 40, 41]
  | 128, 8 => [40, 42, 43]
  | 128, 9 => [16, 44, 45]
  | 128, 10 => [0, 2, 4, 46, 47]
  | 128, 11 => [46, 48, 49, 50, 51, 52, 53, 54, 55, 56, 57, 58, 59]
  | 128, 12 => [0, 2, 4, 60, 61, 62]
  | 128, 13 => [0, 60, 63, 64, 65]
  | 128, 14 => [2, 66, 67, 68]
  | 128, 15 => [4, 8, 69, 70, 71, 72, 73, 74]
  | 129, 0 => [0]
  | 129, 1 => [5, 6, 7, 8]
  | 129, 2 => [1, 2, 9, 10, 11, 12, 13, 14, 15, 16, 17, 18, 19, 20]
  | 129, 3 => [1, 2, 9, 21, 22, 23, 24, 25, 26, 27, 28, 29]
  | 130, 0 => [4]
  | 130, 1 => [5]
  | 130, 2 => [6, 7]
  | 130, 3 => [6, 8, 9, 10, 11, 12, 13, 14]
  | 130, 4 => [15]
  | 130, 5 => [1, 16, 17, 18, 19, 20, 21, 22, 23, 24, 25]
  | 130, 6 => [0, 1, 16, 26]
  | 131, 0 => [0, 6]
  | 131, 1 => [3, 8, 9]
  | 131, 2 => [1, 2, 7, 10, 11, 12, 13, 14, 15, 16, 17, 18, 19, 20, 21, 22, 23, 24, 25, 26]
  | 132, 0 => [0]
  | 132, 1 => [9, 10, 11, 12, 13]
  | 132, 2 => [14, 15, 16, 17, 18, 19, 20, 21]
  | 132, 3 => [22, 23, 24, 25, 26, 27]
  | 132, 4 => [22]
  | 132, 5 => [28, 29, 30, 31]
  | 132, 7 => [32, 35, 36, 37, 38, 39, 40, 41, 42, 43, 44, 45, 46, 47, 48, 49, 50, 51]
  | 132, 6 => [33, 34]
  | 132, 8 => [1, 2, 3, 7, 8, 32, 52]
  | 133, 0 => [0]
  | 133, 1 => [5]
  | 133, 2 => [2, 6, 7, 8]
  | 133, 3 => [1, 4, 9]
  | 133, 4 => [1, 6, 10]
  | 134, 0 => [0, 2]
  | 134, 1 => [1, 3]
  | 135, 0 => [3, 4, 5, 6, 7, 8, 9, 10]
  | 135, 1 => [11, 12, 13, 14, 15, 16, 17, 18, 19, 20, 21]
  | 135, 2 => [22, 23, 24, 25, 26]
  | _, _ => []
def ordT : Nat → Nat → List Nat
  | 7, 6 => [0, 4, 5, 6, 11, 1, 2, 3, 7, 8, 9, 10, 12, 13]
  | 8, 11 => [0, 1, 2, 3, 4, 5, 6, 7, 8, 9, 10, 11, 12, 13, 14, 15, 16, 17, 18, 19, 20, 21, 22, 23, 24, 25, 26, 27]
  | 8, 16 => [0, 1, 2, 3, 4, 5, 6, 7, 8, 9]
  | 9, 7 => [0, 1, 2, 3, 4, 6, 7, 8, 9, 10, 5, 11, 12, 13]
  | 10, 10 => [0, 1, 2, 3, 4, 5]
  | 10, 11 => [0, 1, 2, 3, 5, 6, 7, 8, 4, 9, 10, 11, 12, 13, 14, 15, 16, 17, 18, 19, 20, 21, 22, 23, 24]
  | 13, 7 => [0, 1, 2, 3, 4, 5, 6, 7, 8, 9, 10, 11, 12]
  | 14, 6 => [0, 1, 2, 3, 5, 6, 7, 8, 4, 9, 10, 11, 12, 13, 14, 15, 16, 17, 18, 19, 20, 21, 22, 23, 24]
  | 15, 19 => [0, 1, 2, 3, 4, 5, 6, 7]
  | 15, 20 => [0, 1, 2, 4, 3, 5, 6, 7, 8]
  | 16, 10 => [0, 1, 2, 3, 4, 5, 6, 7, 8, 9, 10, 11, 12, 13, 14, 15, 16, 17, 18, 19, 20, 21, 22, 23, 24, 25, 26, 27, 28, 29]
  | 16, 16 => [0, 1, 2, 3, 4, 5, 6, 7]
  | 17, 8 => [0, 1, 2, 3, 4, 5]
  | 26, 6 => [0, 1, 2, 3, 4, 5, 6, 7, 8, 9, 10, 11]
  | 29, 6 => [0, 1, 2, 3, 4, 5, 6, 7, 8, 9]
  | 31, 7 => [0, 1, 2, 3, 4, 5, 6, 7, 8, 13, 9, 10, 11, 12, 14, 15]
  | 33, 6 => [0, 1, 2, 3, 4, 5, 6, 7]
  | 36, 4 => [1, 2, 3, 4, 0, 5, 6]
  | 36, 5 => [1, 2, 0, 3, 4]
  | 36, 6 => [1, 0, 2, 3, 4, 5, 6, 7]
  | 36, 7 => [1, 2, 0, 3, 4]
  | 36, 8 => [0, 1, 2, 3, 4, 5, 6, 7, 8, 9, 10, 11, 12, 13, 14, 16, 15, 17, 18, 19, 20]
  | 44, 4 => [0, 1, 2, 3, 4, 5, 6, 7, 8, 9, 10, 11, 12, 13, 14, 15, 16, 17, 18, 19, 20, 21]
  | 44, 9 => [0, 1, 2, 3, 4, 5, 6, 7, 8, 9]
  | 57, 11 => [0, 1, 2, 3, 4, 5, 6, 7, 8, 9, 10, 11, 12]
  | 59, 6 => [0, 1, 2, 3, 4, 5, 6, 7, 8, 15, 9, 10, 11, 12, 13, 14, 16, 17]
  | 62, 1 => [0, 1, 2, 3, 4, 5, 6, 7, 8, 9, 10]
  | 66, 11 => [0, 1, 2, 3, 4, 5, 6, 7, 8, 9]
  | 66, 15 => [0, 1, 2, 3, 5, 6, 4, 7, 8]
  | 70, 2 => [0, 1, 2, 3, 4, 6, 7, 8, 9, 10, 11, 12, 13, 5, 14, 15]
  | 70, 6 => [0, 1, 2, 3, 4, 5, 10, 6, 7, 8, 9, 11, 12]
  | 72, 4 => [0, 1, 2, 3, 4, 5, 7, 8, 9, 10, 11, 12, 13, 14, 6, 15, 16]
  | 74, 5 => [0, 1, 2, 3, 4, 5, 7, 8, 9, 10, 6, 11, 12]
  | 74, 8 => [0, 1, 2, 3, 4, 5, 6, 7]
  | 74, 10 => [0, 1, 2, 3, 4, 5, 6, 7, 8, 9, 10]
  | 74, 13 => [0, 1, 2, 3, 4, 5, 6, 7, 8, 9, 10, 11, 12, 17, 13, 14, 15, 16, 18, 19]
  | 76, 8 => [0, 1, 2, 3, 4, 5, 7, 8, 9, 10, 6, 11, 12]
  | 90, 5 => [0, 1, 2, 3, 4, 5, 6, 7]
  | 91, 7 => [0, 1, 2, 3, 4, 5, 6, 7, 8, 10, 11, 9, 12, 13]
  | 91, 11 => [0, 1, 2, 3, 4, 5, 6, 7, 8, 9, 10]
  | 98, 1 => [0, 1, 2, 3, 4, 5, 6, 7, 8, 9, 10, 11, 12, 13]
  | 100, 3 => [0, 1, 2, 3, 4, 5, 6, 7, 8, 9, 10, 11, 12, 13, 14, 16, 17, 15, 18, 19, 20, 21, 22]
  | 102, 9 => [0, 1, 2, 3, 4, 5, 6, 7, 8, 13, 9, 10, 11, 12, 14, 15]
  | 102, 11 => [0, 1, 2, 3, 4, 5, 6, 7, 8]
  | 104, 1 => [0, 1, 2, 3, 4, 5]
  | 105, 5 => [0, 1, 2, 3, 4, 5, 6, 7, 8, 9, 10, 11, 12, 13, 15, 16, 21, 14, 17, 18, 19, 20, 22, 23]
  | 105, 8 => [0, 1, 2, 3, 4, 5, 6, 7]
  | 105, 10 => [0, 1, 2, 3, 4, 5, 6, 7, 8, 9, 10]
  | 105, 13 => [0, 1, 2, 3, 4, 5, 6, 7, 8, 9, 10, 11, 12, 17, 13, 14, 15, 16, 18, 19]
  | 106, 1 => [0, 1, 2, 3, 4, 5, 6]
  | 106, 4 => [0, 1, 2, 3, 4, 5, 7, 8, 9, 10, 6, 11, 12]
  | 108, 6 => [0, 1, 2, 3, 4, 5, 6, 7]
  | 108, 9 => [0, 1, 2, 3, 4, 5, 6, 11, 7, 8, 9, 10, 12, 13]
  | 110, 6 => [0, 1, 2, 3, 4, 5, 6, 7, 8, 9, 10, 11]
  | 110, 9 => [0, 1, 2, 3, 4, 5, 6, 7, 8, 9, 14, 10, 11, 12, 13, 15, 16]
  | 116, 11 => [0, 1, 2, 3, 4, 5, 6, 8, 7, 9]
  | 117, 5 => [0, 1, 2, 3, 4, 5, 6]
  | 122, 1 => [0, 1, 2, 3, 4, 5, 6, 7]
  | 122, 3 => [0, 1, 2, 3, 4, 5, 6, 7, 8, 9]
  | 122, 9 => [0, 1, 2, 3, 4, 5, 6, 7, 8, 9, 10, 11, 16, 12, 13, 14, 15, 17, 18]
  | 122, 12 => [0, 1, 2, 3, 4, 5, 6, 7, 8, 9]
  | 124, 5 => [0, 1, 2, 3]
  | 127, 5 => [0, 1, 2, 3, 4, 5, 6, 7, 8, 9, 10, 11]
  | 128, 5 => [0, 1, 2, 3, 4, 5, 6, 7, 8, 9, 10, 11]
  | 132, 7 => [0, 1, 2, 3, 4, 5, 6, 7, 8, 9, 10, 11, 12, 13, 14, 15, 16, 17]
  | 135, 1 => [0, 1, 2, 3, 4, 5, 6, 7, 8, 9, 10]
  | _, _ => []
def roT : Nat → Nat → Bool
  | 8, 11 => true
  | 8, 16 => true
  | 9, 7 => true
  | 10, 11 => true
  | 13, 7 => true
  | 14, 6 => true
  | 15, 20 => true
  | 16, 10 => true
  | 16, 16 => true
  | 26, 6 => true
  | 29, 6 => true
  | 33, 6 => true
  | 36, 4 => true
  | 36, 5 => true
  | 36, 6 => true
  | 36, 7 => true
  | 36, 8 => true
  | 44, 4 => true
  | 44, 9 => true
  | 70, 2 => true
  | 74, 8 => true
  | 74, 10 => true
  | 102, 11 => true
  | 105, 8 => true
  | 105, 10 => true
  | 106, 1 => true
  | 108, 6 => true
  | 122, 1 => true
  | _, _ => false
noncomputable def C : Cfg := { P := Try.prog, esc := escT, thr := [81, 134], clr := clrT', ord := ordT, ro := roT, ext := extT }
theorem C_P : C.P = Try.prog := rfl
theorem C_thr : C.thr = [81, 134] := rfl
theorem res_3 : Try.f3.results.toList = [.tmp 8] := rfl
theorem esc_3 : C.esc 3 = [] := rfl
theorem clr_3_0 : C.clr 3 0 = [0, 8] := rfl
theorem clr_3_1 : C.clr 3 1 = [16] := rfl
theorem clr_3_2 : C.clr 3 2 = [17, 18] := rfl
theorem clr_3_3 : C.clr 3 3 = [19, 20] := rfl
theorem clr_3_4 : C.clr 3 4 = [21, 22] := rfl
theorem clr_3_5 : C.clr 3 5 = [10, 11, 12, 23, 24, 25, 26, 27, 28, 29, 30, 31, 32, 33, 34, 35, 36, 37, 38, 39, 40, 41, 42, 43, 44, 45, 46, 47, 48, 49, 50, 51, 52, 53, 54, 55, 56, 57, 58, 59, 60, 61, 62, 63, 64, 65, 66] := rfl
theorem clr_3_6 : C.clr 3 6 = [1, 2, 3, 4, 9, 67, 68] := rfl
theorem clr_3_7 : C.clr 3 7 = [9, 67] := rfl
theorem clr_3_8 : C.clr 3 8 = [69, 70, 71] := rfl
theorem clr_3_10 : C.clr 3 10 = [72, 75, 76, 77, 78, 79, 80, 81, 82, 83, 84, 85, 86, 87, 88] := rfl
theorem clr_3_11 : C.clr 3 11 = [1, 2, 3, 4, 13, 89] := rfl
theorem clr_3_9 : C.clr 3 9 = [73, 74, 89] := rfl
theorem clr_3_12 : C.clr 3 12 = [1, 4, 13, 72, 90, 91, 92, 93, 94, 95, 96] := rfl
theorem clr_3_13 : C.clr 3 13 = [2, 3, 14, 15, 97, 98, 99, 100, 101, 102, 103, 104, 105] := rfl
theorem res_4 : Try.f4.results.toList = [.tmp 10] := rfl
theorem esc_4 : C.esc 4 = [] := rfl
theorem clr_4_0 : C.clr 4 0 = [0, 10] := rfl
theorem clr_4_1 : C.clr 4 1 = [30] := rfl
theorem clr_4_2 : C.clr 4 2 = [31, 32] := rfl
theorem clr_4_3 : C.clr 4 3 = [33, 34] := rfl
theorem clr_4_4 : C.clr 4 4 = [35, 36] := rfl
theorem clr_4_5 : C.clr 4 5 = [12, 13, 14, 37, 38, 39, 40, 41, 42, 43, 44, 45, 46, 47, 48, 49, 50, 51, 52, 53, 54] := rfl
theorem clr_4_6 : C.clr 4 6 = [1, 2, 3, 4, 5, 11, 55, 56] := rfl
theorem clr_4_7 : C.clr 4 7 = [11, 55, 57, 58, 59, 60, 61, 62, 63] := rfl
theorem clr_4_8 : C.clr 4 8 = [5, 64, 65, 66, 67, 68, 69, 70] := rfl
theorem clr_4_9 : C.clr 4 9 = [15, 17, 71, 72, 73] := rfl
theorem clr_4_10 : C.clr 4 10 = [74, 75, 76, 77, 78, 79, 80] := rfl
theorem clr_4_11 : C.clr 4 11 = [2, 81, 82, 83, 84, 85, 86, 87] := rfl
theorem clr_4_12 : C.clr 4 12 = [20, 22, 88, 89, 90] := rfl
theorem clr_4_13 : C.clr 4 13 = [91, 92, 93, 94, 95, 96, 97] := rfl
theorem clr_4_14 : C.clr 4 14 = [1, 3, 4, 98, 99, 100, 101, 102, 103, 104] := rfl
theorem clr_4_15 : C.clr 4 15 = [25, 27, 105, 106, 107] := rfl
theorem clr_4_16 : C.clr 4 16 = [16, 18, 19, 21, 23, 24, 26, 28, 29, 108, 109, 110, 111, 112, 113, 114, 115, 116, 117, 118, 119, 120, 121, 122, 123, 124, 125, 126, 127, 128, 129] := rfl
theorem res_5 : Try.f5.results.toList = [.tmp 6] := rfl
theorem esc_5 : C.esc 5 = [] := rfl
theorem clr_5_0 : C.clr 5 0 = [0, 6] := rfl
theorem clr_5_1 : C.clr 5 1 = [16] := rfl
theorem clr_5_2 : C.clr 5 2 = [17, 18] := rfl
theorem clr_5_3 : C.clr 5 3 = [19, 20] := rfl
theorem clr_5_4 : C.clr 5 4 = [8, 9, 21, 22, 23, 24, 25, 26, 27, 28, 29, 30, 31, 32, 33, 34, 35, 36, 37, 38, 39, 40, 41, 42] := rfl
theorem clr_5_5 : C.clr 5 5 = [1, 2, 3, 7, 43, 44] := rfl
theorem clr_5_6 : C.clr 5 6 = [7, 43] := rfl
theorem clr_5_7 : C.clr 5 7 = [45, 46, 47] := rfl
theorem clr_5_9 : C.clr 5 9 = [48, 51, 52, 53, 54, 55] := rfl
theorem clr_5_10 : C.clr 5 10 = [1, 2, 3, 10, 56] := rfl
theorem clr_5_8 : C.clr 5 8 = [49, 50, 56] := rfl
theorem clr_5_11 : C.clr 5 11 = [10, 48, 57, 58] := rfl
theorem clr_5_12 : C.clr 5 12 = [1, 59, 60, 61, 62, 63, 64, 65] := rfl
theorem clr_5_13 : C.clr 5 13 = [2, 14, 66, 67, 68, 69, 70, 71] := rfl
theorem clr_5_14 : C.clr 5 14 = [3, 11, 12, 13, 15, 72, 73, 74, 75, 76, 77, 78, 79, 80, 81, 82, 83, 84, 85, 86, 87] := rfl
theorem res_6 : Try.f6.results.toList = [.tmp 6] := rfl
theorem esc_6 : C.esc 6 = [] := rfl
theorem clr_6_0 : C.clr 6 0 = [0, 6] := rfl
theorem clr_6_1 : C.clr 6 1 = [23] := rfl
theorem clr_6_2 : C.clr 6 2 = [24, 25] := rfl
theorem clr_6_3 : C.clr 6 3 = [26, 27] := rfl
theorem clr_6_4 : C.clr 6 4 = [28, 29] := rfl
theorem clr_6_5 : C.clr 6 5 = [30, 31] := rfl
theorem clr_6_6 : C.clr 6 6 = [8, 9, 10, 11, 32, 33, 34, 35, 36, 37, 38, 39, 40, 41, 42, 43, 44, 45, 46, 47, 48, 49, 50, 51, 52, 53] := rfl
theorem clr_6_7 : C.clr 6 7 = [1, 2, 3, 7, 54, 55] := rfl
theorem clr_6_8 : C.clr 6 8 = [7, 54] := rfl
theorem clr_6_9 : C.clr 6 9 = [56, 57, 58] := rfl
theorem clr_6_11 : C.clr 6 11 = [59, 62, 63, 64, 65, 66] := rfl
theorem clr_6_12 : C.clr 6 12 = [13, 67, 68, 69, 70, 71, 72, 73, 74, 75] := rfl
theorem clr_6_13 : C.clr 6 13 = [1, 2, 3, 12, 76] := rfl
theorem clr_6_10 : C.clr 6 10 = [60, 61, 76] := rfl
theorem clr_6_14 : C.clr 6 14 = [12, 59] := rfl
theorem clr_6_15 : C.clr 6 15 = [77, 78, 79] := rfl
theorem clr_6_17 : C.clr 6 17 = [80, 83, 84, 85, 86, 87] := rfl
theorem clr_6_18 : C.clr 6 18 = [1, 2, 3, 14, 88] := rfl
theorem clr_6_16 : C.clr 6 16 = [81, 82, 88] := rfl
theorem clr_6_19 : C.clr 6 19 = [14, 80, 89, 90, 91, 92, 93, 94] := rfl
theorem clr_6_20 : C.clr 6 20 = [15, 95, 96, 97, 98, 99, 100] := rfl
theorem clr_6_21 : C.clr 6 21 = [1, 2, 101, 102, 103, 104, 105, 106, 107, 108, 109] := rfl
theorem clr_6_22 : C.clr 6 22 = [3, 19, 110, 111, 112, 113, 114, 115] := rfl
theorem clr_6_23 : C.clr 6 23 = [16, 17, 18, 20, 21, 22, 116, 117, 118, 119, 120, 121, 122, 123, 124, 125, 126, 127, 128, 129, 130, 131, 132, 133, 134] := rfl
theorem res_7 : Try.f7.results.toList = [.tmp 6] := rfl
theorem esc_7 : C.esc 7 = [] := rfl
theorem clr_7_0 : C.clr 7 0 = [0, 6] := rfl
theorem clr_7_1 : C.clr 7 1 = [19] := rfl
theorem clr_7_2 : C.clr 7 2 = [20, 21] := rfl
theorem clr_7_3 : C.clr 7 3 = [22, 23] := rfl
theorem clr_7_4 : C.clr 7 4 = [8, 9, 24, 25, 26, 27, 28, 29, 30, 31, 32, 33, 34, 35, 36, 37, 38, 39, 40, 41, 42, 43, 44, 45] := rfl
theorem clr_7_5 : C.clr 7 5 = [1, 2, 3, 7, 46, 47] := rfl
theorem clr_7_6 : C.clr 7 6 = [7, 46, 48, 49, 50, 51, 52, 53, 54, 55, 56, 57, 58] := rfl
theorem ord_7_6 : C.ord 7 6 = [0, 4, 5, 6, 11, 1, 2, 3, 7, 8, 9, 10, 12, 13] := rfl
theorem ro_7_6 : C.ro 7 6 = false := rfl
theorem clr_7_7 : C.clr 7 7 = [10, 11, 59, 60, 61, 62, 63, 64, 65] := rfl
theorem clr_7_8 : C.clr 7 8 = [1, 2, 3, 66] := rfl
theorem clr_7_9 : C.clr 7 9 = [66] := rfl
theorem clr_7_10 : C.clr 7 10 = [67, 68, 69] := rfl
theorem clr_7_12 : C.clr 7 12 = [70, 73, 74, 75, 76, 77] := rfl
theorem clr_7_13 : C.clr 7 13 = [13, 78, 79, 80, 81, 82, 83, 84, 85, 86, 87, 88, 89, 90] := rfl
theorem clr_7_14 : C.clr 7 14 = [1, 2, 3, 12, 91] := rfl
theorem clr_7_11 : C.clr 7 11 = [71, 72, 91] := rfl
theorem clr_7_15 : C.clr 7 15 = [12, 70, 92, 93] := rfl
theorem clr_7_16 : C.clr 7 16 = [94, 95] := rfl
theorem clr_7_17 : C.clr 7 17 = [1, 2, 3, 14, 96] := rfl
theorem clr_7_18 : C.clr 7 18 = [14, 96, 97, 98, 99, 100, 101, 102, 103, 104] := rfl
theorem clr_7_19 : C.clr 7 19 = [1, 2, 3, 105, 106, 107, 108, 109, 110, 111, 112] := rfl
theorem clr_7_20 : C.clr 7 20 = [15, 16, 17, 18, 113, 114, 115, 116, 117, 118, 119, 120] := rfl
theorem res_8 : Try.f8.results.toList = [.tmp 8] := rfl
theorem esc_8 : C.esc 8 = [] := rfl
theorem clr_8_0 : C.clr 8 0 = [8] := rfl
theorem clr_8_1 : C.clr 8 1 = [19] := rfl
theorem clr_8_2 : C.clr 8 2 = [20, 21] := rfl
theorem clr_8_3 : C.clr 8 3 = [22, 23] := rfl
theorem clr_8_4 : C.clr 8 4 = [10, 11, 24, 25, 26, 27, 28, 29, 30, 31, 32, 33, 34, 35, 36, 37, 38, 39, 40, 41, 42, 43, 44, 45, 46, 47, 48, 49, 50] := rfl
theorem clr_8_5 : C.clr 8 5 = [0, 1, 2, 3, 9, 51, 52] := rfl
theorem clr_8_6 : C.clr 8 6 = [9, 51, 53, 54, 55, 56, 57, 58, 59] := rfl
theorem clr_8_7 : C.clr 8 7 = [60, 61, 62, 63, 64, 65, 66, 67, 68] := rfl
theorem clr_8_8 : C.clr 8 8 = [1, 2, 69, 70, 71, 72, 73, 74, 75, 76, 77, 78, 79, 80] := rfl
theorem clr_8_9 : C.clr 8 9 = [13, 81] := rfl
theorem clr_8_10 : C.clr 8 10 = [0, 3, 12, 14, 15, 16, 17, 82, 83, 84, 85] := rfl
theorem clr_8_11 : C.clr 8 11 = [0, 15, 16, 17, 82, 86, 87, 88, 89, 90, 91, 92, 93, 94, 95, 96, 97, 98, 99, 100, 101, 102, 103, 104, 105, 106, 107, 108, 109, 110, 111, 112] := rfl
theorem ord_8_11 : C.ord 8 11 = [0, 1, 2, 3, 4, 5, 6, 7, 8, 9, 10, 11, 12, 13, 14, 15, 16, 17, 18, 19, 20, 21, 22, 23, 24, 25, 26, 27] := rfl
theorem ro_8_11 : C.ro 8 11 = true := rfl
theorem clr_8_12 : C.clr 8 12 = [3, 12, 14, 113] := rfl
theorem clr_8_13 : C.clr 8 13 = [113] := rfl
theorem clr_8_14 : C.clr 8 14 = [114, 115] := rfl
theorem clr_8_16 : C.clr 8 16 = [116, 119, 120, 121, 122, 123, 124, 125, 126, 127] := rfl
theorem ord_8_16 : C.ord 8 16 = [0, 1, 2, 3, 4, 5, 6, 7, 8, 9] := rfl
theorem ro_8_16 : C.ro 8 16 = true := rfl
theorem clr_8_17 : C.clr 8 17 = [3, 12, 14, 18, 128] := rfl
theorem clr_8_15 : C.clr 8 15 = [117, 118, 128] := rfl
theorem clr_8_18 : C.clr 8 18 = [3, 12, 14, 18, 116, 129, 130, 131, 132, 133, 134] := rfl
theorem res_9 : Try.f9.results.toList = [.tmp 10] := rfl
theorem esc_9 : C.esc 9 = [] := rfl
theorem clr_9_0 : C.clr 9 0 = [3, 4, 10] := rfl
theorem clr_9_1 : C.clr 9 1 = [15] := rfl
theorem clr_9_2 : C.clr 9 2 = [16, 17, 18, 19] := rfl
theorem clr_9_3 : C.clr 9 3 = [20, 21] := rfl
theorem clr_9_4 : C.clr 9 4 = [22, 23] := rfl
theorem clr_9_5 : C.clr 9 5 = [12, 13, 14, 24, 25, 26, 27, 28, 29, 30, 31, 32, 33, 34, 35, 36] := rfl
theorem clr_9_6 : C.clr 9 6 = [0, 1, 2, 8, 9, 11, 37, 38] := rfl
theorem clr_9_7 : C.clr 9 7 = [0, 1, 2, 8, 9, 11, 37, 39, 40, 41, 42, 43, 44, 45, 46, 47, 48, 49, 50, 51] := rfl
theorem ord_9_7 : C.ord 9 7 = [0, 1, 2, 3, 4, 6, 7, 8, 9, 10, 5, 11, 12, 13] := rfl
theorem ro_9_7 : C.ro 9 7 = true := rfl
theorem res_10 : Try.f10.results.toList = [.tmp 10] := rfl
theorem esc_10 : C.esc 10 = [] := rfl
theorem clr_10_0 : C.clr 10 0 = [2, 3, 4, 10] := rfl
theorem clr_10_1 : C.clr 10 1 = [19] := rfl
theorem clr_10_2 : C.clr 10 2 = [20, 21, 22] := rfl
theorem clr_10_3 : C.clr 10 3 = [23, 24] := rfl
theorem clr_10_4 : C.clr 10 4 = [25, 26] := rfl
theorem clr_10_5 : C.clr 10 5 = [27, 28] := rfl
theorem clr_10_6 : C.clr 10 6 = [12, 13, 14, 15, 29, 30, 31, 32, 33, 34, 35, 36, 37, 38, 39, 40, 41, 42, 43, 44, 45, 46, 47, 48, 49, 50, 51, 52, 53, 54, 55, 56, 57, 58, 59, 60] := rfl
theorem clr_10_7 : C.clr 10 7 = [0, 1, 7, 8, 9, 11, 61, 62] := rfl
theorem clr_10_8 : C.clr 10 8 = [11, 61, 63, 64, 65] := rfl
theorem clr_10_9 : C.clr 10 9 = [66, 67, 68, 69] := rfl
theorem clr_10_10 : C.clr 10 10 = [70, 71, 72, 73, 74] := rfl
theorem ord_10_10 : C.ord 10 10 = [0, 1, 2, 3, 4, 5] := rfl
theorem ro_10_10 : C.ro 10 10 = false := rfl
theorem clr_10_11 : C.clr 10 11 = [0, 1, 7, 8, 9, 16, 17, 18, 75, 76, 77, 78, 79, 80, 81, 82, 83, 84, 85, 86, 87, 88, 89, 90, 91, 92, 93, 94, 95, 96, 97, 98] := rfl
theorem ord_10_11 : C.ord 10 11 = [0, 1, 2, 3, 5, 6, 7, 8, 4, 9, 10, 11, 12, 13, 14, 15, 16, 17, 18, 19, 20, 21, 22, 23, 24] := rfl
theorem ro_10_11 : C.ro 10 11 = true := rfl
theorem res_11 : Try.f11.results.toList = [.tmp 14] := rfl
theorem esc_11 : C.esc 11 = [] := rfl
theorem clr_11_0 : C.clr 11 0 = [5, 6, 14] := rfl
theorem clr_11_1 : C.clr 11 1 = [23] := rfl
theorem clr_11_2 : C.clr 11 2 = [24, 25, 26, 27] := rfl
theorem clr_11_3 : C.clr 11 3 = [28, 29, 30] := rfl
theorem clr_11_4 : C.clr 11 4 = [31, 32] := rfl
theorem clr_11_5 : C.clr 11 5 = [33, 34] := rfl
theorem clr_11_6 : C.clr 11 6 = [16, 17, 18, 19, 35, 36, 37, 38, 39, 40, 41, 42, 43, 44, 45, 46, 47, 48, 49, 50, 51, 52, 53, 54, 55, 56, 57, 58, 59, 60] := rfl
theorem clr_11_7 : C.clr 11 7 = [0, 1, 2, 3, 4, 12, 13, 15, 61, 62] := rfl
theorem clr_11_8 : C.clr 11 8 = [0, 1, 15, 61, 63, 64, 65, 66] := rfl
theorem clr_11_9 : C.clr 11 9 = [2, 3, 67, 68, 69, 70] := rfl
theorem clr_11_10 : C.clr 11 10 = [4, 12, 13, 20, 21, 71, 72, 73, 74, 75, 76] := rfl
theorem clr_11_11 : C.clr 11 11 = [22, 77, 78, 79, 80, 81, 82] := rfl
theorem res_12 : Try.f12.results.toList = [.tmp 12] := rfl
theorem esc_12 : C.esc 12 = [] := rfl
theorem clr_12_0 : C.clr 12 0 = [3, 4, 5, 12] := rfl
theorem clr_12_1 : C.clr 12 1 = [19] := rfl
theorem clr_12_2 : C.clr 12 2 = [20, 21, 22, 23] := rfl
theorem clr_12_3 : C.clr 12 3 = [24, 25] := rfl
theorem clr_12_4 : C.clr 12 4 = [26, 27] := rfl
theorem clr_12_5 : C.clr 12 5 = [28, 29] := rfl
theorem clr_12_6 : C.clr 12 6 = [14, 15, 16, 17, 30, 31, 32, 33, 34, 35, 36, 37, 38, 39, 40, 41, 42, 43, 44, 45, 46, 47, 48, 49, 50, 51, 52, 53, 54, 55] := rfl
theorem clr_12_7 : C.clr 12 7 = [0, 1, 2, 9, 10, 11, 13, 56, 57] := rfl
theorem clr_12_8 : C.clr 12 8 = [0, 13, 56, 58, 59, 60, 61, 62, 63, 64, 65, 66, 67, 68, 69, 70, 71, 72, 73, 74] := rfl
theorem clr_12_9 : C.clr 12 9 = [1, 2, 9, 10, 11, 18, 75, 76, 77, 78, 79, 80, 81, 82, 83, 84, 85, 86, 87, 88, 89] := rfl
theorem res_13 : Try.f13.results.toList = [.tmp 12] := rfl
theorem esc_13 : C.esc 13 = [] := rfl
theorem clr_13_0 : C.clr 13 0 = [3, 4, 12] := rfl
theorem clr_13_1 : C.clr 13 1 = [17] := rfl
theorem clr_13_2 : C.clr 13 2 = [18, 19, 20, 21] := rfl
theorem clr_13_3 : C.clr 13 3 = [22, 23] := rfl
theorem clr_13_4 : C.clr 13 4 = [24, 25] := rfl
theorem clr_13_5 : C.clr 13 5 = [14, 15, 16, 26, 27, 28, 29, 30, 31, 32, 33, 34, 35, 36, 37, 38, 39, 40, 41, 42, 43, 44, 45, 46, 47, 48, 49, 50, 51, 52, 53, 54, 55] := rfl
theorem clr_13_6 : C.clr 13 6 = [0, 1, 2, 5, 9, 10, 13, 56, 57] := rfl
theorem clr_13_7 : C.clr 13 7 = [0, 1, 2, 5, 9, 10, 13, 56, 58, 59, 60, 61, 62, 63, 64, 65, 66, 67, 68, 69] := rfl
theorem ord_13_7 : C.ord 13 7 = [0, 1, 2, 3, 4, 5, 6, 7, 8, 9, 10, 11, 12] := rfl
theorem ro_13_7 : C.ro 13 7 = true := rfl
theorem res_14 : Try.f14.results.toList = [.tmp 8] := rfl
theorem esc_14 : C.esc 14 = [] := rfl
theorem clr_14_0 : C.clr 14 0 = [3, 8] := rfl
theorem clr_14_1 : C.clr 14 1 = [12] := rfl
theorem clr_14_2 : C.clr 14 2 = [13, 14, 15, 16] := rfl
theorem clr_14_3 : C.clr 14 3 = [17, 18] := rfl
theorem clr_14_4 : C.clr 14 4 = [10, 11, 19, 20, 21, 22, 23, 24, 25, 26, 27] := rfl
theorem clr_14_5 : C.clr 14 5 = [0, 1, 2, 7, 9, 28, 29] := rfl
theorem clr_14_6 : C.clr 14 6 = [0, 1, 2, 7, 9, 28, 30, 31, 32, 33, 34, 35, 36, 37, 38, 39, 40, 41, 42, 43, 44, 45, 46, 47, 48, 49, 50, 51, 52, 53] := rfl
theorem ord_14_6 : C.ord 14 6 = [0, 1, 2, 3, 5, 6, 7, 8, 4, 9, 10, 11, 12, 13, 14, 15, 16, 17, 18, 19, 20, 21, 22, 23, 24] := rfl
theorem ro_14_6 : C.ro 14 6 = true := rfl
theorem res_15 : Try.f15.results.toList = [.tmp 10] := rfl
theorem esc_15 : C.esc 15 = [] := rfl
theorem clr_15_0 : C.clr 15 0 = [3, 4, 10] := rfl
theorem clr_15_1 : C.clr 15 1 = [19] := rfl
theorem clr_15_2 : C.clr 15 2 = [20, 21, 22] := rfl
theorem clr_15_3 : C.clr 15 3 = [23, 24] := rfl
theorem clr_15_4 : C.clr 15 4 = [25, 26] := rfl
theorem clr_15_5 : C.clr 15 5 = [27, 28] := rfl
theorem clr_15_6 : C.clr 15 6 = [29, 30] := rfl
theorem clr_15_7 : C.clr 15 7 = [12, 13, 14, 15, 16, 31, 32, 33, 34, 35, 36, 37, 38, 39, 40, 41, 42, 43, 44, 45, 46, 47, 48, 49, 50, 51, 52, 53, 54, 55, 56, 57, 58, 59] := rfl
theorem clr_15_8 : C.clr 15 8 = [0, 1, 2, 8, 9, 11, 60, 61] := rfl
theorem clr_15_9 : C.clr 15 9 = [11, 60] := rfl
theorem clr_15_10 : C.clr 15 10 = [62, 63, 64] := rfl
theorem clr_15_12 : C.clr 15 12 = [65, 68, 69, 70, 71, 72] := rfl
theorem clr_15_13 : C.clr 15 13 = [0, 1, 2, 8, 9, 17, 73] := rfl
theorem clr_15_11 : C.clr 15 11 = [66, 67, 73] := rfl
theorem clr_15_14 : C.clr 15 14 = [17, 65, 74, 75, 76, 77] := rfl
theorem clr_15_15 : C.clr 15 15 = [18, 78, 79, 80, 81, 82] := rfl
theorem clr_15_16 : C.clr 15 16 = [0, 1, 2, 8, 9, 83] := rfl
theorem clr_15_17 : C.clr 15 17 = [83, 84, 85] := rfl
theorem clr_15_18 : C.clr 15 18 = [0, 1, 2, 8, 9, 86] := rfl
theorem clr_15_19 : C.clr 15 19 = [1, 2, 86, 87, 88, 89, 90, 91, 92, 93] := rfl
theorem ord_15_19 : C.ord 15 19 = [0, 1, 2, 3, 4, 5, 6, 7] := rfl
theorem ro_15_19 : C.ro 15 19 = false := rfl
theorem clr_15_20 : C.clr 15 20 = [0, 8, 9, 18, 94, 95, 96, 97, 98, 99, 100, 101] := rfl
theorem ord_15_20 : C.ord 15 20 = [0, 1, 2, 4, 3, 5, 6, 7, 8] := rfl
theorem ro_15_20 : C.ro 15 20 = true := rfl
theorem res_16 : Try.f16.results.toList = [.tmp 10] := rfl
theorem esc_16 : C.esc 16 = [] := rfl
theorem clr_16_0 : C.clr 16 0 = [2, 3, 4, 10] := rfl
theorem clr_16_1 : C.clr 16 1 = [23] := rfl
theorem clr_16_2 : C.clr 16 2 = [24, 25, 26] := rfl
theorem clr_16_3 : C.clr 16 3 = [27, 28] := rfl
theorem clr_16_4 : C.clr 16 4 = [29, 30] := rfl
theorem clr_16_5 : C.clr 16 5 = [31, 32] := rfl
theorem clr_16_6 : C.clr 16 6 = [12, 13, 14, 15, 33, 34, 35, 36, 37, 38, 39, 40, 41, 42, 43, 44, 45, 46, 47, 48, 49, 50, 51, 52, 53, 54] := rfl
theorem clr_16_7 : C.clr 16 7 = [0, 1, 7, 8, 9, 11, 55, 56] := rfl
theorem clr_16_8 : C.clr 16 8 = [11, 55, 57, 58, 59] := rfl
theorem clr_16_9 : C.clr 16 9 = [60, 61, 62] := rfl
theorem clr_16_10 : C.clr 16 10 = [16, 63, 64, 65, 66, 67, 68, 69, 70, 71, 72, 73, 74, 75, 76, 77, 78, 79, 80, 81, 82, 83, 84, 85, 86, 87, 88, 89, 90, 91] := rfl
theorem ord_16_10 : C.ord 16 10 = [0, 1, 2, 3, 4, 5, 6, 7, 8, 9, 10, 11, 12, 13, 14, 15, 16, 17, 18, 19, 20, 21, 22, 23, 24, 25, 26, 27, 28, 29] := rfl
theorem ro_16_10 : C.ro 16 10 = true := rfl
theorem clr_16_11 : C.clr 16 11 = [0, 1, 7, 8, 9, 17, 92] := rfl
theorem clr_16_12 : C.clr 16 12 = [7, 92, 93, 94, 95, 96, 97, 98, 99, 100] := rfl
theorem clr_16_13 : C.clr 16 13 = [8, 9, 101, 102, 103, 104, 105, 106, 107, 108] := rfl
theorem clr_16_14 : C.clr 16 14 = [109, 110, 111, 112, 113] := rfl
theorem clr_16_15 : C.clr 16 15 = [0, 1, 17, 18, 19, 20, 21, 114, 115, 116, 117, 118, 119, 120] := rfl
theorem clr_16_16 : C.clr 16 16 = [0, 1, 17, 18, 19, 20, 21, 114, 121, 122, 123, 124, 125, 126, 127] := rfl
theorem ord_16_16 : C.ord 16 16 = [0, 1, 2, 3, 4, 5, 6, 7] := rfl
theorem ro_16_16 : C.ro 16 16 = true := rfl
theorem clr_16_17 : C.clr 16 17 = [22, 128, 129, 130, 131, 132, 133, 134, 135, 136, 137] := rfl
theorem res_17 : Try.f17.results.toList = [.tmp 8] := rfl
theorem esc_17 : C.esc 17 = [] := rfl
theorem clr_17_0 : C.clr 17 0 = [2, 3, 8] := rfl
theorem clr_17_1 : C.clr 17 1 = [17] := rfl
theorem clr_17_2 : C.clr 17 2 = [18, 19, 20] := rfl
theorem clr_17_3 : C.clr 17 3 = [21, 22] := rfl
theorem clr_17_4 : C.clr 17 4 = [23, 24] := rfl
theorem clr_17_5 : C.clr 17 5 = [10, 11, 12, 25, 26, 27, 28, 29, 30, 31, 32, 33, 34, 35, 36, 37, 38, 39, 40, 41, 42, 43, 44, 45, 46, 47] := rfl
theorem clr_17_6 : C.clr 17 6 = [0, 1, 6, 7, 9, 48, 49] := rfl
theorem clr_17_7 : C.clr 17 7 = [9, 48, 50, 51, 52, 53] := rfl
theorem clr_17_8 : C.clr 17 8 = [54, 55, 56, 57, 58] := rfl
theorem ord_17_8 : C.ord 17 8 = [0, 1, 2, 3, 4, 5] := rfl
theorem ro_17_8 : C.ro 17 8 = false := rfl
theorem clr_17_9 : C.clr 17 9 = [13, 59, 60, 61, 62, 63] := rfl
theorem clr_17_10 : C.clr 17 10 = [7, 14, 64, 65, 66, 67, 68, 69, 70, 71, 72, 73, 74, 75] := rfl
theorem clr_17_11 : C.clr 17 11 = [0, 1, 6, 15, 16, 76, 77, 78, 79, 80, 81, 82, 83, 84, 85, 86, 87, 88, 89, 90, 91, 92] := rfl
theorem res_18 : Try.f18.results.toList = [.tmp 0] := rfl
theorem esc_18 : C.esc 18 = [] := rfl
theorem clr_18_0 : C.clr 18 0 = [0] := rfl
theorem clr_18_1 : C.clr 18 1 = [5, 6, 7] := rfl
theorem clr_18_2 : C.clr 18 2 = [8, 9, 10] := rfl
theorem clr_18_3 : C.clr 18 3 = [1, 2, 11, 12, 13, 14, 15, 16, 17] := rfl
theorem clr_18_4 : C.clr 18 4 = [3, 4, 18, 19, 20, 21, 22, 23, 24, 25, 26, 27, 28, 29, 30, 31, 32, 33, 34, 35, 36, 37, 38] := rfl
theorem res_19 : Try.f19.results.toList = [.tmp 6] := rfl
theorem esc_19 : C.esc 19 = [] := rfl
theorem clr_19_0 : C.clr 19 0 = [0, 6] := rfl
theorem clr_19_1 : C.clr 19 1 = [8, 9] := rfl
theorem clr_19_2 : C.clr 19 2 = [1, 2, 3, 7, 10, 11, 12, 13, 14, 15, 16, 17, 18, 19, 20, 21, 22] := rfl
theorem res_20 : Try.f20.results.toList = [.tmp 6] := rfl
theorem esc_20 : C.esc 20 = [] := rfl
theorem clr_20_0 : C.clr 20 0 = [6] := rfl
theorem clr_20_1 : C.clr 20 1 = [9, 10] := rfl
theorem clr_20_2 : C.clr 20 2 = [0, 1, 2, 11] := rfl
theorem clr_20_3 : C.clr 20 3 = [11] := rfl
theorem clr_20_4 : C.clr 20 4 = [12, 13, 14] := rfl
theorem clr_20_6 : C.clr 20 6 = [15, 18, 19, 20, 21, 22, 23, 24] := rfl
theorem clr_20_7 : C.clr 20 7 = [8, 25] := rfl
theorem clr_20_8 : C.clr 20 8 = [0, 1, 2, 7, 26] := rfl
theorem clr_20_5 : C.clr 20 5 = [16, 17, 26] := rfl
theorem clr_20_9 : C.clr 20 9 = [0, 1, 2, 7, 15] := rfl
theorem res_21 : Try.f21.results.toList = [.tmp 2] := rfl
theorem esc_21 : C.esc 21 = [] := rfl
theorem clr_21_0 : C.clr 21 0 = [0, 2] := rfl
theorem clr_21_1 : C.clr 21 1 = [5, 6, 7, 8, 9, 10, 11, 12] := rfl
theorem clr_21_2 : C.clr 21 2 = [1, 13] := rfl
theorem clr_21_3 : C.clr 21 3 = [13] := rfl
theorem clr_21_4 : C.clr 21 4 = [14, 15, 16, 17] := rfl
theorem clr_21_6 : C.clr 21 6 = [18, 21, 22, 23, 24, 25, 26] := rfl
theorem clr_21_7 : C.clr 21 7 = [4, 27] := rfl
theorem clr_21_8 : C.clr 21 8 = [1, 3, 28] := rfl
theorem clr_21_5 : C.clr 21 5 = [19, 20, 28] := rfl
theorem clr_21_9 : C.clr 21 9 = [1, 3, 18] := rfl
theorem res_22 : Try.f22.results.toList = [.tmp 2] := rfl
theorem esc_22 : C.esc 22 = [] := rfl
theorem clr_22_0 : C.clr 22 0 = [0, 2] := rfl
theorem clr_22_1 : C.clr 22 1 = [1, 3, 4, 5, 6, 7, 8, 9, 10, 11, 12, 13, 14] := rfl
theorem res_23 : Try.f23.results.toList = [.tmp 6] := rfl
theorem esc_23 : C.esc 23 = [4, 5] := rfl
theorem clr_23_0 : C.clr 23 0 = [0, 1, 2, 6] := rfl
theorem clr_23_1 : C.clr 23 1 = [3, 4, 5, 7, 8, 9] := rfl
theorem res_24 : Try.f24.results.toList = [.cell 6 24, .tmp 7] := rfl
theorem esc_24 : C.esc 24 = [] := rfl
theorem clr_24_0 : C.clr 24 0 = [0, 7] := rfl
theorem clr_24_1 : C.clr 24 1 = [10, 11, 12, 13, 14, 15, 16, 17, 18, 19, 20, 21, 22, 23, 24, 25, 26, 27] := rfl
theorem clr_24_2 : C.clr 24 2 = [1, 2, 3, 28, 29] := rfl
theorem clr_24_3 : C.clr 24 3 = [1, 2, 3, 28, 30, 31, 32, 33, 34, 35, 36] := rfl
theorem clr_24_4 : C.clr 24 4 = [38, 39] := rfl
theorem clr_24_5 : C.clr 24 5 = [8, 9, 37, 40, 41] := rfl
theorem clr_24_6 : C.clr 24 6 = [9, 37, 43, 44] := rfl
theorem clr_24_7 : C.clr 24 7 = [8, 42, 45] := rfl
theorem clr_24_8 : C.clr 24 8 = [8, 42, 46] := rfl
theorem res_25 : Try.f25.results.toList = [.cell 6 24, .tmp 7] := rfl
theorem esc_25 : C.esc 25 = [] := rfl
theorem clr_25_0 : C.clr 25 0 = [0, 7] := rfl
theorem clr_25_1 : C.clr 25 1 = [14, 15] := rfl
theorem clr_25_2 : C.clr 25 2 = [8, 16, 17, 18, 19, 20, 21, 22, 23, 24, 25, 26, 27, 28, 29] := rfl
theorem clr_25_3 : C.clr 25 3 = [1, 2, 3, 30, 31] := rfl
theorem clr_25_4 : C.clr 25 4 = [30] := rfl
theorem clr_25_5 : C.clr 25 5 = [32, 33, 34] := rfl
theorem clr_25_7 : C.clr 25 7 = [35, 38, 39, 40, 41, 42] := rfl
theorem clr_25_8 : C.clr 25 8 = [10, 43] := rfl
theorem clr_25_9 : C.clr 25 9 = [1, 2, 3, 9, 44, 45] := rfl
theorem clr_25_6 : C.clr 25 6 = [36, 37, 44] := rfl
theorem clr_25_10 : C.clr 25 10 = [1, 2, 3, 9, 35, 46, 47, 48, 49, 50, 51, 52] := rfl
theorem clr_25_11 : C.clr 25 11 = [53] := rfl
theorem clr_25_12 : C.clr 25 12 = [11, 12, 54, 55, 56] := rfl
theorem clr_25_13 : C.clr 25 13 = [12, 54, 57, 58] := rfl
theorem clr_25_14 : C.clr 25 14 = [13, 59] := rfl
theorem clr_25_15 : C.clr 25 15 = [11, 60, 61] := rfl
theorem clr_25_16 : C.clr 25 16 = [11, 60, 62] := rfl
theorem res_26 : Try.f26.results.toList = [.tmp 4] := rfl
theorem esc_26 : C.esc 26 = [] := rfl
theorem clr_26_0 : C.clr 26 0 = [0, 1, 4] := rfl
theorem clr_26_1 : C.clr 26 1 = [7, 8, 9, 10, 11, 12, 13, 14, 15, 16, 17, 18, 19, 20, 21, 22, 23, 24, 25, 26] := rfl
theorem clr_26_2 : C.clr 26 2 = [2, 3, 27] := rfl
theorem clr_26_3 : C.clr 26 3 = [27] := rfl
theorem clr_26_4 : C.clr 26 4 = [28, 29, 30, 31] := rfl
theorem clr_26_6 : C.clr 26 6 = [32, 35, 36, 37, 38, 39, 40, 41, 42, 43, 44, 45] := rfl
theorem ord_26_6 : C.ord 26 6 = [0, 1, 2, 3, 4, 5, 6, 7, 8, 9, 10, 11] := rfl
theorem ro_26_6 : C.ro 26 6 = true := rfl
theorem clr_26_7 : C.clr 26 7 = [6, 46] := rfl
theorem clr_26_8 : C.clr 26 8 = [2, 3, 5, 47] := rfl
theorem clr_26_5 : C.clr 26 5 = [33, 34, 47] := rfl
theorem clr_26_9 : C.clr 26 9 = [2, 3, 5, 32] := rfl
theorem res_27 : Try.f27.results.toList = [.tmp 6, .tmp 7] := rfl
theorem esc_27 : C.esc 27 = [4, 5] := rfl
theorem clr_27_0 : C.clr 27 0 = [1, 2, 6, 7] := rfl
theorem clr_27_1 : C.clr 27 1 = [0, 4, 5, 8, 9, 10, 11, 12] := rfl
theorem res_28 : Try.f28.results.toList = [.tmp 6, .tmp 7] := rfl
theorem esc_28 : C.esc 28 = [] := rfl
theorem clr_28_0 : C.clr 28 0 = [6, 7] := rfl
theorem clr_28_1 : C.clr 28 1 = [] := rfl
theorem clr_28_2 : C.clr 28 2 = [] := rfl
theorem clr_28_3 : C.clr 28 3 = [12, 13, 14] := rfl
theorem clr_28_5 : C.clr 28 5 = [15, 18, 19, 20, 21, 22, 23, 24, 25, 26, 27, 28, 29] := rfl
theorem clr_28_6 : C.clr 28 6 = [30] := rfl
theorem clr_28_7 : C.clr 28 7 = [0, 1, 2, 8, 9, 10, 11, 31, 32] := rfl
theorem clr_28_8 : C.clr 28 8 = [10, 11, 31, 33, 34, 35, 36] := rfl
theorem clr_28_4 : C.clr 28 4 = [16, 17] := rfl
theorem clr_28_9 : C.clr 28 9 = [0, 1, 2, 8, 9, 15, 37] := rfl
theorem res_29 : Try.f29.results.toList = [.tmp 4] := rfl
theorem esc_29 : C.esc 29 = [] := rfl
theorem clr_29_0 : C.clr 29 0 = [4] := rfl
theorem clr_29_1 : C.clr 29 1 = [7, 8, 9, 10] := rfl
theorem clr_29_2 : C.clr 29 2 = [0, 1, 11] := rfl
theorem clr_29_3 : C.clr 29 3 = [11] := rfl
theorem clr_29_4 : C.clr 29 4 = [12, 13, 14] := rfl
theorem clr_29_6 : C.clr 29 6 = [15, 18, 19, 20, 21, 22, 23, 24, 25, 26] := rfl
theorem ord_29_6 : C.ord 29 6 = [0, 1, 2, 3, 4, 5, 6, 7, 8, 9] := rfl
theorem ro_29_6 : C.ro 29 6 = true := rfl
theorem clr_29_7 : C.clr 29 7 = [6, 27] := rfl
theorem clr_29_8 : C.clr 29 8 = [0, 1, 5, 28] := rfl
theorem clr_29_5 : C.clr 29 5 = [16, 17, 28] := rfl
theorem clr_29_9 : C.clr 29 9 = [0, 1, 5, 15] := rfl
theorem res_30 : Try.f30.results.toList = [.tmp 6, .tmp 7] := rfl
theorem esc_30 : C.esc 30 = [4, 5] := rfl
theorem clr_30_0 : C.clr 30 0 = [1, 2, 6, 7] := rfl
theorem clr_30_1 : C.clr 30 1 = [8, 9, 10, 11] := rfl
theorem clr_30_2 : C.clr 30 2 = [0, 4, 5, 12] := rfl
theorem clr_30_3 : C.clr 30 3 = [0, 4, 5, 12, 13, 14, 15, 16, 17] := rfl
theorem res_31 : Try.f31.results.toList = [.tmp 6, .tmp 7] := rfl
theorem esc_31 : C.esc 31 = [] := rfl
theorem clr_31_0 : C.clr 31 0 = [6, 7] := rfl
theorem clr_31_1 : C.clr 31 1 = [12, 13, 14, 15] := rfl
theorem clr_31_2 : C.clr 31 2 = [0, 1, 2, 16] := rfl
theorem clr_31_3 : C.clr 31 3 = [16] := rfl
theorem clr_31_4 : C.clr 31 4 = [] := rfl
theorem clr_31_5 : C.clr 31 5 = [17, 18, 19] := rfl
theorem clr_31_7 : C.clr 31 7 = [20, 23, 24, 25, 26, 27, 28, 29, 30, 31, 32, 33, 34, 35] := rfl
theorem ord_31_7 : C.ord 31 7 = [0, 1, 2, 3, 4, 5, 6, 7, 8, 13, 9, 10, 11, 12, 14, 15] := rfl
theorem ro_31_7 : C.ro 31 7 = false := rfl
theorem clr_31_8 : C.clr 31 8 = [36] := rfl
theorem clr_31_9 : C.clr 31 9 = [0, 1, 2, 8, 9, 10, 11, 37, 38] := rfl
theorem clr_31_10 : C.clr 31 10 = [10, 11, 37, 39, 40, 41, 42] := rfl
theorem clr_31_6 : C.clr 31 6 = [21, 22] := rfl
theorem clr_31_11 : C.clr 31 11 = [0, 1, 2, 8, 9, 20, 43] := rfl
theorem res_32 : Try.f32.results.toList = [.tmp 2] := rfl
theorem esc_32 : C.esc 32 = [] := rfl
theorem clr_32_0 : C.clr 32 0 = [0, 2] := rfl
theorem clr_32_1 : C.clr 32 1 = [5, 6] := rfl
theorem clr_32_2 : C.clr 32 2 = [1, 7] := rfl
theorem clr_32_3 : C.clr 32 3 = [7] := rfl
theorem clr_32_4 : C.clr 32 4 = [8, 9, 10, 11] := rfl
theorem clr_32_6 : C.clr 32 6 = [12, 15, 16, 17, 18, 19, 20] := rfl
theorem clr_32_7 : C.clr 32 7 = [4] := rfl
theorem clr_32_8 : C.clr 32 8 = [1, 3, 21] := rfl
theorem clr_32_5 : C.clr 32 5 = [13, 14, 21] := rfl
theorem clr_32_9 : C.clr 32 9 = [1, 3, 12] := rfl
theorem res_33 : Try.f33.results.toList = [.tmp 4] := rfl
theorem esc_33 : C.esc 33 = [] := rfl
theorem clr_33_0 : C.clr 33 0 = [0, 1, 4] := rfl
theorem clr_33_1 : C.clr 33 1 = [7, 8, 9, 10, 11, 12, 13, 14, 15, 16, 17, 18, 19, 20, 21, 22, 23, 24, 25, 26] := rfl
theorem clr_33_2 : C.clr 33 2 = [2, 3, 27] := rfl
theorem clr_33_3 : C.clr 33 3 = [2, 27, 28] := rfl
theorem clr_33_4 : C.clr 33 4 = [] := rfl
theorem clr_33_5 : C.clr 33 5 = [32, 33, 34, 35] := rfl
theorem clr_33_6 : C.clr 33 6 = [5, 6, 36, 37, 38, 39, 40, 41, 42] := rfl
theorem ord_33_6 : C.ord 33 6 = [0, 1, 2, 3, 4, 5, 6, 7] := rfl
theorem ro_33_6 : C.ro 33 6 = true := rfl
theorem clr_33_7 : C.clr 33 7 = [3, 29, 30, 31, 43] := rfl
theorem clr_33_8 : C.clr 33 8 = [43, 44] := rfl
theorem clr_33_9 : C.clr 33 9 = [3, 29, 30, 31, 32] := rfl
theorem res_34 : Try.f34.results.toList = [.cell 2 43] := rfl
theorem esc_34 : C.esc 34 = [] := rfl
theorem clr_34_0 : C.clr 34 0 = [] := rfl
theorem clr_34_1 : C.clr 34 1 = [5, 6, 7] := rfl
theorem clr_34_2 : C.clr 34 2 = [8, 9] := rfl
theorem clr_34_3 : C.clr 34 3 = [] := rfl
theorem clr_34_4 : C.clr 34 4 = [] := rfl
theorem clr_34_5 : C.clr 34 5 = [12, 13] := rfl
theorem clr_34_6 : C.clr 34 6 = [4, 14, 15, 16, 17, 18, 19, 20, 21, 22, 23] := rfl
theorem clr_34_7 : C.clr 34 7 = [24] := rfl
theorem clr_34_8 : C.clr 34 8 = [0, 3, 10, 11, 12, 25] := rfl
theorem res_35 : Try.f35.results.toList = [.cell 4 24, .tmp 5] := rfl
theorem esc_35 : C.esc 35 = [2, 3] := rfl
theorem clr_35_0 : C.clr 35 0 = [0, 1, 5] := rfl
theorem clr_35_1 : C.clr 35 1 = [6, 7, 8, 9, 10, 11, 12] := rfl
theorem clr_35_2 : C.clr 35 2 = [2, 3, 13, 14] := rfl
theorem clr_35_3 : C.clr 35 3 = [2, 3, 13, 15, 16, 17, 18] := rfl
theorem res_36 : Try.f36.results.toList = [.tmp 0] := rfl
theorem esc_36 : C.esc 36 = [] := rfl
theorem clr_36_0 : C.clr 36 0 = [0] := rfl
theorem clr_36_1 : C.clr 36 1 = [8] := rfl
theorem clr_36_2 : C.clr 36 2 = [9, 10, 11] := rfl
theorem clr_36_3 : C.clr 36 3 = [12, 13, 14] := rfl
theorem clr_36_4 : C.clr 36 4 = [15, 16, 17, 18, 19, 20] := rfl
theorem ord_36_4 : C.ord 36 4 = [1, 2, 3, 4, 0, 5, 6] := rfl
theorem ro_36_4 : C.ro 36 4 = true := rfl
theorem clr_36_5 : C.clr 36 5 = [21, 22, 23, 24] := rfl
theorem ord_36_5 : C.ord 36 5 = [1, 2, 0, 3, 4] := rfl
theorem ro_36_5 : C.ro 36 5 = true := rfl
theorem clr_36_6 : C.clr 36 6 = [3, 25, 26, 27, 28, 29, 30, 31] := rfl
theorem ord_36_6 : C.ord 36 6 = [1, 0, 2, 3, 4, 5, 6, 7] := rfl
theorem ro_36_6 : C.ro 36 6 = true := rfl
theorem clr_36_7 : C.clr 36 7 = [2, 32, 33, 34, 35] := rfl
theorem ord_36_7 : C.ord 36 7 = [1, 2, 0, 3, 4] := rfl
theorem ro_36_7 : C.ro 36 7 = true := rfl
theorem clr_36_8 : C.clr 36 8 = [1, 4, 5, 6, 7, 36, 37, 38, 39, 40, 41, 42, 43, 44, 45, 46, 47, 48, 49, 50, 51, 52, 53, 54, 55] := rfl
theorem ord_36_8 : C.ord 36 8 = [0, 1, 2, 3, 4, 5, 6, 7, 8, 9, 10, 11, 12, 13, 14, 16, 15, 17, 18, 19, 20] := rfl
theorem ro_36_8 : C.ro 36 8 = true := rfl
theorem res_37 : Try.f37.results.toList = [.tmp 6] := rfl
theorem esc_37 : C.esc 37 = [] := rfl
theorem clr_37_0 : C.clr 37 0 = [6] := rfl
theorem clr_37_1 : C.clr 37 1 = [0, 12, 13] := rfl
theorem clr_37_2 : C.clr 37 2 = [7, 14, 15, 16, 17, 18, 19] := rfl
theorem clr_37_3 : C.clr 37 3 = [1, 2, 20] := rfl
theorem clr_37_4 : C.clr 37 4 = [20] := rfl
theorem clr_37_5 : C.clr 37 5 = [21, 22, 23] := rfl
theorem clr_37_7 : C.clr 37 7 = [24, 27, 28, 29, 30, 31, 32] := rfl
theorem clr_37_8 : C.clr 37 8 = [33, 34, 35, 36, 37, 38] := rfl
theorem clr_37_9 : C.clr 37 9 = [9, 10, 39, 40, 41, 42, 43] := rfl
theorem clr_37_10 : C.clr 37 10 = [1, 2, 8, 44] := rfl
theorem clr_37_6 : C.clr 37 6 = [25, 26, 44] := rfl
theorem clr_37_11 : C.clr 37 11 = [1, 2, 8, 24, 45, 46] := rfl
theorem clr_37_12 : C.clr 37 12 = [11, 47] := rfl
theorem res_38 : Try.f38.results.toList = [.tmp 10] := rfl
theorem esc_38 : C.esc 38 = [] := rfl
theorem clr_38_0 : C.clr 38 0 = [3, 4, 10] := rfl
theorem clr_38_1 : C.clr 38 1 = [0, 1, 2, 12, 13, 14, 15] := rfl
theorem clr_38_2 : C.clr 38 2 = [16, 17, 18, 19, 20] := rfl
theorem clr_38_3 : C.clr 38 3 = [8, 9, 11, 21] := rfl
theorem clr_38_4 : C.clr 38 4 = [8, 9, 11, 21, 22, 23, 24, 25] := rfl
theorem res_39 : Try.f39.results.toList = [.tmp 10] := rfl
theorem esc_39 : C.esc 39 = [25] := rfl
theorem clr_39_0 : C.clr 39 0 = [3, 4, 10] := rfl
theorem clr_39_1 : C.clr 39 1 = [13, 14, 15, 16, 17, 18, 19] := rfl
theorem clr_39_2 : C.clr 39 2 = [11, 20] := rfl
theorem clr_39_3 : C.clr 39 3 = [0, 1, 2, 8, 9, 21] := rfl
theorem clr_39_4 : C.clr 39 4 = [0, 1, 21, 22, 23, 24] := rfl
theorem clr_39_5 : C.clr 39 5 = [2, 8, 9, 12, 25, 26, 27, 28, 29, 30] := rfl
theorem res_40 : Try.f40.results.toList = [.tmp 8] := rfl
theorem esc_40 : C.esc 40 = [] := rfl
theorem clr_40_0 : C.clr 40 0 = [3, 8] := rfl
theorem clr_40_1 : C.clr 40 1 = [0, 1, 2, 10, 11, 12, 13] := rfl
theorem clr_40_2 : C.clr 40 2 = [14, 15, 16, 17] := rfl
theorem clr_40_3 : C.clr 40 3 = [7, 9, 18] := rfl
theorem clr_40_4 : C.clr 40 4 = [7, 9, 18, 19, 20, 21] := rfl
theorem res_41 : Try.f41.results.toList = [.tmp 8] := rfl
theorem esc_41 : C.esc 41 = [22] := rfl
theorem clr_41_0 : C.clr 41 0 = [3, 8] := rfl
theorem clr_41_1 : C.clr 41 1 = [11, 12, 13, 14, 15, 16] := rfl
theorem clr_41_2 : C.clr 41 2 = [9, 17] := rfl
theorem clr_41_3 : C.clr 41 3 = [0, 1, 2, 7, 18] := rfl
theorem clr_41_4 : C.clr 41 4 = [0, 1, 18, 19, 20, 21] := rfl
theorem clr_41_5 : C.clr 41 5 = [2, 7, 10, 22, 23, 24, 25, 26] := rfl
theorem res_42 : Try.f42.results.toList = [.tmp 8] := rfl
theorem esc_42 : C.esc 42 = [] := rfl
theorem clr_42_0 : C.clr 42 0 = [3, 8] := rfl
theorem clr_42_1 : C.clr 42 1 = [0, 1, 2, 10, 11, 12, 13] := rfl
theorem clr_42_2 : C.clr 42 2 = [14, 15, 16, 17] := rfl
theorem clr_42_3 : C.clr 42 3 = [7, 9, 18] := rfl
theorem clr_42_4 : C.clr 42 4 = [7, 9, 18, 19, 20, 21] := rfl
theorem res_43 : Try.f43.results.toList = [.tmp 8] := rfl
theorem esc_43 : C.esc 43 = [22] := rfl
theorem clr_43_0 : C.clr 43 0 = [3, 8] := rfl
theorem clr_43_1 : C.clr 43 1 = [11, 12, 13, 14, 15, 16] := rfl
theorem clr_43_2 : C.clr 43 2 = [9, 17] := rfl
theorem clr_43_3 : C.clr 43 3 = [0, 1, 2, 7, 18] := rfl
theorem clr_43_4 : C.clr 43 4 = [0, 1, 18, 19, 20, 21] := rfl
theorem clr_43_5 : C.clr 43 5 = [2, 7, 10, 22, 23, 24, 25, 26] := rfl
theorem res_44 : Try.f44.results.toList = [.tmp 4] := rfl
theorem esc_44 : C.esc 44 = [] := rfl
theorem clr_44_0 : C.clr 44 0 = [4] := rfl
theorem clr_44_1 : C.clr 44 1 = [] := rfl
theorem clr_44_2 : C.clr 44 2 = [7, 8, 9] := rfl
theorem clr_44_4 : C.clr 44 4 = [10, 13, 14, 15, 16, 17, 18, 19, 20, 21, 22, 23, 24, 25, 26, 27, 28, 29, 30, 31, 32, 33] := rfl
theorem ord_44_4 : C.ord 44 4 = [0, 1, 2, 3, 4, 5, 6, 7, 8, 9, 10, 11, 12, 13, 14, 15, 16, 17, 18, 19, 20, 21] := rfl
theorem ro_44_4 : C.ro 44 4 = true := rfl
theorem clr_44_5 : C.clr 44 5 = [0, 1, 5, 34] := rfl
theorem clr_44_3 : C.clr 44 3 = [11, 12, 34] := rfl
theorem clr_44_6 : C.clr 44 6 = [5, 10] := rfl
theorem clr_44_7 : C.clr 44 7 = [35, 36, 37] := rfl
theorem clr_44_9 : C.clr 44 9 = [38, 41, 42, 43, 44, 45, 46, 47, 48, 49] := rfl
theorem ord_44_9 : C.ord 44 9 = [0, 1, 2, 3, 4, 5, 6, 7, 8, 9] := rfl
theorem ro_44_9 : C.ro 44 9 = true := rfl
theorem clr_44_10 : C.clr 44 10 = [0, 1, 6, 50] := rfl
theorem clr_44_8 : C.clr 44 8 = [39, 40, 50] := rfl
theorem clr_44_11 : C.clr 44 11 = [0, 1, 6, 38] := rfl
theorem res_45 : Try.f45.results.toList = [.cell 6 24] := rfl
theorem esc_45 : C.esc 45 = [] := rfl
theorem clr_45_0 : C.clr 45 0 = [0] := rfl
theorem clr_45_1 : C.clr 45 1 = [9, 10, 11, 12] := rfl
theorem clr_45_2 : C.clr 45 2 = [1, 2, 3, 13, 14, 15] := rfl
theorem clr_45_3 : C.clr 45 3 = [1, 2, 3, 8, 13, 16, 17, 18, 19, 20, 21, 22, 23, 24] := rfl
theorem clr_45_4 : C.clr 45 4 = [7, 25] := rfl
theorem res_46 : Try.f46.results.toList = [.tmp 2] := rfl
theorem esc_46 : C.esc 46 = [] := rfl
theorem clr_46_0 : C.clr 46 0 = [0, 2] := rfl
theorem clr_46_1 : C.clr 46 1 = [5, 6] := rfl
theorem clr_46_2 : C.clr 46 2 = [1, 7] := rfl
theorem clr_46_3 : C.clr 46 3 = [7] := rfl
theorem clr_46_4 : C.clr 46 4 = [8, 9, 10, 11] := rfl
theorem clr_46_6 : C.clr 46 6 = [12, 15, 16, 17, 18, 19, 20] := rfl
theorem clr_46_7 : C.clr 46 7 = [4, 21] := rfl
theorem clr_46_8 : C.clr 46 8 = [1, 3, 22] := rfl
theorem clr_46_5 : C.clr 46 5 = [13, 14, 22] := rfl
theorem clr_46_9 : C.clr 46 9 = [1, 3, 12] := rfl
theorem res_47 : Try.f47.results.toList = [.tmp 2] := rfl
theorem esc_47 : C.esc 47 = [] := rfl
theorem clr_47_0 : C.clr 47 0 = [0, 2] := rfl
theorem clr_47_1 : C.clr 47 1 = [] := rfl
theorem clr_47_2 : C.clr 47 2 = [] := rfl
theorem clr_47_3 : C.clr 47 3 = [5, 6, 7, 8] := rfl
theorem clr_47_5 : C.clr 47 5 = [9, 12, 13, 14, 15, 16, 17, 18, 19] := rfl
theorem clr_47_4 : C.clr 47 4 = [10, 11] := rfl
theorem clr_47_6 : C.clr 47 6 = [1, 3, 4, 9, 20] := rfl
theorem res_48 : Try.f48.results.toList = [.tmp 2] := rfl
theorem esc_48 : C.esc 48 = [] := rfl
theorem clr_48_0 : C.clr 48 0 = [0, 2] := rfl
theorem clr_48_1 : C.clr 48 1 = [] := rfl
theorem clr_48_2 : C.clr 48 2 = [] := rfl
theorem clr_48_3 : C.clr 48 3 = [6, 7, 8, 9] := rfl
theorem clr_48_5 : C.clr 48 5 = [10, 13, 14, 15, 16, 17, 18] := rfl
theorem clr_48_6 : C.clr 48 6 = [19, 20] := rfl
theorem clr_48_7 : C.clr 48 7 = [5, 21, 22] := rfl
theorem clr_48_4 : C.clr 48 4 = [5, 11, 12, 21] := rfl
theorem clr_48_8 : C.clr 48 8 = [1, 3, 4, 10, 23, 24] := rfl
theorem res_49 : Try.f49.results.toList = [.tmp 2] := rfl
theorem esc_49 : C.esc 49 = [] := rfl
theorem clr_49_0 : C.clr 49 0 = [0, 2] := rfl
theorem clr_49_1 : C.clr 49 1 = [] := rfl
theorem clr_49_2 : C.clr 49 2 = [1, 6] := rfl
theorem clr_49_3 : C.clr 49 3 = [] := rfl
theorem clr_49_4 : C.clr 49 4 = [10, 11, 12] := rfl
theorem clr_49_5 : C.clr 49 5 = [5, 13, 14, 15, 16] := rfl
theorem clr_49_6 : C.clr 49 6 = [17] := rfl
theorem clr_49_7 : C.clr 49 7 = [3, 7, 8, 9, 10, 18, 19] := rfl
theorem res_50 : Try.f50.results.toList = [.tmp 2] := rfl
theorem esc_50 : C.esc 50 = [3] := rfl
theorem clr_50_0 : C.clr 50 0 = [0] := rfl
theorem clr_50_1 : C.clr 50 1 = [] := rfl
theorem clr_50_2 : C.clr 50 2 = [1, 4] := rfl
theorem clr_50_3 : C.clr 50 3 = [2, 3, 5, 6, 7, 8, 9] := rfl
theorem clr_50_4 : C.clr 50 4 = [3, 5, 10] := rfl
theorem res_51 : Try.f51.results.toList = [.cell 4 4] := rfl
theorem esc_51 : C.esc 51 = [3, 4] := rfl
theorem clr_51_0 : C.clr 51 0 = [0, 1] := rfl
theorem clr_51_1 : C.clr 51 1 = [2, 7] := rfl
theorem clr_51_2 : C.clr 51 2 = [8, 9] := rfl
theorem clr_51_3 : C.clr 51 3 = [10] := rfl
theorem clr_51_4 : C.clr 51 4 = [3, 5, 6, 11, 12, 13, 14] := rfl
theorem clr_51_5 : C.clr 51 5 = [15] := rfl
theorem clr_51_6 : C.clr 51 6 = [3, 8] := rfl
theorem res_52 : Try.f52.results.toList = [.tmp 4] := rfl
theorem esc_52 : C.esc 52 = [] := rfl
theorem clr_52_0 : C.clr 52 0 = [0, 1, 4] := rfl
theorem clr_52_1 : C.clr 52 1 = [3, 5, 6] := rfl
theorem res_53 : Try.f53.results.toList = [.tmp 2] := rfl
theorem esc_53 : C.esc 53 = [] := rfl
theorem clr_53_0 : C.clr 53 0 = [0, 2] := rfl
theorem clr_53_1 : C.clr 53 1 = [3] := rfl
theorem clr_53_2 : C.clr 53 2 = [6] := rfl
theorem clr_53_3 : C.clr 53 3 = [1, 4, 5, 7, 8, 9, 10, 11, 12, 13, 14, 15] := rfl
theorem clr_53_4 : C.clr 53 4 = [5, 17] := rfl
theorem clr_53_5 : C.clr 53 5 = [1, 4, 16, 18, 19, 20, 21, 22, 23, 24, 25, 26] := rfl
theorem clr_53_6 : C.clr 53 6 = [4, 16, 28] := rfl
theorem clr_53_7 : C.clr 53 7 = [1, 27, 29, 30, 31, 32, 33, 34, 35, 36, 37] := rfl
theorem clr_53_8 : C.clr 53 8 = [1, 27, 38, 39, 40, 41, 42, 43, 44, 45, 46, 47, 48, 49, 50] := rfl
theorem res_54 : Try.f54.results.toList = [.tmp 6] := rfl
theorem esc_54 : C.esc 54 = [] := rfl
theorem clr_54_0 : C.clr 54 0 = [1, 6] := rfl
theorem clr_54_1 : C.clr 54 1 = [0, 2, 3, 5, 7, 8, 9, 10, 11, 12, 13, 14, 15, 16, 17, 18, 19, 20, 21, 22, 23, 24, 25, 26, 27, 28] := rfl
theorem res_55 : Try.f55.results.toList = [.tmp 2] := rfl
theorem esc_55 : C.esc 55 = [] := rfl
theorem clr_55_0 : C.clr 55 0 = [0, 2] := rfl
theorem clr_55_1 : C.clr 55 1 = [1, 3, 4, 5] := rfl
theorem res_56 : Try.f56.results.toList = [.tmp 4] := rfl
theorem esc_56 : C.esc 56 = [] := rfl
theorem clr_56_0 : C.clr 56 0 = [4] := rfl
theorem clr_56_1 : C.clr 56 1 = [0, 1, 5, 6, 7, 8] := rfl
theorem res_57 : Try.f57.results.toList = [.cell 6 24, .tmp 7] := rfl
theorem esc_57 : C.esc 57 = [3, 4, 5, 8] := rfl
theorem clr_57_0 : C.clr 57 0 = [0, 1, 2, 7] := rfl
theorem clr_57_1 : C.clr 57 1 = [11, 12, 13, 14, 15, 16, 17, 18] := rfl
theorem clr_57_2 : C.clr 57 2 = [8, 19, 20, 21, 22, 23, 24, 25] := rfl
theorem clr_57_3 : C.clr 57 3 = [27, 28] := rfl
theorem clr_57_4 : C.clr 57 4 = [3, 4, 5, 9, 10, 26, 29, 30] := rfl
theorem clr_57_5 : C.clr 57 5 = [10, 26, 32, 33, 34] := rfl
theorem clr_57_6 : C.clr 57 6 = [3, 4, 5, 9, 31, 35, 36, 37, 38, 39, 40] := rfl
theorem clr_57_7 : C.clr 57 7 = [31, 42, 43, 44, 45, 46] := rfl
theorem clr_57_8 : C.clr 57 8 = [3, 4, 5, 9, 41, 47] := rfl
theorem clr_57_9 : C.clr 57 9 = [41, 49, 50] := rfl
theorem clr_57_10 : C.clr 57 10 = [3, 4, 5, 9, 48, 51] := rfl
theorem clr_57_11 : C.clr 57 11 = [3, 4, 5, 9, 48, 52, 53, 54, 55, 56, 57, 58, 59, 60, 61, 62] := rfl
theorem ord_57_11 : C.ord 57 11 = [0, 1, 2, 3, 4, 5, 6, 7, 8, 9, 10, 11, 12] := rfl
theorem ro_57_11 : C.ro 57 11 = false := rfl
theorem res_58 : Try.f58.results.toList = [.tmp 2] := rfl
theorem esc_58 : C.esc 58 = [] := rfl
theorem clr_58_0 : C.clr 58 0 = [0, 2] := rfl
theorem clr_58_1 : C.clr 58 1 = [4, 5] := rfl
theorem clr_58_2 : C.clr 58 2 = [1, 3, 6, 7, 8, 9, 10, 11, 12, 13, 14, 15, 16] := rfl
theorem res_59 : Try.f59.results.toList = [.cell 6 24, .tmp 7] := rfl
theorem esc_59 : C.esc 59 = [] := rfl
theorem clr_59_0 : C.clr 59 0 = [0, 7] := rfl
theorem clr_59_1 : C.clr 59 1 = [17] := rfl
theorem clr_59_2 : C.clr 59 2 = [] := rfl
theorem clr_59_3 : C.clr 59 3 = [] := rfl
theorem clr_59_4 : C.clr 59 4 = [18, 19, 20, 21] := rfl
theorem clr_59_6 : C.clr 59 6 = [22, 25, 26, 27, 28, 29, 30, 31, 32, 33, 34, 35, 36, 37, 38, 39] := rfl
theorem ord_59_6 : C.ord 59 6 = [0, 1, 2, 3, 4, 5, 6, 7, 8, 15, 9, 10, 11, 12, 13, 14, 16, 17] := rfl
theorem ro_59_6 : C.ro 59 6 = false := rfl
theorem clr_59_7 : C.clr 59 7 = [40] := rfl
theorem clr_59_8 : C.clr 59 8 = [1, 2, 3, 8, 9, 10, 11, 12, 41, 42, 43] := rfl
theorem clr_59_9 : C.clr 59 9 = [11, 12, 41, 44, 45, 46, 47] := rfl
theorem clr_59_5 : C.clr 59 5 = [23, 24] := rfl
theorem clr_59_10 : C.clr 59 10 = [10, 22, 48, 49] := rfl
theorem clr_59_11 : C.clr 59 11 = [1, 2, 3, 8, 9, 50, 51, 52, 53, 54, 55, 56] := rfl
theorem clr_59_12 : C.clr 59 12 = [50, 57, 58, 59, 60] := rfl
theorem clr_59_13 : C.clr 59 13 = [1, 2, 3, 8, 9, 61, 62] := rfl
theorem clr_59_14 : C.clr 59 14 = [61] := rfl
theorem clr_59_15 : C.clr 59 15 = [63, 64, 65] := rfl
theorem clr_59_17 : C.clr 59 17 = [66, 69, 70, 71, 72, 73] := rfl
theorem clr_59_18 : C.clr 59 18 = [14, 74] := rfl
theorem clr_59_19 : C.clr 59 19 = [1, 2, 3, 8, 9, 13, 75, 76] := rfl
theorem clr_59_16 : C.clr 59 16 = [67, 68, 75] := rfl
theorem clr_59_20 : C.clr 59 20 = [1, 2, 3, 8, 9, 13, 66, 77, 78, 79, 80, 81, 82, 83, 84, 85, 86, 87, 88] := rfl
theorem clr_59_21 : C.clr 59 21 = [15, 16, 89, 90] := rfl
theorem res_60 : Try.f60.results.toList = [.tmp 4, .tmp 5] := rfl
theorem esc_60 : C.esc 60 = [] := rfl
theorem clr_60_0 : C.clr 60 0 = [4, 5] := rfl
theorem clr_60_1 : C.clr 60 1 = [] := rfl
theorem clr_60_2 : C.clr 60 2 = [0] := rfl
theorem clr_60_3 : C.clr 60 3 = [] := rfl
theorem clr_60_4 : C.clr 60 4 = [14, 15, 16, 17] := rfl
theorem clr_60_5 : C.clr 60 5 = [7, 8, 18, 19, 20, 21, 22, 23, 24] := rfl
theorem clr_60_6 : C.clr 60 6 = [25] := rfl
theorem clr_60_7 : C.clr 60 7 = [1, 6, 9, 10, 11, 12, 13, 26, 27] := rfl
theorem clr_60_8 : C.clr 60 8 = [9, 10, 26, 28, 29, 30, 31] := rfl
theorem clr_60_9 : C.clr 60 9 = [32] := rfl
theorem clr_60_10 : C.clr 60 10 = [1, 6, 11, 12, 13, 14, 33] := rfl
theorem res_61 : Try.f61.results.toList = [.cell 6 24, .tmp 7] := rfl
theorem esc_61 : C.esc 61 = [] := rfl
theorem clr_61_0 : C.clr 61 0 = [1, 7] := rfl
theorem clr_61_1 : C.clr 61 1 = [0, 2, 3, 5, 8, 9, 10, 11, 12, 13, 14, 15] := rfl
theorem res_62 : Try.f62.results.toList = [.cell 6 24, .tmp 7] := rfl
theorem esc_62 : C.esc 62 = [] := rfl
theorem clr_62_0 : C.clr 62 0 = [1, 7] := rfl
theorem clr_62_1 : C.clr 62 1 = [0, 2, 3, 5, 8, 9, 10, 11, 12, 13, 14, 15, 16] := rfl
theorem ord_62_1 : C.ord 62 1 = [0, 1, 2, 3, 4, 5, 6, 7, 8, 9, 10] := rfl
theorem ro_62_1 : C.ro 62 1 = false := rfl
theorem res_63 : Try.f63.results.toList = [.tmp 2] := rfl
theorem esc_63 : C.esc 63 = [] := rfl
theorem clr_63_0 : C.clr 63 0 = [0, 2] := rfl
theorem clr_63_1 : C.clr 63 1 = [] := rfl
theorem clr_63_2 : C.clr 63 2 = [1, 3, 4, 5, 6, 7, 8, 9, 10, 11, 12, 13, 14, 15, 16, 17, 18, 19, 20, 21, 22, 23, 24] := rfl
theorem res_64 : Try.f64.results.toList = [.cell 2 24, .cell 3 29] := rfl
theorem esc_64 : C.esc 64 = [2, 3, 7] := rfl
theorem clr_64_0 : C.clr 64 0 = [] := rfl
theorem clr_64_1 : C.clr 64 1 = [4] := rfl
theorem clr_64_2 : C.clr 64 2 = [0, 5, 6, 7, 8] := rfl
theorem clr_64_3 : C.clr 64 3 = [9, 10] := rfl
theorem clr_64_4 : C.clr 64 4 = [11, 12] := rfl
theorem clr_64_5 : C.clr 64 5 = [11, 13] := rfl
theorem res_65 : Try.f65.results.toList = [.cell 4 24] := rfl
theorem esc_65 : C.esc 65 = [] := rfl
theorem clr_65_0 : C.clr 65 0 = [] := rfl
theorem clr_65_1 : C.clr 65 1 = [0, 1, 2, 5, 6, 7, 8] := rfl
theorem res_66 : Try.f66.results.toList = [.cell 6 24] := rfl
theorem esc_66 : C.esc 66 = [] := rfl
theorem clr_66_0 : C.clr 66 0 = [1, 2] := rfl
theorem clr_66_1 : C.clr 66 1 = [11, 12, 13, 14, 15, 16, 17] := rfl
theorem clr_66_2 : C.clr 66 2 = [18, 19, 20, 21] := rfl
theorem clr_66_3 : C.clr 66 3 = [22, 23] := rfl
theorem clr_66_4 : C.clr 66 4 = [22, 24, 25, 26, 27, 28] := rfl
theorem clr_66_5 : C.clr 66 5 = [29] := rfl
theorem clr_66_6 : C.clr 66 6 = [] := rfl
theorem clr_66_7 : C.clr 66 7 = [33, 34, 35, 36] := rfl
theorem clr_66_8 : C.clr 66 8 = [37] := rfl
theorem clr_66_9 : C.clr 66 9 = [8, 38, 39, 40, 41, 42, 43, 44, 45, 46, 47, 48, 49, 50, 51, 52] := rfl
theorem clr_66_10 : C.clr 66 10 = [53, 54, 55] := rfl
theorem clr_66_11 : C.clr 66 11 = [9, 10, 53, 56, 57, 58, 59, 60, 61, 62, 63, 64] := rfl
theorem ord_66_11 : C.ord 66 11 = [0, 1, 2, 3, 4, 5, 6, 7, 8, 9] := rfl
theorem ro_66_11 : C.ro 66 11 = false := rfl
theorem clr_66_12 : C.clr 66 12 = [65] := rfl
theorem clr_66_13 : C.clr 66 13 = [30, 31, 32, 33, 66, 67] := rfl
theorem clr_66_14 : C.clr 66 14 = [0, 4, 5, 7, 68, 69] := rfl
theorem clr_66_15 : C.clr 66 15 = [0, 4, 5, 7, 68, 70, 71, 72, 73, 74, 75, 76, 77] := rfl
theorem ord_66_15 : C.ord 66 15 = [0, 1, 2, 3, 5, 6, 4, 7, 8] := rfl
theorem ro_66_15 : C.ro 66 15 = false := rfl
theorem res_67 : Try.f67.results.toList = [.tmp 0] := rfl
theorem esc_67 : C.esc 67 = [] := rfl
theorem clr_67_0 : C.clr 67 0 = [0] := rfl
theorem clr_67_1 : C.clr 67 1 = [2] := rfl
theorem clr_67_2 : C.clr 67 2 = [1, 3, 4, 5, 6, 7, 8, 9, 10, 11] := rfl
theorem res_68 : Try.f68.results.toList = [.tmp 2] := rfl
theorem esc_68 : C.esc 68 = [] := rfl
theorem clr_68_0 : C.clr 68 0 = [2] := rfl
theorem clr_68_1 : C.clr 68 1 = [5, 6] := rfl
theorem clr_68_2 : C.clr 68 2 = [0, 7] := rfl
theorem clr_68_3 : C.clr 68 3 = [7] := rfl
theorem clr_68_4 : C.clr 68 4 = [8, 9, 10] := rfl
theorem clr_68_6 : C.clr 68 6 = [11, 14, 15, 16, 17, 18, 19] := rfl
theorem clr_68_7 : C.clr 68 7 = [4, 20] := rfl
theorem clr_68_8 : C.clr 68 8 = [0, 3, 21] := rfl
theorem clr_68_5 : C.clr 68 5 = [12, 13, 21] := rfl
theorem clr_68_9 : C.clr 68 9 = [0, 3, 11] := rfl
theorem res_69 : Try.f69.results.toList = [.tmp 4] := rfl
theorem esc_69 : C.esc 69 = [5] := rfl
theorem clr_69_0 : C.clr 69 0 = [0, 4] := rfl
theorem clr_69_1 : C.clr 69 1 = [] := rfl
theorem clr_69_2 : C.clr 69 2 = [1, 7, 8, 9, 10, 11, 12, 13, 14, 15, 16, 17, 18, 19, 20] := rfl
theorem clr_69_3 : C.clr 69 3 = [2, 5, 21] := rfl
theorem clr_69_4 : C.clr 69 4 = [21, 22] := rfl
theorem clr_69_5 : C.clr 69 5 = [2, 5, 6, 23, 24, 25, 26, 27, 28, 29, 30, 31, 32, 33, 34] := rfl
theorem res_70 : Try.f70.results.toList = [.tmp 6] := rfl
theorem esc_70 : C.esc 70 = [] := rfl
theorem clr_70_0 : C.clr 70 0 = [0, 1, 2, 6] := rfl
theorem clr_70_1 : C.clr 70 1 = [11, 12, 13, 14, 15, 16, 17, 18] := rfl
theorem clr_70_2 : C.clr 70 2 = [3, 4, 5, 10, 19, 20, 21, 22, 23, 24, 25, 26, 27, 28, 29, 30, 31, 32, 33] := rfl
theorem ord_70_2 : C.ord 70 2 = [0, 1, 2, 3, 4, 6, 7, 8, 9, 10, 11, 12, 13, 5, 14, 15] := rfl
theorem ro_70_2 : C.ro 70 2 = true := rfl
theorem clr_70_3 : C.clr 70 3 = [10, 35, 36, 37, 38, 39, 40, 41, 42] := rfl
theorem clr_70_4 : C.clr 70 4 = [3, 4, 5, 34] := rfl
theorem clr_70_5 : C.clr 70 5 = [34, 43] := rfl
theorem clr_70_6 : C.clr 70 6 = [3, 4, 7, 44, 45, 46, 47, 48, 49, 50, 51, 52, 53] := rfl
theorem ord_70_6 : C.ord 70 6 = [0, 1, 2, 3, 4, 5, 10, 6, 7, 8, 9, 11, 12] := rfl
theorem ro_70_6 : C.ro 70 6 = false := rfl
theorem clr_70_7 : C.clr 70 7 = [5, 8, 54, 55, 56, 57, 58, 59, 60] := rfl
theorem clr_70_8 : C.clr 70 8 = [61] := rfl
theorem clr_70_9 : C.clr 70 9 = [9, 61, 62] := rfl
theorem res_71 : Try.f71.results.toList = [.tmp 8] := rfl
theorem esc_71 : C.esc 71 = [] := rfl
theorem clr_71_0 : C.clr 71 0 = [8] := rfl
theorem clr_71_1 : C.clr 71 1 = [16, 17] := rfl
theorem clr_71_2 : C.clr 71 2 = [0, 1, 2, 3, 18] := rfl
theorem clr_71_3 : C.clr 71 3 = [18] := rfl
theorem clr_71_4 : C.clr 71 4 = [19, 20, 21] := rfl
theorem clr_71_6 : C.clr 71 6 = [22, 25, 26, 27, 28, 29, 30] := rfl
theorem clr_71_7 : C.clr 71 7 = [10, 31] := rfl
theorem clr_71_8 : C.clr 71 8 = [0, 1, 2, 3, 9, 32] := rfl
theorem clr_71_5 : C.clr 71 5 = [23, 24, 32] := rfl
theorem clr_71_9 : C.clr 71 9 = [0, 9, 22] := rfl
theorem clr_71_10 : C.clr 71 10 = [33, 34, 35] := rfl
theorem clr_71_12 : C.clr 71 12 = [36, 39, 40, 41, 42, 43, 44] := rfl
theorem clr_71_13 : C.clr 71 13 = [45, 46, 47, 48, 49, 50] := rfl
theorem clr_71_14 : C.clr 71 14 = [12, 13, 51, 52, 53, 54, 55] := rfl
theorem clr_71_15 : C.clr 71 15 = [1, 2, 3, 11, 56] := rfl
theorem clr_71_11 : C.clr 71 11 = [37, 38, 56] := rfl
theorem clr_71_16 : C.clr 71 16 = [1, 2, 11, 36, 57, 58] := rfl
theorem clr_71_17 : C.clr 71 17 = [3, 59, 60] := rfl
theorem clr_71_18 : C.clr 71 18 = [14, 15, 61, 62, 63, 64] := rfl
theorem res_72 : Try.f72.results.toList = [.tmp 8] := rfl
theorem esc_72 : C.esc 72 = [] := rfl
theorem clr_72_0 : C.clr 72 0 = [2, 3, 8] := rfl
theorem clr_72_1 : C.clr 72 1 = [12, 13] := rfl
theorem clr_72_2 : C.clr 72 2 = [14, 15, 16] := rfl
theorem clr_72_3 : C.clr 72 3 = [0, 1, 6, 7, 17] := rfl
theorem clr_72_4 : C.clr 72 4 = [0, 1, 6, 7, 17, 18, 19, 20, 21, 22, 23, 24, 25, 26, 27, 28, 29, 30, 31, 32, 33] := rfl
theorem ord_72_4 : C.ord 72 4 = [0, 1, 2, 3, 4, 5, 7, 8, 9, 10, 11, 12, 13, 14, 6, 15, 16] := rfl
theorem ro_72_4 : C.ro 72 4 = false := rfl
theorem clr_72_5 : C.clr 72 5 = [14, 34, 35] := rfl
theorem clr_72_6 : C.clr 72 6 = [0, 1, 6, 7, 36] := rfl
theorem clr_72_7 : C.clr 72 7 = [0, 1, 6, 36, 37, 38, 39, 40, 41, 42, 43] := rfl
theorem clr_72_8 : C.clr 72 8 = [44] := rfl
theorem clr_72_9 : C.clr 72 9 = [7, 9, 10, 45, 46] := rfl
theorem clr_72_10 : C.clr 72 10 = [7, 9, 10, 45, 47, 48, 49] := rfl
theorem clr_72_11 : C.clr 72 11 = [11, 50] := rfl
theorem clr_72_12 : C.clr 72 12 = [51] := rfl
theorem clr_72_13 : C.clr 72 13 = [51] := rfl
theorem res_73 : Try.f73.results.toList = [.tmp 4] := rfl
theorem esc_73 : C.esc 73 = [] := rfl
theorem clr_73_0 : C.clr 73 0 = [0, 1, 4] := rfl
theorem clr_73_1 : C.clr 73 1 = [7] := rfl
theorem clr_73_2 : C.clr 73 2 = [10] := rfl
theorem clr_73_3 : C.clr 73 3 = [2, 3, 8, 9, 11, 12, 13] := rfl
theorem clr_73_4 : C.clr 73 4 = [8, 9, 15] := rfl
theorem clr_73_5 : C.clr 73 5 = [14, 16, 17, 18, 19, 20, 21, 22] := rfl
theorem clr_73_6 : C.clr 73 6 = [23] := rfl
theorem clr_73_7 : C.clr 73 7 = [2, 3, 24, 25, 26, 27, 28, 29, 30, 31, 32] := rfl
theorem clr_73_8 : C.clr 73 8 = [2, 3, 5, 24, 33, 34, 35, 36, 37, 38] := rfl
theorem clr_73_9 : C.clr 73 9 = [39] := rfl
theorem clr_73_10 : C.clr 73 10 = [6, 39, 40] := rfl
theorem clr_73_11 : C.clr 73 11 = [2, 3, 14] := rfl
theorem res_74 : Try.f74.results.toList = [.tmp 6] := rfl
theorem esc_74 : C.esc 74 = [] := rfl
theorem clr_74_0 : C.clr 74 0 = [2, 6] := rfl
theorem clr_74_1 : C.clr 74 1 = [11, 12] := rfl
theorem clr_74_2 : C.clr 74 2 = [13, 14, 15, 16, 17, 18, 19, 20] := rfl
theorem clr_74_3 : C.clr 74 3 = [21] := rfl
theorem clr_74_4 : C.clr 74 4 = [0, 1, 5, 7, 22, 23] := rfl
theorem clr_74_5 : C.clr 74 5 = [0, 1, 5, 7, 22, 24, 25, 26, 27, 28, 29, 30, 31, 32, 33, 34, 35] := rfl
theorem ord_74_5 : C.ord 74 5 = [0, 1, 2, 3, 4, 5, 7, 8, 9, 10, 6, 11, 12] := rfl
theorem ro_74_5 : C.ro 74 5 = false := rfl
theorem clr_74_6 : C.clr 74 6 = [13, 36, 37] := rfl
theorem clr_74_7 : C.clr 74 7 = [0, 1, 5, 38] := rfl
theorem clr_74_8 : C.clr 74 8 = [38, 39, 40, 41, 42, 43, 44, 45] := rfl
theorem ord_74_8 : C.ord 74 8 = [0, 1, 2, 3, 4, 5, 6, 7] := rfl
theorem ro_74_8 : C.ro 74 8 = true := rfl
theorem clr_74_9 : C.clr 74 9 = [0, 1, 5, 46] := rfl
theorem clr_74_10 : C.clr 74 10 = [46, 47, 48, 49, 50, 51, 52, 53, 54, 55, 56] := rfl
theorem ord_74_10 : C.ord 74 10 = [0, 1, 2, 3, 4, 5, 6, 7, 8, 9, 10] := rfl
theorem ro_74_10 : C.ro 74 10 = true := rfl
theorem clr_74_11 : C.clr 74 11 = [8, 57] := rfl
theorem clr_74_12 : C.clr 74 12 = [0, 1, 5, 58] := rfl
theorem clr_74_13 : C.clr 74 13 = [0, 1, 5, 58, 59, 60, 61, 62, 63, 64, 65, 66, 67, 68, 69, 70, 71, 72, 73, 74, 75] := rfl
theorem ord_74_13 : C.ord 74 13 = [0, 1, 2, 3, 4, 5, 6, 7, 8, 9, 10, 11, 12, 17, 13, 14, 15, 16, 18, 19] := rfl
theorem ro_74_13 : C.ro 74 13 = false := rfl
theorem clr_74_14 : C.clr 74 14 = [76] := rfl
theorem clr_74_15 : C.clr 74 15 = [9, 10, 77, 78] := rfl
theorem clr_74_16 : C.clr 74 16 = [9, 10, 77, 79, 80] := rfl
theorem clr_74_17 : C.clr 74 17 = [81] := rfl
theorem clr_74_18 : C.clr 74 18 = [81] := rfl
theorem res_75 : Try.f75.results.toList = [.tmp 4] := rfl
theorem esc_75 : C.esc 75 = [] := rfl
theorem clr_75_0 : C.clr 75 0 = [0, 1, 4] := rfl
theorem clr_75_1 : C.clr 75 1 = [5] := rfl
theorem clr_75_2 : C.clr 75 2 = [8] := rfl
theorem clr_75_3 : C.clr 75 3 = [2, 3, 6, 7] := rfl
theorem clr_75_4 : C.clr 75 4 = [6, 7, 10] := rfl
theorem clr_75_5 : C.clr 75 5 = [2, 3, 9, 11, 12, 13] := rfl
theorem clr_75_6 : C.clr 75 6 = [2, 3, 9] := rfl
theorem res_76 : Try.f76.results.toList = [.tmp 6] := rfl
theorem esc_76 : C.esc 76 = [] := rfl
theorem clr_76_0 : C.clr 76 0 = [2, 6] := rfl
theorem clr_76_1 : C.clr 76 1 = [8, 9] := rfl
theorem clr_76_2 : C.clr 76 2 = [0, 1, 5, 10] := rfl
theorem clr_76_3 : C.clr 76 3 = [10, 11, 12] := rfl
theorem clr_76_4 : C.clr 76 4 = [0, 1, 5, 13] := rfl
theorem clr_76_5 : C.clr 76 5 = [13, 14, 15, 16, 17, 18, 19, 20] := rfl
theorem clr_76_6 : C.clr 76 6 = [21] := rfl
theorem clr_76_7 : C.clr 76 7 = [0, 1, 5, 7, 22, 23] := rfl
theorem clr_76_8 : C.clr 76 8 = [0, 1, 5, 7, 22, 24, 25, 26, 27, 28, 29, 30, 31, 32, 33, 34, 35] := rfl
theorem ord_76_8 : C.ord 76 8 = [0, 1, 2, 3, 4, 5, 7, 8, 9, 10, 6, 11, 12] := rfl
theorem ro_76_8 : C.ro 76 8 = false := rfl
theorem res_77 : Try.f77.results.toList = [.tmp 6] := rfl
theorem esc_77 : C.esc 77 = [] := rfl
theorem clr_77_0 : C.clr 77 0 = [0, 6] := rfl
theorem clr_77_1 : C.clr 77 1 = [1, 2, 3, 7, 8, 9, 10, 11, 12, 13, 14, 15, 16, 17, 18, 19, 20, 21, 22, 23, 24] := rfl
theorem res_78 : Try.f78.results.toList = [.cell 2 24] := rfl
theorem esc_78 : C.esc 78 = [] := rfl
theorem clr_78_0 : C.clr 78 0 = [0] := rfl
theorem clr_78_1 : C.clr 78 1 = [] := rfl
theorem clr_78_2 : C.clr 78 2 = [6] := rfl
theorem clr_78_3 : C.clr 78 3 = [] := rfl
theorem clr_78_4 : C.clr 78 4 = [10, 11, 12] := rfl
theorem clr_78_5 : C.clr 78 5 = [5, 13, 14, 15, 16, 17] := rfl
theorem clr_78_6 : C.clr 78 6 = [18] := rfl
theorem clr_78_7 : C.clr 78 7 = [1, 3, 7, 8, 9, 10, 19, 20, 21, 22, 23, 24] := rfl
theorem res_79 : Try.f79.results.toList = [.cell 6 24, .tmp 7] := rfl
theorem esc_79 : C.esc 79 = [3, 4, 5] := rfl
theorem clr_79_0 : C.clr 79 0 = [0, 1, 2, 7] := rfl
theorem clr_79_1 : C.clr 79 1 = [11, 12] := rfl
theorem clr_79_2 : C.clr 79 2 = [13, 14] := rfl
theorem clr_79_3 : C.clr 79 3 = [15, 16, 17, 18, 19, 20, 21, 22, 23] := rfl
theorem clr_79_4 : C.clr 79 4 = [9, 15, 24] := rfl
theorem clr_79_5 : C.clr 79 5 = [3, 4, 5, 8, 25, 26] := rfl
theorem clr_79_6 : C.clr 79 6 = [4, 5, 25, 27, 28, 29, 30, 31, 32, 33] := rfl
theorem clr_79_7 : C.clr 79 7 = [9, 34] := rfl
theorem clr_79_8 : C.clr 79 8 = [3, 8, 10, 35, 36] := rfl
theorem clr_79_9 : C.clr 79 9 = [3, 8, 10, 35, 37, 38, 39, 40, 41] := rfl
theorem res_80 : Try.f80.results.toList = [.tmp 6, .tmp 7] := rfl
theorem esc_80 : C.esc 80 = [] := rfl
theorem clr_80_0 : C.clr 80 0 = [0, 6, 7] := rfl
theorem clr_80_1 : C.clr 80 1 = [2, 8, 9, 10, 11, 12] := rfl
theorem clr_80_2 : C.clr 80 2 = [1, 3, 13, 14, 15, 16, 17] := rfl
theorem clr_80_3 : C.clr 80 3 = [1, 3, 13, 18] := rfl
theorem res_81 : Try.f81.results.toList = [.tmp 2] := rfl
theorem esc_81 : C.esc 81 = [1] := rfl
theorem clr_81_0 : C.clr 81 0 = [0, 2] := rfl
theorem clr_81_1 : C.clr 81 1 = [1, 3] := rfl
theorem res_82 : Try.f82.results.toList = [.tmp 4] := rfl
theorem esc_82 : C.esc 82 = [] := rfl
theorem clr_82_0 : C.clr 82 0 = [4] := rfl
theorem clr_82_1 : C.clr 82 1 = [6] := rfl
theorem clr_82_2 : C.clr 82 2 = [] := rfl
theorem clr_82_3 : C.clr 82 3 = [9, 10] := rfl
theorem clr_82_4 : C.clr 82 4 = [11, 12, 13, 14, 15] := rfl
theorem clr_82_5 : C.clr 82 5 = [0, 1, 5, 7, 8, 16, 17] := rfl
theorem clr_82_6 : C.clr 82 6 = [5, 16, 18] := rfl
theorem clr_82_7 : C.clr 82 7 = [0, 1, 7, 8, 9] := rfl
theorem res_83 : Try.f83.results.toList = [.cell 8 24, .tmp 9] := rfl
theorem esc_83 : C.esc 83 = [] := rfl
theorem clr_83_0 : C.clr 83 0 = [1, 9] := rfl
theorem clr_83_1 : C.clr 83 1 = [0, 2, 3, 10, 11, 12, 13, 14, 15, 16, 17] := rfl
theorem clr_83_2 : C.clr 83 2 = [4, 5, 7, 18, 19, 20, 21, 22, 23, 24, 25] := rfl
theorem clr_83_3 : C.clr 83 3 = [4, 5, 7, 18, 26, 27, 28, 29, 30, 31] := rfl
theorem res_84 : Try.f84.results.toList = [.tmp 2] := rfl
theorem esc_84 : C.esc 84 = [] := rfl
theorem clr_84_0 : C.clr 84 0 = [0, 2] := rfl
theorem clr_84_1 : C.clr 84 1 = [5] := rfl
theorem clr_84_3 : C.clr 84 3 = [8] := rfl
theorem clr_84_4 : C.clr 84 4 = [6, 7, 9, 10, 11, 12, 13, 14, 15, 16] := rfl
theorem clr_84_5 : C.clr 84 5 = [1, 17] := rfl
theorem clr_84_6 : C.clr 84 6 = [7, 19] := rfl
theorem clr_84_7 : C.clr 84 7 = [6, 18, 20, 21, 22, 23, 24, 25, 26, 27] := rfl
theorem clr_84_8 : C.clr 84 8 = [1, 28] := rfl
theorem clr_84_9 : C.clr 84 9 = [18, 30] := rfl
theorem clr_84_10 : C.clr 84 10 = [6, 29, 31, 32, 33, 34, 35, 36, 37, 38] := rfl
theorem clr_84_11 : C.clr 84 11 = [1, 39] := rfl
theorem clr_84_12 : C.clr 84 12 = [29, 41] := rfl
theorem clr_84_13 : C.clr 84 13 = [42] := rfl
theorem clr_84_14 : C.clr 84 14 = [43] := rfl
theorem clr_84_15 : C.clr 84 15 = [6, 44] := rfl
theorem clr_84_16 : C.clr 84 16 = [6, 40, 45, 46] := rfl
theorem clr_84_17 : C.clr 84 17 = [1, 47] := rfl
theorem clr_84_2 : C.clr 84 2 = [1, 6, 40] := rfl
theorem clr_84_18 : C.clr 84 18 = [17, 28, 39, 47] := rfl
theorem clr_84_19 : C.clr 84 19 = [48, 49, 50, 51] := rfl
theorem clr_84_21 : C.clr 84 21 = [52, 55, 56, 57, 58, 59, 60] := rfl
theorem clr_84_22 : C.clr 84 22 = [4, 61] := rfl
theorem clr_84_23 : C.clr 84 23 = [1, 3, 62] := rfl
theorem clr_84_20 : C.clr 84 20 = [53, 54, 62] := rfl
theorem clr_84_24 : C.clr 84 24 = [1, 3, 52] := rfl
theorem res_85 : Try.f85.results.toList = [.tmp 4] := rfl
theorem esc_85 : C.esc 85 = [] := rfl
theorem clr_85_0 : C.clr 85 0 = [0, 4] := rfl
theorem clr_85_1 : C.clr 85 1 = [1, 2, 5, 6, 7, 8, 9, 10, 11, 12, 13, 14, 15, 16, 17, 18, 19] := rfl
theorem clr_85_2 : C.clr 85 2 = [20] := rfl
theorem clr_85_3 : C.clr 85 3 = [20] := rfl
theorem res_86 : Try.f86.results.toList = [.cell 4 24, .tmp 5] := rfl
theorem esc_86 : C.esc 86 = [24] := rfl
theorem clr_86_0 : C.clr 86 0 = [0, 1, 5] := rfl
theorem clr_86_1 : C.clr 86 1 = [12, 13] := rfl
theorem clr_86_2 : C.clr 86 2 = [14, 15] := rfl
theorem clr_86_3 : C.clr 86 3 = [6, 7, 16, 17, 18, 19, 20] := rfl
theorem clr_86_4 : C.clr 86 4 = [2, 3, 21, 22] := rfl
theorem clr_86_5 : C.clr 86 5 = [21, 23] := rfl
theorem clr_86_6 : C.clr 86 6 = [2, 3, 25, 26, 27, 28] := rfl
theorem clr_86_7 : C.clr 86 7 = [8, 9, 24, 29, 30, 31, 32, 33, 34] := rfl
theorem clr_86_8 : C.clr 86 8 = [10, 11, 35, 36] := rfl
theorem res_87 : Try.f87.results.toList = [.tmp 2] := rfl
theorem esc_87 : C.esc 87 = [] := rfl
theorem clr_87_0 : C.clr 87 0 = [0, 2] := rfl
theorem clr_87_1 : C.clr 87 1 = [1, 3, 4, 5] := rfl
theorem res_88 : Try.f88.results.toList = [] := rfl
theorem esc_88 : C.esc 88 = [] := rfl
theorem clr_88_0 : C.clr 88 0 = [5] := rfl
theorem clr_88_1 : C.clr 88 1 = [6, 7, 8, 9, 10] := rfl
theorem clr_88_2 : C.clr 88 2 = [4] := rfl
theorem clr_88_3 : C.clr 88 3 = [0, 1, 2, 3, 11, 12, 13] := rfl
theorem clr_88_4 : C.clr 88 4 = [0, 1, 3, 11, 14] := rfl
theorem clr_88_5 : C.clr 88 5 = [2, 15, 16] := rfl
theorem res_89 : Try.f89.results.toList = [] := rfl
theorem esc_89 : C.esc 89 = [] := rfl
theorem clr_89_0 : C.clr 89 0 = [0, 2, 3] := rfl
theorem res_90 : Try.f90.results.toList = [.cell 2 43] := rfl
theorem esc_90 : C.esc 90 = [] := rfl
theorem clr_90_0 : C.clr 90 0 = [0] := rfl
theorem clr_90_1 : C.clr 90 1 = [6, 7, 8, 9] := rfl
theorem clr_90_2 : C.clr 90 2 = [1, 10] := rfl
theorem clr_90_3 : C.clr 90 3 = [] := rfl
theorem clr_90_4 : C.clr 90 4 = [14, 15, 16] := rfl
theorem clr_90_5 : C.clr 90 5 = [5, 17, 18, 19, 20, 21, 22, 23] := rfl
theorem ord_90_5 : C.ord 90 5 = [0, 1, 2, 3, 4, 5, 6, 7] := rfl
theorem ro_90_5 : C.ro 90 5 = false := rfl
theorem clr_90_6 : C.clr 90 6 = [24] := rfl
theorem clr_90_7 : C.clr 90 7 = [11, 12, 13, 14, 25, 26, 27, 28, 29, 30] := rfl
theorem clr_90_8 : C.clr 90 8 = [3, 31] := rfl
theorem res_91 : Try.f91.results.toList = [.cell 6 24] := rfl
theorem esc_91 : C.esc 91 = [] := rfl
theorem clr_91_0 : C.clr 91 0 = [1] := rfl
theorem clr_91_1 : C.clr 91 1 = [7, 8] := rfl
theorem clr_91_2 : C.clr 91 2 = [0, 2, 4, 9, 10] := rfl
theorem clr_91_3 : C.clr 91 3 = [9, 11] := rfl
theorem clr_91_4 : C.clr 91 4 = [14] := rfl
theorem clr_91_5 : C.clr 91 5 = [12, 13, 15, 16, 17, 18] := rfl
theorem clr_91_6 : C.clr 91 6 = [19, 20] := rfl
theorem clr_91_7 : C.clr 91 7 = [0, 2, 4, 19, 21, 22, 23, 24, 25, 26, 27, 28, 29, 30, 31, 32, 33] := rfl
theorem ord_91_7 : C.ord 91 7 = [0, 1, 2, 3, 4, 5, 6, 7, 8, 10, 11, 9, 12, 13] := rfl
theorem ro_91_7 : C.ro 91 7 = false := rfl
theorem clr_91_8 : C.clr 91 8 = [0, 13, 35] := rfl
theorem clr_91_9 : C.clr 91 9 = [36] := rfl
theorem clr_91_10 : C.clr 91 10 = [12, 37] := rfl
theorem clr_91_11 : C.clr 91 11 = [2, 4, 12, 34, 38, 39, 40, 41, 42, 43, 44, 45, 46, 47] := rfl
theorem ord_91_11 : C.ord 91 11 = [0, 1, 2, 3, 4, 5, 6, 7, 8, 9, 10] := rfl
theorem ro_91_11 : C.ro 91 11 = false := rfl
theorem clr_91_12 : C.clr 91 12 = [2, 12, 34, 48] := rfl
theorem clr_91_13 : C.clr 91 13 = [4, 49] := rfl
theorem res_92 : Try.f92.results.toList = [.cell 4 24] := rfl
theorem esc_92 : C.esc 92 = [] := rfl
theorem clr_92_0 : C.clr 92 0 = [0] := rfl
theorem clr_92_1 : C.clr 92 1 = [5, 6, 7, 8] := rfl
theorem clr_92_2 : C.clr 92 2 = [1, 2, 9, 10, 11, 12, 13, 14, 15, 16, 17, 18, 19, 20] := rfl
theorem clr_92_3 : C.clr 92 3 = [1, 2, 9, 21, 22, 23, 24, 25, 26, 27, 28, 29] := rfl
theorem res_93 : Try.f93.results.toList = [.tmp 2] := rfl
theorem esc_93 : C.esc 93 = [] := rfl
theorem clr_93_0 : C.clr 93 0 = [0, 2] := rfl
theorem clr_93_1 : C.clr 93 1 = [1, 3, 4, 5] := rfl
theorem res_94 : Try.f94.results.toList = [.tmp 3] := rfl
theorem esc_94 : C.esc 94 = [] := rfl
theorem clr_94_0 : C.clr 94 0 = [0, 3] := rfl
theorem clr_94_1 : C.clr 94 1 = [1, 2, 4, 5, 6, 7, 8, 9, 10, 11, 12, 13] := rfl
theorem res_95 : Try.f95.results.toList = [.tmp 4] := rfl
theorem esc_95 : C.esc 95 = [] := rfl
theorem clr_95_0 : C.clr 95 0 = [4] := rfl
theorem clr_95_1 : C.clr 95 1 = [0, 1, 5, 6, 7, 8] := rfl
theorem res_96 : Try.f96.results.toList = [.tmp 3] := rfl
theorem esc_96 : C.esc 96 = [] := rfl
theorem clr_96_0 : C.clr 96 0 = [0, 3] := rfl
theorem clr_96_1 : C.clr 96 1 = [1, 2, 4, 5, 6, 7] := rfl
theorem res_97 : Try.f97.results.toList = [.tmp 4] := rfl
theorem esc_97 : C.esc 97 = [] := rfl
theorem clr_97_0 : C.clr 97 0 = [4] := rfl
theorem clr_97_1 : C.clr 97 1 = [0, 1, 5, 6, 7, 8] := rfl
theorem res_98 : Try.f98.results.toList = [.cell 4 81] := rfl
theorem esc_98 : C.esc 98 = [] := rfl
theorem clr_98_0 : C.clr 98 0 = [0, 1] := rfl
theorem clr_98_1 : C.clr 98 1 = [3, 5, 6, 7, 8, 9, 10, 11, 12, 13, 14, 15, 16, 17] := rfl
theorem ord_98_1 : C.ord 98 1 = [0, 1, 2, 3, 4, 5, 6, 7, 8, 9, 10, 11, 12, 13] := rfl
theorem ro_98_1 : C.ro 98 1 = false := rfl
theorem clr_98_2 : C.clr 98 2 = [2, 18] := rfl
theorem res_99 : Try.f99.results.toList = [.cell 4 24, .tmp 5] := rfl
theorem esc_99 : C.esc 99 = [] := rfl
theorem clr_99_0 : C.clr 99 0 = [0, 1, 2, 3, 5] := rfl
theorem clr_99_1 : C.clr 99 1 = [6] := rfl
theorem res_100 : Try.f100.results.toList = [.cell 4 24, .tmp 5] := rfl
theorem esc_100 : C.esc 100 = [] := rfl
theorem clr_100_0 : C.clr 100 0 = [0, 1, 5] := rfl
theorem clr_100_1 : C.clr 100 1 = [6, 7, 8, 9, 10] := rfl
theorem clr_100_2 : C.clr 100 2 = [2, 3, 11, 12] := rfl
theorem clr_100_3 : C.clr 100 3 = [2, 3, 11, 13, 14, 15, 16, 17, 18, 19, 20, 21, 22, 23, 24, 25, 26, 27, 28, 29, 30, 31, 32, 33] := rfl
theorem ord_100_3 : C.ord 100 3 = [0, 1, 2, 3, 4, 5, 6, 7, 8, 9, 10, 11, 12, 13, 14, 16, 17, 15, 18, 19, 20, 21, 22] := rfl
theorem ro_100_3 : C.ro 100 3 = false := rfl
theorem res_101 : Try.f101.results.toList = [.cell 4 24, .tmp 5] := rfl
theorem esc_101 : C.esc 101 = [] := rfl
theorem clr_101_0 : C.clr 101 0 = [0, 1, 5] := rfl
theorem clr_101_1 : C.clr 101 1 = [8, 9, 10, 11, 12, 13, 14] := rfl
theorem clr_101_2 : C.clr 101 2 = [15] := rfl
theorem clr_101_3 : C.clr 101 3 = [2, 3, 6, 7, 16, 17, 18] := rfl
theorem clr_101_4 : C.clr 101 4 = [2, 3, 6, 7, 16, 19, 20, 21, 22, 23, 24, 25] := rfl
theorem res_102 : Try.f102.results.toList = [.cell 4 24, .tmp 5] := rfl
theorem esc_102 : C.esc 102 = [] := rfl
theorem clr_102_0 : C.clr 102 0 = [0, 1, 5] := rfl
theorem clr_102_1 : C.clr 102 1 = [11, 12, 13, 14, 15] := rfl
theorem clr_102_2 : C.clr 102 2 = [2, 3, 16, 17] := rfl
theorem clr_102_3 : C.clr 102 3 = [16, 18, 19, 20, 21, 22, 23] := rfl
theorem clr_102_4 : C.clr 102 4 = [24, 25, 26, 27, 28, 29] := rfl
theorem clr_102_5 : C.clr 102 5 = [2, 3, 6, 30, 31] := rfl
theorem clr_102_6 : C.clr 102 6 = [30, 32] := rfl
theorem clr_102_7 : C.clr 102 7 = [] := rfl
theorem clr_102_8 : C.clr 102 8 = [36, 37, 38, 39] := rfl
theorem clr_102_9 : C.clr 102 9 = [8, 40, 41, 42, 43, 44, 45, 46, 47, 48, 49, 50, 51, 52] := rfl
theorem ord_102_9 : C.ord 102 9 = [0, 1, 2, 3, 4, 5, 6, 7, 8, 13, 9, 10, 11, 12, 14, 15] := rfl
theorem ro_102_9 : C.ro 102 9 = false := rfl
theorem clr_102_10 : C.clr 102 10 = [53] := rfl
theorem clr_102_11 : C.clr 102 11 = [7, 9, 54, 55, 56, 57, 58, 59, 60, 61, 62] := rfl
theorem ord_102_11 : C.ord 102 11 = [0, 1, 2, 3, 4, 5, 6, 7, 8] := rfl
theorem ro_102_11 : C.ro 102 11 = true := rfl
theorem clr_102_12 : C.clr 102 12 = [7, 9, 54, 63] := rfl
theorem clr_102_13 : C.clr 102 13 = [2, 3, 6, 10, 33, 34, 35, 64, 65, 66] := rfl
theorem clr_102_14 : C.clr 102 14 = [10, 64, 67] := rfl
theorem clr_102_15 : C.clr 102 15 = [2, 3, 6, 33, 34, 35, 36, 68, 69, 70, 71, 72, 73, 74, 75, 76, 77, 78] := rfl
theorem res_103 : Try.f103.results.toList = [.tmp 2] := rfl
theorem esc_103 : C.esc 103 = [] := rfl
theorem clr_103_0 : C.clr 103 0 = [2] := rfl
theorem clr_103_1 : C.clr 103 1 = [] := rfl
theorem clr_103_2 : C.clr 103 2 = [5, 6, 7] := rfl
theorem clr_103_4 : C.clr 103 4 = [8, 11, 12, 13, 14, 15] := rfl
theorem clr_103_5 : C.clr 103 5 = [4, 16] := rfl
theorem clr_103_6 : C.clr 103 6 = [0, 3, 17] := rfl
theorem clr_103_3 : C.clr 103 3 = [9, 10, 17] := rfl
theorem clr_103_7 : C.clr 103 7 = [0, 3, 8] := rfl
theorem res_104 : Try.f104.results.toList = [.tmp 4] := rfl
theorem esc_104 : C.esc 104 = [] := rfl
theorem clr_104_0 : C.clr 104 0 = [1, 4] := rfl
theorem clr_104_1 : C.clr 104 1 = [0, 3, 5, 6, 7, 8, 9] := rfl
theorem ord_104_1 : C.ord 104 1 = [0, 1, 2, 3, 4, 5] := rfl
theorem ro_104_1 : C.ro 104 1 = false := rfl
theorem res_105 : Try.f105.results.toList = [.cell 6 24, .tmp 7] := rfl
theorem esc_105 : C.esc 105 = [] := rfl
theorem clr_105_0 : C.clr 105 0 = [2, 7] := rfl
theorem clr_105_1 : C.clr 105 1 = [15] := rfl
theorem clr_105_2 : C.clr 105 2 = [18] := rfl
theorem clr_105_3 : C.clr 105 3 = [16, 17, 19, 20, 21, 22] := rfl
theorem clr_105_4 : C.clr 105 4 = [0, 1, 5, 23, 24] := rfl
theorem clr_105_5 : C.clr 105 5 = [0, 1, 5, 23, 25, 26, 27, 28, 29, 30, 31, 32, 33, 34, 35, 36, 37, 38, 39, 40, 41, 42, 43, 44, 45] := rfl
theorem ord_105_5 : C.ord 105 5 = [0, 1, 2, 3, 4, 5, 6, 7, 8, 9, 10, 11, 12, 13, 15, 16, 21, 14, 17, 18, 19, 20, 22, 23] := rfl
theorem ro_105_5 : C.ro 105 5 = false := rfl
theorem clr_105_6 : C.clr 105 6 = [8, 9, 46, 47] := rfl
theorem clr_105_7 : C.clr 105 7 = [17, 49] := rfl
theorem clr_105_8 : C.clr 105 8 = [16, 48, 50, 51, 52, 53, 54, 55, 56] := rfl
theorem ord_105_8 : C.ord 105 8 = [0, 1, 2, 3, 4, 5, 6, 7] := rfl
theorem ro_105_8 : C.ro 105 8 = true := rfl
theorem clr_105_9 : C.clr 105 9 = [0, 1, 5, 57, 58] := rfl
theorem clr_105_10 : C.clr 105 10 = [57, 59, 60, 61, 62, 63, 64, 65, 66, 67, 68] := rfl
theorem ord_105_10 : C.ord 105 10 = [0, 1, 2, 3, 4, 5, 6, 7, 8, 9, 10] := rfl
theorem ro_105_10 : C.ro 105 10 = true := rfl
theorem clr_105_11 : C.clr 105 11 = [10] := rfl
theorem clr_105_12 : C.clr 105 12 = [0, 1, 5, 69, 70] := rfl
theorem clr_105_13 : C.clr 105 13 = [0, 1, 5, 69, 71, 72, 73, 74, 75, 76, 77, 78, 79, 80, 81, 82, 83, 84, 85, 86, 87] := rfl
theorem ord_105_13 : C.ord 105 13 = [0, 1, 2, 3, 4, 5, 6, 7, 8, 9, 10, 11, 12, 17, 13, 14, 15, 16, 18, 19] := rfl
theorem ro_105_13 : C.ro 105 13 = false := rfl
theorem clr_105_14 : C.clr 105 14 = [11, 12, 88, 89] := rfl
theorem clr_105_15 : C.clr 105 15 = [16, 48, 91] := rfl
theorem clr_105_16 : C.clr 105 16 = [0, 1, 5, 90, 92, 93, 94, 95, 96, 97, 98] := rfl
theorem clr_105_17 : C.clr 105 17 = [13, 14, 99, 100] := rfl
theorem clr_105_18 : C.clr 105 18 = [0, 1, 5, 90, 101] := rfl
theorem res_106 : Try.f106.results.toList = [.tmp 6] := rfl
theorem esc_106 : C.esc 106 = [] := rfl
theorem clr_106_0 : C.clr 106 0 = [0, 1, 6] := rfl
theorem clr_106_1 : C.clr 106 1 = [8, 9, 10, 11, 12, 13] := rfl
theorem ord_106_1 : C.ord 106 1 = [0, 1, 2, 3, 4, 5, 6] := rfl
theorem ro_106_1 : C.ro 106 1 = true := rfl
theorem clr_106_2 : C.clr 106 2 = [14] := rfl
theorem clr_106_3 : C.clr 106 3 = [2, 3, 4, 7, 15, 16] := rfl
theorem clr_106_4 : C.clr 106 4 = [2, 3, 4, 7, 15, 17, 18, 19, 20, 21, 22, 23, 24, 25, 26, 27, 28] := rfl
theorem ord_106_4 : C.ord 106 4 = [0, 1, 2, 3, 4, 5, 7, 8, 9, 10, 6, 11, 12] := rfl
theorem ro_106_4 : C.ro 106 4 = false := rfl
theorem res_107 : Try.f107.results.toList = [.cell 6 24, .tmp 7] := rfl
theorem esc_107 : C.esc 107 = [] := rfl
theorem clr_107_0 : C.clr 107 0 = [0, 7] := rfl
theorem clr_107_1 : C.clr 107 1 = [2, 8, 9, 10, 11, 12, 13, 14, 15, 16, 17, 18, 19, 20, 21, 22] := rfl
theorem clr_107_2 : C.clr 107 2 = [1, 3, 23, 24] := rfl
theorem clr_107_3 : C.clr 107 3 = [1, 3, 23, 25, 26, 27, 28, 29, 30] := rfl
theorem res_108 : Try.f108.results.toList = [.cell 6 24, .tmp 7] := rfl
theorem esc_108 : C.esc 108 = [] := rfl
theorem clr_108_0 : C.clr 108 0 = [0, 1, 7] := rfl
theorem clr_108_1 : C.clr 108 1 = [2] := rfl
theorem clr_108_2 : C.clr 108 2 = [] := rfl
theorem clr_108_3 : C.clr 108 3 = [16, 17, 18] := rfl
theorem clr_108_4 : C.clr 108 4 = [19, 20] := rfl
theorem clr_108_5 : C.clr 108 5 = [3, 4, 9, 13, 14, 15, 21, 22] := rfl
theorem clr_108_6 : C.clr 108 6 = [21, 23, 24, 25, 26, 27, 28, 29] := rfl
theorem ord_108_6 : C.ord 108 6 = [0, 1, 2, 3, 4, 5, 6, 7] := rfl
theorem ro_108_6 : C.ro 108 6 = true := rfl
theorem clr_108_7 : C.clr 108 7 = [30] := rfl
theorem clr_108_8 : C.clr 108 8 = [3, 4, 9, 10, 13, 14, 15, 31, 32, 33] := rfl
theorem clr_108_9 : C.clr 108 9 = [9, 10, 31, 34, 35, 36, 37, 38, 39, 40, 41, 42, 43, 44] := rfl
theorem ord_108_9 : C.ord 108 9 = [0, 1, 2, 3, 4, 5, 6, 11, 7, 8, 9, 10, 12, 13] := rfl
theorem ro_108_9 : C.ro 108 9 = false := rfl
theorem clr_108_10 : C.clr 108 10 = [45] := rfl
theorem clr_108_11 : C.clr 108 11 = [3, 4, 11, 12, 13, 14, 15, 46, 47, 48] := rfl
theorem clr_108_12 : C.clr 108 12 = [11, 12, 46, 49] := rfl
theorem clr_108_13 : C.clr 108 13 = [50] := rfl
theorem clr_108_14 : C.clr 108 14 = [3, 4, 13, 14, 15, 16, 51] := rfl
theorem res_109 : Try.f109.results.toList = [.tmp 2] := rfl
theorem esc_109 : C.esc 109 = [] := rfl
theorem clr_109_0 : C.clr 109 0 = [0, 2] := rfl
theorem clr_109_1 : C.clr 109 1 = [1, 3, 5, 6, 7, 8, 9] := rfl
theorem clr_109_2 : C.clr 109 2 = [4, 10, 11, 12] := rfl
theorem res_110 : Try.f110.results.toList = [.cell 8 24, .tmp 9] := rfl
theorem esc_110 : C.esc 110 = [] := rfl
theorem clr_110_0 : C.clr 110 0 = [2, 9] := rfl
theorem clr_110_1 : C.clr 110 1 = [] := rfl
theorem clr_110_2 : C.clr 110 2 = [14, 15, 16] := rfl
theorem clr_110_4 : C.clr 110 4 = [17, 20, 21] := rfl
theorem clr_110_5 : C.clr 110 5 = [0, 1, 3, 6, 10, 22, 23] := rfl
theorem clr_110_6 : C.clr 110 6 = [22, 24, 25, 26, 27, 28, 29, 30, 31, 32, 33, 34] := rfl
theorem ord_110_6 : C.ord 110 6 = [0, 1, 2, 3, 4, 5, 6, 7, 8, 9, 10, 11] := rfl
theorem ro_110_6 : C.ro 110 6 = false := rfl
theorem clr_110_7 : C.clr 110 7 = [35] := rfl
theorem clr_110_8 : C.clr 110 8 = [0, 1, 3, 6, 10, 11, 36, 37, 38] := rfl
theorem clr_110_9 : C.clr 110 9 = [11, 36, 39, 40, 41, 42, 43, 44, 45, 46, 47, 48, 49, 50, 51, 52] := rfl
theorem ord_110_9 : C.ord 110 9 = [0, 1, 2, 3, 4, 5, 6, 7, 8, 9, 14, 10, 11, 12, 13, 15, 16] := rfl
theorem ro_110_9 : C.ro 110 9 = false := rfl
theorem clr_110_10 : C.clr 110 10 = [53] := rfl
theorem clr_110_11 : C.clr 110 11 = [0, 1, 3, 6, 10, 12, 13, 54, 55, 56] := rfl
theorem clr_110_12 : C.clr 110 12 = [12, 13, 54, 57] := rfl
theorem clr_110_3 : C.clr 110 3 = [18, 19] := rfl
theorem clr_110_13 : C.clr 110 13 = [0, 1, 3, 6, 10, 17, 58] := rfl
theorem res_111 : Try.f111.results.toList = [.tmp 4, .tmp 5] := rfl
theorem esc_111 : C.esc 111 = [] := rfl
theorem clr_111_0 : C.clr 111 0 = [4, 5] := rfl
theorem clr_111_1 : C.clr 111 1 = [] := rfl
theorem clr_111_2 : C.clr 111 2 = [0] := rfl
theorem clr_111_3 : C.clr 111 3 = [] := rfl
theorem clr_111_4 : C.clr 111 4 = [14, 15, 16, 17] := rfl
theorem clr_111_5 : C.clr 111 5 = [7, 8, 18, 19, 20, 21, 22, 23, 24] := rfl
theorem clr_111_6 : C.clr 111 6 = [10, 25] := rfl
theorem clr_111_7 : C.clr 111 7 = [1, 6, 9, 11, 12, 13, 26] := rfl
theorem clr_111_8 : C.clr 111 8 = [9, 26, 27, 28, 29, 30] := rfl
theorem clr_111_9 : C.clr 111 9 = [31] := rfl
theorem clr_111_10 : C.clr 111 10 = [1, 6, 11, 12, 13, 14, 32] := rfl
theorem res_112 : Try.f112.results.toList = [.cell 7 24, .tmp 8] := rfl
theorem esc_112 : C.esc 112 = [] := rfl
theorem clr_112_0 : C.clr 112 0 = [1, 8] := rfl
theorem clr_112_1 : C.clr 112 1 = [2, 10] := rfl
theorem clr_112_2 : C.clr 112 2 = [0, 3, 11, 12, 13, 14, 15, 16, 17, 18, 19, 20, 21, 22, 23, 24, 25] := rfl
theorem clr_112_3 : C.clr 112 3 = [26, 27, 28] := rfl
theorem clr_112_4 : C.clr 112 4 = [4, 6, 9, 26, 29, 30, 31, 32, 33, 34] := rfl
theorem res_113 : Try.f113.results.toList = [] := rfl
theorem esc_113 : C.esc 113 = [] := rfl
theorem clr_113_0 : C.clr 113 0 = [0, 1, 3, 4, 5] := rfl
theorem res_114 : Try.f114.results.toList = [.tmp 6] := rfl
theorem esc_114 : C.esc 114 = [] := rfl
theorem clr_114_0 : C.clr 114 0 = [0, 6] := rfl
theorem clr_114_1 : C.clr 114 1 = [10, 11, 12, 13] := rfl
theorem clr_114_2 : C.clr 114 2 = [1, 2, 3, 14] := rfl
theorem clr_114_3 : C.clr 114 3 = [14, 15] := rfl
theorem clr_114_4 : C.clr 114 4 = [] := rfl
theorem clr_114_5 : C.clr 114 5 = [19, 20, 21, 22] := rfl
theorem clr_114_6 : C.clr 114 6 = [23] := rfl
theorem clr_114_7 : C.clr 114 7 = [7, 24, 25, 26, 27, 28, 29, 30, 31, 32] := rfl
theorem clr_114_8 : C.clr 114 8 = [33, 34, 35] := rfl
theorem clr_114_9 : C.clr 114 9 = [8, 9, 33, 36, 37, 38, 39] := rfl
theorem clr_114_10 : C.clr 114 10 = [1, 2, 3, 16, 17, 18, 40] := rfl
theorem clr_114_11 : C.clr 114 11 = [40, 41] := rfl
theorem clr_114_12 : C.clr 114 12 = [1, 2, 3, 16, 17, 18, 19] := rfl
theorem res_115 : Try.f115.results.toList = [.tmp 2] := rfl
theorem esc_115 : C.esc 115 = [] := rfl
theorem clr_115_0 : C.clr 115 0 = [0, 2] := rfl
theorem clr_115_1 : C.clr 115 1 = [5, 6, 7, 8, 9, 10, 11, 12, 13, 14, 15, 16, 17] := rfl
theorem clr_115_2 : C.clr 115 2 = [1, 18] := rfl
theorem clr_115_3 : C.clr 115 3 = [18] := rfl
theorem clr_115_4 : C.clr 115 4 = [19, 20, 21, 22] := rfl
theorem clr_115_6 : C.clr 115 6 = [23, 26, 27, 28, 29, 30, 31] := rfl
theorem clr_115_7 : C.clr 115 7 = [4, 32] := rfl
theorem clr_115_8 : C.clr 115 8 = [1, 3, 33] := rfl
theorem clr_115_5 : C.clr 115 5 = [24, 25, 33] := rfl
theorem clr_115_9 : C.clr 115 9 = [1, 3, 23] := rfl
theorem res_116 : Try.f116.results.toList = [.cell 6 24] := rfl
theorem esc_116 : C.esc 116 = [] := rfl
theorem clr_116_0 : C.clr 116 0 = [1, 2] := rfl
theorem clr_116_1 : C.clr 116 1 = [11, 12, 13, 14, 15, 16, 17, 18] := rfl
theorem clr_116_2 : C.clr 116 2 = [19, 20, 21, 22] := rfl
theorem clr_116_3 : C.clr 116 3 = [0, 4, 5, 23, 24, 25] := rfl
theorem clr_116_4 : C.clr 116 4 = [23] := rfl
theorem clr_116_5 : C.clr 116 5 = [] := rfl
theorem clr_116_6 : C.clr 116 6 = [26, 27, 28, 29] := rfl
theorem clr_116_8 : C.clr 116 8 = [30, 33] := rfl
theorem clr_116_9 : C.clr 116 9 = [34, 35, 36] := rfl
theorem clr_116_10 : C.clr 116 10 = [37, 38, 39] := rfl
theorem clr_116_11 : C.clr 116 11 = [9, 37, 40, 41, 42, 43, 44, 45, 46, 47] := rfl
theorem ord_116_11 : C.ord 116 11 = [0, 1, 2, 3, 4, 5, 6, 8, 7, 9] := rfl
theorem ro_116_11 : C.ro 116 11 = false := rfl
theorem clr_116_12 : C.clr 116 12 = [48, 49, 50, 51] := rfl
theorem clr_116_13 : C.clr 116 13 = [0, 4, 5, 7, 8, 10, 52, 53] := rfl
theorem clr_116_14 : C.clr 116 14 = [10, 52, 54, 55, 56, 57] := rfl
theorem clr_116_7 : C.clr 116 7 = [31, 32] := rfl
theorem clr_116_15 : C.clr 116 15 = [8, 30, 58, 59] := rfl
theorem clr_116_16 : C.clr 116 16 = [0, 4, 5, 7, 60, 61, 62, 63, 64, 65, 66, 67] := rfl
theorem clr_116_17 : C.clr 116 17 = [0, 4, 5, 7, 60, 68, 69, 70, 71, 72, 73] := rfl
theorem res_117 : Try.f117.results.toList = [.cell 4 24, .tmp 5] := rfl
theorem esc_117 : C.esc 117 = [] := rfl
theorem clr_117_0 : C.clr 117 0 = [1, 5] := rfl
theorem clr_117_1 : C.clr 117 1 = [7, 8] := rfl
theorem clr_117_2 : C.clr 117 2 = [6, 9, 10, 11, 12, 13, 14, 15, 16] := rfl
theorem clr_117_3 : C.clr 117 3 = [17, 18, 19, 20] := rfl
theorem clr_117_4 : C.clr 117 4 = [17, 21, 22, 23, 24] := rfl
theorem clr_117_5 : C.clr 117 5 = [0, 3, 25, 26, 27, 28, 29, 30] := rfl
theorem ord_117_5 : C.ord 117 5 = [0, 1, 2, 3, 4, 5, 6] := rfl
theorem ro_117_5 : C.ro 117 5 = false := rfl
theorem clr_117_6 : C.clr 117 6 = [0, 3, 25, 31] := rfl
theorem res_118 : Try.f118.results.toList = [.tmp 2] := rfl
theorem esc_118 : C.esc 118 = [] := rfl
theorem clr_118_0 : C.clr 118 0 = [2] := rfl
theorem clr_118_1 : C.clr 118 1 = [] := rfl
theorem clr_118_2 : C.clr 118 2 = [] := rfl
theorem clr_118_3 : C.clr 118 3 = [] := rfl
theorem clr_118_4 : C.clr 118 4 = [12, 13, 14] := rfl
theorem clr_118_5 : C.clr 118 5 = [5, 15, 16, 17, 18] := rfl
theorem clr_118_6 : C.clr 118 6 = [19] := rfl
theorem clr_118_7 : C.clr 118 7 = [20, 21] := rfl
theorem clr_118_8 : C.clr 118 8 = [20, 22] := rfl
theorem clr_118_9 : C.clr 118 9 = [3, 9, 10, 11, 12, 23, 24] := rfl
theorem clr_118_10 : C.clr 118 10 = [0] := rfl
theorem clr_118_11 : C.clr 118 11 = [] := rfl
theorem clr_118_12 : C.clr 118 12 = [28, 29, 30] := rfl
theorem clr_118_13 : C.clr 118 13 = [8, 31, 32, 33] := rfl
theorem clr_118_14 : C.clr 118 14 = [34] := rfl
theorem clr_118_15 : C.clr 118 15 = [6, 25, 26, 27, 28, 35] := rfl
theorem res_119 : Try.f119.results.toList = [.tmp 4] := rfl
theorem esc_119 : C.esc 119 = [] := rfl
theorem clr_119_0 : C.clr 119 0 = [4] := rfl
theorem clr_119_1 : C.clr 119 1 = [6] := rfl
theorem clr_119_2 : C.clr 119 2 = [] := rfl
theorem clr_119_3 : C.clr 119 3 = [9, 10] := rfl
theorem clr_119_4 : C.clr 119 4 = [11, 12, 13, 14, 15] := rfl
theorem clr_119_5 : C.clr 119 5 = [0, 1, 5, 7, 8, 16, 17] := rfl
theorem clr_119_6 : C.clr 119 6 = [5, 16, 18] := rfl
theorem clr_119_7 : C.clr 119 7 = [0, 1, 7, 8, 9] := rfl
theorem res_120 : Try.f120.results.toList = [.tmp 4] := rfl
theorem esc_120 : C.esc 120 = [] := rfl
theorem clr_120_0 : C.clr 120 0 = [4] := rfl
theorem clr_120_1 : C.clr 120 1 = [6] := rfl
theorem clr_120_2 : C.clr 120 2 = [] := rfl
theorem clr_120_3 : C.clr 120 3 = [9, 10] := rfl
theorem clr_120_4 : C.clr 120 4 = [11, 12, 13, 14, 15] := rfl
theorem clr_120_5 : C.clr 120 5 = [0, 1, 5, 7, 8, 16, 17] := rfl
theorem clr_120_6 : C.clr 120 6 = [5, 16, 18] := rfl
theorem clr_120_7 : C.clr 120 7 = [0, 1, 7, 8, 9] := rfl
theorem res_121 : Try.f121.results.toList = [.cell 6 24] := rfl
theorem esc_121 : C.esc 121 = [] := rfl
theorem clr_121_0 : C.clr 121 0 = [0] := rfl
theorem clr_121_1 : C.clr 121 1 = [8, 9, 10, 11] := rfl
theorem clr_121_2 : C.clr 121 2 = [7, 12] := rfl
theorem clr_121_3 : C.clr 121 3 = [1, 2, 3, 13, 14, 15] := rfl
theorem clr_121_4 : C.clr 121 4 = [1, 2, 3, 13, 16, 17, 18, 19] := rfl
theorem res_122 : Try.f122.results.toList = [.cell 6 24, .tmp 7] := rfl
theorem esc_122 : C.esc 122 = [] := rfl
theorem clr_122_0 : C.clr 122 0 = [2, 7] := rfl
theorem clr_122_1 : C.clr 122 1 = [15, 16, 17, 18, 19, 20, 21] := rfl
theorem ord_122_1 : C.ord 122 1 = [0, 1, 2, 3, 4, 5, 6, 7] := rfl
theorem ro_122_1 : C.ro 122 1 = true := rfl
theorem clr_122_2 : C.clr 122 2 = [0, 1, 5, 22, 23] := rfl
theorem clr_122_3 : C.clr 122 3 = [22, 24, 25, 26, 27, 28, 29, 30, 31] := rfl
theorem ord_122_3 : C.ord 122 3 = [0, 1, 2, 3, 4, 5, 6, 7, 8, 9] := rfl
theorem ro_122_3 : C.ro 122 3 = false := rfl
theorem clr_122_4 : C.clr 122 4 = [32, 33, 34, 35, 36, 37] := rfl
theorem clr_122_5 : C.clr 122 5 = [0, 1, 5, 8, 38, 39] := rfl
theorem clr_122_6 : C.clr 122 6 = [38] := rfl
theorem clr_122_7 : C.clr 122 7 = [40, 41, 42, 43] := rfl
theorem clr_122_9 : C.clr 122 9 = [44, 47, 48, 49, 50, 51, 52, 53, 54, 55, 56, 57, 58, 59, 60, 61, 62] := rfl
theorem ord_122_9 : C.ord 122 9 = [0, 1, 2, 3, 4, 5, 6, 7, 8, 9, 10, 11, 16, 12, 13, 14, 15, 17, 18] := rfl
theorem ro_122_9 : C.ro 122 9 = false := rfl
theorem clr_122_10 : C.clr 122 10 = [63] := rfl
theorem clr_122_11 : C.clr 122 11 = [0, 1, 5, 8, 9, 10, 11, 64, 65, 66] := rfl
theorem clr_122_12 : C.clr 122 12 = [10, 11, 64, 67, 68, 69, 70, 71, 72, 73, 74, 75] := rfl
theorem ord_122_12 : C.ord 122 12 = [0, 1, 2, 3, 4, 5, 6, 7, 8, 9] := rfl
theorem ro_122_12 : C.ro 122 12 = false := rfl
theorem clr_122_13 : C.clr 122 13 = [76] := rfl
theorem clr_122_14 : C.clr 122 14 = [0, 1, 5, 8, 9, 12, 77, 78, 79] := rfl
theorem clr_122_8 : C.clr 122 8 = [12, 45, 46, 77] := rfl
theorem clr_122_15 : C.clr 122 15 = [0, 1, 5, 8, 9, 44, 80, 81, 82, 83, 84, 85, 86, 87, 88, 89, 90] := rfl
theorem clr_122_16 : C.clr 122 16 = [13, 14, 91, 92] := rfl
theorem res_123 : Try.f123.results.toList = [.tmp 2] := rfl
theorem esc_123 : C.esc 123 = [] := rfl
theorem clr_123_0 : C.clr 123 0 = [0, 2] := rfl
theorem clr_123_1 : C.clr 123 1 = [1, 3, 4, 5, 6] := rfl
theorem res_124 : Try.f124.results.toList = [.tmp 2, .cell 3 24] := rfl
theorem esc_124 : C.esc 124 = [] := rfl
theorem clr_124_0 : C.clr 124 0 = [0, 2] := rfl
theorem clr_124_1 : C.clr 124 1 = [] := rfl
theorem clr_124_2 : C.clr 124 2 = [5, 6, 7, 8, 9, 10, 11, 12] := rfl
theorem clr_124_3 : C.clr 124 3 = [13, 14, 15, 16, 17, 18, 19, 20] := rfl
theorem clr_124_4 : C.clr 124 4 = [21, 22, 23, 24] := rfl
theorem clr_124_5 : C.clr 124 5 = [1, 4, 13, 25, 26] := rfl
theorem ord_124_5 : C.ord 124 5 = [0, 1, 2, 3] := rfl
theorem ro_124_5 : C.ro 124 5 = false := rfl
theorem res_125 : Try.f125.results.toList = [.tmp 2] := rfl
theorem esc_125 : C.esc 125 = [] := rfl
theorem clr_125_0 : C.clr 125 0 = [0, 2] := rfl
theorem clr_125_1 : C.clr 125 1 = [1, 3, 4, 5, 6, 7, 8, 9, 10] := rfl
theorem res_126 : Try.f126.results.toList = [.cell 4 24] := rfl
theorem esc_126 : C.esc 126 = [] := rfl
theorem clr_126_0 : C.clr 126 0 = [] := rfl
theorem clr_126_1 : C.clr 126 1 = [5, 6, 7, 8] := rfl
theorem clr_126_2 : C.clr 126 2 = [0, 1, 9, 10, 11, 12, 13] := rfl
theorem clr_126_3 : C.clr 126 3 = [0, 1, 9, 14] := rfl
theorem res_127 : Try.f127.results.toList = [.cell 2 43] := rfl
theorem esc_127 : C.esc 127 = [] := rfl
theorem clr_127_0 : C.clr 127 0 = [0] := rfl
theorem clr_127_1 : C.clr 127 1 = [5, 6, 7, 8] := rfl
theorem clr_127_2 : C.clr 127 2 = [] := rfl
theorem clr_127_3 : C.clr 127 3 = [9, 10, 11, 12] := rfl
theorem clr_127_5 : C.clr 127 5 = [13, 16, 17, 18, 19, 20, 21, 22, 23, 24, 25, 26] := rfl
theorem ord_127_5 : C.ord 127 5 = [0, 1, 2, 3, 4, 5, 6, 7, 8, 9, 10, 11] := rfl
theorem ro_127_5 : C.ro 127 5 = false := rfl
theorem clr_127_4 : C.clr 127 4 = [14, 15] := rfl
theorem clr_127_6 : C.clr 127 6 = [1, 4, 13, 27, 28, 29, 30, 31, 32] := rfl
theorem clr_127_7 : C.clr 127 7 = [3, 33] := rfl
theorem res_128 : Try.f128.results.toList = [.cell 6 24] := rfl
theorem esc_128 : C.esc 128 = [] := rfl
theorem clr_128_0 : C.clr 128 0 = [1] := rfl
theorem clr_128_1 : C.clr 128 1 = [9, 10, 11, 12, 13, 14, 15] := rfl
theorem clr_128_2 : C.clr 128 2 = [16, 17, 18, 19, 20] := rfl
theorem clr_128_3 : C.clr 128 3 = [7, 21] := rfl
theorem clr_128_4 : C.clr 128 4 = [0, 2, 4, 22, 23, 24] := rfl
theorem clr_128_5 : C.clr 128 5 = [22, 25, 26, 27, 28, 29, 30, 31, 32, 33, 34, 35] := rfl
theorem ord_128_5 : C.ord 128 5 = [0, 1, 2, 3, 4, 5, 6, 7, 8, 9, 10, 11] := rfl
theorem ro_128_5 : C.ro 128 5 = false := rfl
theorem clr_128_6 : C.clr 128 6 = [36, 37, 38, 39] := rfl
theorem clr_128_7 : C.clr 128 7 = [0, 2, 4, 40, 41] := rfl
theorem clr_128_8 : C.clr 128 8 = [40, 42, 43] := rfl
theorem clr_128_9 : C.clr 128 9 = [16, 44, 45] := rfl
theorem clr_128_10 : C.clr 128 10 = [0, 2, 4, 46, 47] := rfl
theorem clr_128_11 : C.clr 128 11 = [46, 48, 49, 50, 51, 52, 53, 54, 55, 56, 57, 58, 59] := rfl
theorem clr_128_12 : C.clr 128 12 = [0, 2, 4, 60, 61, 62] := rfl
theorem clr_128_13 : C.clr 128 13 = [0, 60, 63, 64, 65] := rfl
theorem clr_128_14 : C.clr 128 14 = [2, 66, 67, 68] := rfl
theorem clr_128_15 : C.clr 128 15 = [4, 8, 69, 70, 71, 72, 73, 74] := rfl
theorem res_129 : Try.f129.results.toList = [.cell 4 24] := rfl
theorem esc_129 : C.esc 129 = [] := rfl
theorem clr_129_0 : C.clr 129 0 = [0] := rfl
theorem clr_129_1 : C.clr 129 1 = [5, 6, 7, 8] := rfl
theorem clr_129_2 : C.clr 129 2 = [1, 2, 9, 10, 11, 12, 13, 14, 15, 16, 17, 18, 19, 20] := rfl
theorem clr_129_3 : C.clr 129 3 = [1, 2, 9, 21, 22, 23, 24, 25, 26, 27, 28, 29] := rfl
theorem res_130 : Try.f130.results.toList = [.tmp 4] := rfl
theorem esc_130 : C.esc 130 = [] := rfl
theorem clr_130_0 : C.clr 130 0 = [4] := rfl
theorem clr_130_1 : C.clr 130 1 = [5] := rfl
theorem clr_130_2 : C.clr 130 2 = [6, 7] := rfl
theorem clr_130_3 : C.clr 130 3 = [6, 8, 9, 10, 11, 12, 13, 14] := rfl
theorem clr_130_4 : C.clr 130 4 = [15] := rfl
theorem clr_130_5 : C.clr 130 5 = [1, 16, 17, 18, 19, 20, 21, 22, 23, 24, 25] := rfl
theorem clr_130_6 : C.clr 130 6 = [0, 1, 16, 26] := rfl
theorem res_131 : Try.f131.results.toList = [.tmp 6] := rfl
theorem esc_131 : C.esc 131 = [] := rfl
theorem clr_131_0 : C.clr 131 0 = [0, 6] := rfl
theorem clr_131_1 : C.clr 131 1 = [3, 8, 9] := rfl
theorem clr_131_2 : C.clr 131 2 = [1, 2, 7, 10, 11, 12, 13, 14, 15, 16, 17, 18, 19, 20, 21, 22, 23, 24, 25, 26] := rfl
theorem res_132 : Try.f132.results.toList = [.cell 6 24] := rfl
theorem esc_132 : C.esc 132 = [] := rfl
theorem clr_132_0 : C.clr 132 0 = [0] := rfl
theorem clr_132_1 : C.clr 132 1 = [9, 10, 11, 12, 13] := rfl
theorem clr_132_2 : C.clr 132 2 = [14, 15, 16, 17, 18, 19, 20, 21] := rfl
theorem clr_132_3 : C.clr 132 3 = [22, 23, 24, 25, 26, 27] := rfl
theorem clr_132_4 : C.clr 132 4 = [22] := rfl
theorem clr_132_5 : C.clr 132 5 = [28, 29, 30, 31] := rfl
theorem clr_132_7 : C.clr 132 7 = [32, 35, 36, 37, 38, 39, 40, 41, 42, 43, 44, 45, 46, 47, 48, 49, 50, 51] := rfl
theorem ord_132_7 : C.ord 132 7 = [0, 1, 2, 3, 4, 5, 6, 7, 8, 9, 10, 11, 12, 13, 14, 15, 16, 17] := rfl
theorem ro_132_7 : C.ro 132 7 = false := rfl
theorem clr_132_6 : C.clr 132 6 = [33, 34] := rfl
theorem clr_132_8 : C.clr 132 8 = [1, 2, 3, 7, 8, 32, 52] := rfl
theorem res_133 : Try.f133.results.toList = [.cell 2 24] := rfl
theorem esc_133 : C.esc 133 = [1] := rfl
theorem clr_133_0 : C.clr 133 0 = [0] := rfl
theorem clr_133_1 : C.clr 133 1 = [5] := rfl
theorem clr_133_2 : C.clr 133 2 = [2, 6, 7, 8] := rfl
theorem clr_133_3 : C.clr 133 3 = [1, 4, 9] := rfl
theorem clr_133_4 : C.clr 133 4 = [1, 6, 10] := rfl
theorem res_134 : Try.f134.results.toList = [.tmp 2] := rfl
theorem esc_134 : C.esc 134 = [1] := rfl
theorem clr_134_0 : C.clr 134 0 = [0, 2] := rfl
theorem clr_134_1 : C.clr 134 1 = [1, 3] := rfl
theorem res_135 : Try.f135.results.toList = [] := rfl
theorem esc_135 : C.esc 135 = [] := rfl
theorem clr_135_0 : C.clr 135 0 = [3, 4, 5, 6, 7, 8, 9, 10] := rfl
theorem clr_135_1 : C.clr 135 1 = [11, 12, 13, 14, 15, 16, 17, 18, 19, 20, 21] := rfl
theorem ord_135_1 : C.ord 135 1 = [0, 1, 2, 3, 4, 5, 6, 7, 8, 9, 10] := rfl
theorem ro_135_1 : C.ro 135 1 = false := rfl
theorem clr_135_2 : C.clr 135 2 = [22, 23, 24, 25, 26] := rfl
attribute [go_sem] tsz_1 tag_1 tcon_1 tstr_1 tbool_1 tslc_1 tarr_1 tby_1 tzr_1 tsz_2 tag_2 tcon_2 tstr_2 tbool_2 tslc_2 tarr_2 tby_2 tzr_2 tsz_3 tag_3 tcon_3 tstr_3 tbool_3 tslc_3 tarr_3 tby_3 tzr_3 tsz_4 tag_4 tcon_4 tstr_4 tbool_4 tslc_4 tarr_4 tby_4 tzr_4 tsz_5 tag_5 tcon_5 tstr_5
attribute [go_sem] tbool_5 tslc_5 tarr_5 tby_5 tzr_5 tsz_9 tag_9 tcon_9 tstr_9 tbool_9 tslc_9 tarr_9 tby_9 tzr_9 tsz_12 tag_12 tcon_12 tstr_12 tbool_12 tslc_12 tarr_12 tby_12 tzr_12 tsz_20 tag_20 tcon_20 tstr_20 tbool_20 tslc_20 tarr_20 tby_20 tzr_20 tsz_21 tag_21 tcon_21 tstr_21 tbool_21 tslc_21 tarr_21 tby_21
attribute [go_sem] tzr_21 tsz_22 tag_22 tcon_22 tstr_22 tbool_22 tslc_22 tarr_22 tby_22 tzr_22 tsz_23 tag_23 tcon_23 tstr_23 tbool_23 tslc_23 tarr_23 tby_23 tzr_23 tfld_23_0 place_23_0 tfld_23_1 place_23_1 tfld_23_2 place_23_2 tbld_23 tsz_24 tag_24 tcon_24 tstr_24 tbool_24 tslc_24 tarr_24 tby_24 tzr_24 tfld_24_0 place_24_0 tfld_24_1 place_24_1 tfld_24_2
attribute [go_sem] place_24_2 tbld_24 tsz_25 tag_25 tcon_25 tstr_25 tbool_25 tslc_25 tarr_25 tby_25 tzr_25 tsz_26 tag_26 tcon_26 tstr_26 tbool_26 tslc_26 tarr_26 tby_26 tzr_26 tsz_27 tag_27 tcon_27 tstr_27 tbool_27 tslc_27 tarr_27 tby_27 tzr_27 tsz_28 tag_28 tcon_28 tstr_28 tbool_28 tslc_28 tarr_28 tby_28 tzr_28 tsz_29 tag_29
attribute [go_sem] tcon_29 tstr_29 tbool_29 tslc_29 tarr_29 tby_29 tzr_29 tsz_31 tag_31 tcon_31 tstr_31 tbool_31 tslc_31 tarr_31 tby_31 tzr_31 tsz_32 tag_32 tcon_32 tstr_32 tbool_32 tslc_32 tarr_32 tby_32 tzr_32 tsz_33 tag_33 tcon_33 tstr_33 tbool_33 tslc_33 tarr_33 tby_33 tzr_33 tsz_34 tag_34 tcon_34 tstr_34 tbool_34 tslc_34
attribute [go_sem] tarr_34 tby_34 tzr_34 tsz_36 tag_36 tcon_36 tstr_36 tbool_36 tslc_36 tarr_36 tby_36 tzr_36 tsz_37 tag_37 tcon_37 tstr_37 tbool_37 tslc_37 tarr_37 tby_37 tzr_37 tsz_38 tag_38 tcon_38 tstr_38 tbool_38 tslc_38 tarr_38 tby_38 tzr_38 tsz_39 tag_39 tcon_39 tstr_39 tbool_39 tslc_39 tarr_39 tby_39 tzr_39 tsz_40
attribute [go_sem] tag_40 tcon_40 tstr_40 tbool_40 tslc_40 tarr_40 tby_40 tzr_40 tsz_41 tag_41 tcon_41 tstr_41 tbool_41 tslc_41 tarr_41 tby_41 tzr_41 tsz_42 tag_42 tcon_42 tstr_42 tbool_42 tslc_42 tarr_42 tby_42 tzr_42 tfld_42_0 place_42_0 tfld_42_1 place_42_1 tbld_42 tsz_43 tag_43 tcon_43 tstr_43 tbool_43 tslc_43 tarr_43 tby_43 tzr_43
attribute [go_sem] tfld_43_0 place_43_0 tfld_43_1 place_43_1 tbld_43 tsz_44 tag_44 tcon_44 tstr_44 tbool_44 tslc_44 tarr_44 tby_44 tzr_44 tsz_45 tag_45 tcon_45 tstr_45 tbool_45 tslc_45 tarr_45 tby_45 tzr_45 tsz_46 tag_46 tcon_46 tstr_46 tbool_46 tslc_46 tarr_46 tby_46 tzr_46 tsz_47 tag_47 tcon_47 tstr_47 tbool_47 tslc_47 tarr_47 tby_47
attribute [go_sem] tzr_47 tsz_48 tag_48 tcon_48 tstr_48 tbool_48 tslc_48 tarr_48 tby_48 tzr_48 tsz_49 tag_49 tcon_49 tstr_49 tbool_49 tslc_49 tarr_49 tby_49 tzr_49 tsz_50 tag_50 tcon_50 tstr_50 tbool_50 tslc_50 tarr_50 tby_50 tzr_50 tsz_51 tag_51 tcon_51 tstr_51 tbool_51 tslc_51 tarr_51 tby_51 tzr_51 tsz_52 tag_52 tcon_52
attribute [go_sem] tstr_52 tbool_52 tslc_52 tarr_52 tby_52 tzr_52 tsz_53 tag_53 tcon_53 tstr_53 tbool_53 tslc_53 tarr_53 tby_53 tzr_53 tsz_54 tag_54 tcon_54 tstr_54 tbool_54 tslc_54 tarr_54 tby_54 tzr_54 tsz_55 tag_55 tcon_55 tstr_55 tbool_55 tslc_55 tarr_55 tby_55 tzr_55 tsz_56 tag_56 tcon_56 tstr_56 tbool_56 tslc_56 tarr_56
attribute [go_sem] tby_56 tzr_56 tsz_57 tag_57 tcon_57 tstr_57 tbool_57 tslc_57 tarr_57 tby_57 tzr_57 tsz_58 tag_58 tcon_58 tstr_58 tbool_58 tslc_58 tarr_58 tby_58 tzr_58 tsz_59 tag_59 tcon_59 tstr_59 tbool_59 tslc_59 tarr_59 tby_59 tzr_59 tsz_60 tag_60 tcon_60 tstr_60 tbool_60 tslc_60 tarr_60 tby_60 tzr_60 tsz_61 tag_61
attribute [go_sem] tcon_61 tstr_61 tbool_61 tslc_61 tarr_61 tby_61 tzr_61 tsz_62 tag_62 tcon_62 tstr_62 tbool_62 tslc_62 tarr_62 tby_62 tzr_62 tsz_63 tag_63 tcon_63 tstr_63 tbool_63 tslc_63 tarr_63 tby_63 tzr_63 tsz_64 tag_64 tcon_64 tstr_64 tbool_64 tslc_64 tarr_64 tby_64 tzr_64 tsz_65 tag_65 tcon_65 tstr_65 tbool_65 tslc_65
attribute [go_sem] tarr_65 tby_65 tzr_65 tsz_66 tag_66 tcon_66 tstr_66 tbool_66 tslc_66 tarr_66 tby_66 tzr_66 tsz_67 tag_67 tcon_67 tstr_67 tbool_67 tslc_67 tarr_67 tby_67 tzr_67 tsz_68 tag_68 tcon_68 tstr_68 tbool_68 tslc_68 tarr_68 tby_68 tzr_68 tsz_69 tag_69 tcon_69 tstr_69 tbool_69 tslc_69 tarr_69 tby_69 tzr_69 tsz_70
attribute [go_sem] tag_70 tcon_70 tstr_70 tbool_70 tslc_70 tarr_70 tby_70 tzr_70 tsz_71 tag_71 tcon_71 tstr_71 tbool_71 tslc_71 tarr_71 tby_71 tzr_71 tsz_72 tag_72 tcon_72 tstr_72 tbool_72 tslc_72 tarr_72 tby_72 tzr_72 tsz_73 tag_73 tcon_73 tstr_73 tbool_73 tslc_73 tarr_73 tby_73 tzr_73 tsz_74 tag_74 tcon_74 tstr_74 tbool_74
attribute [go_sem] tslc_74 tarr_74 tby_74 tzr_74 tsz_75 tag_75 tcon_75 tstr_75 tbool_75 tslc_75 tarr_75 tby_75 tzr_75 tfld_75_0 place_75_0 tfld_75_1 place_75_1 tbld_75 tsz_76 tag_76 tcon_76 tstr_76 tbool_76 tslc_76 tarr_76 tby_76 tzr_76 tfld_76_0 place_76_0 tfld_76_1 place_76_1 tbld_76 tsz_77 tag_77 tcon_77 tstr_77 tbool_77 tslc_77 tarr_77 tby_77
attribute [go_sem] tzr_77 tsz_78 tag_78 tcon_78 tstr_78 tbool_78 tslc_78 tarr_78 tby_78 tzr_78 tfld_78_0 place_78_0 tfld_78_1 place_78_1 tfld_78_2 place_78_2 tbld_78 tsz_79 tag_79 tcon_79 tstr_79 tbool_79 tslc_79 tarr_79 tby_79 tzr_79 tfld_79_0 place_79_0 tfld_79_1 place_79_1 tfld_79_2 place_79_2 tbld_79 tsz_80 tag_80 tcon_80 tstr_80 tbool_80 tslc_80 tarr_80
attribute [go_sem] tby_80 tzr_80 tfld_80_0 place_80_0 tfld_80_1 place_80_1 tfld_80_2 place_80_2 tbld_80 tsz_81 tag_81 tcon_81 tstr_81 tbool_81 tslc_81 tarr_81 tby_81 tzr_81 tfld_81_0 place_81_0 tfld_81_1 place_81_1 tfld_81_2 place_81_2 tbld_81 tsz_82 tag_82 tcon_82 tstr_82 tbool_82 tslc_82 tarr_82 tby_82 tzr_82 tsz_83 tag_83 tcon_83 tstr_83 tbool_83 tslc_83
attribute [go_sem] tarr_83 tby_83 tzr_83 tsz_84 tag_84 tcon_84 tstr_84 tbool_84 tslc_84 tarr_84 tby_84 tzr_84 tsz_85 tag_85 tcon_85 tstr_85 tbool_85 tslc_85 tarr_85 tby_85 tzr_85 tsz_86 tag_86 tcon_86 tstr_86 tbool_86 tslc_86 tarr_86 tby_86 tzr_86 tfld_86_0 place_86_0 tfld_86_1 place_86_1 tbld_86 tsz_87 tag_87 tcon_87 tstr_87 tbool_87
attribute [go_sem] tslc_87 tarr_87 tby_87 tzr_87 tfld_87_0 place_87_0 tfld_87_1 place_87_1 tbld_87 tsz_88 tag_88 tcon_88 tstr_88 tbool_88 tslc_88 tarr_88 tby_88 tzr_88 tsz_89 tag_89 tcon_89 tstr_89 tbool_89 tslc_89 tarr_89 tby_89 tzr_89 tsz_90 tag_90 tcon_90 tstr_90 tbool_90 tslc_90 tarr_90 tby_90 tzr_90 tsz_91 tag_91 tcon_91 tstr_91
attribute [go_sem] tbool_91 tslc_91 tarr_91 tby_91 tzr_91 tsz_93 tag_93 tcon_93 tstr_93 tbool_93 tslc_93 tarr_93 tby_93 tzr_93 tsz_94 tag_94 tcon_94 tstr_94 tbool_94 tslc_94 tarr_94 tby_94 tzr_94 tsz_95 tag_95 tcon_95 tstr_95 tbool_95 tslc_95 tarr_95 tby_95 tzr_95 tfld_95_0 place_95_0 tfld_95_1 place_95_1 tbld_95 tsz_96 tag_96 tcon_96
attribute [go_sem] tstr_96 tbool_96 tslc_96 tarr_96 tby_96 tzr_96 tfld_96_0 place_96_0 tfld_96_1 place_96_1 tbld_96 tsz_97 tag_97 tcon_97 tstr_97 tbool_97 tslc_97 tarr_97 tby_97 tzr_97 tsz_98 tag_98 tcon_98 tstr_98 tbool_98 tslc_98 tarr_98 tby_98 tzr_98 tsz_99 tag_99 tcon_99 tstr_99 tbool_99 tslc_99 tarr_99 tby_99 tzr_99 tsz_100 tag_100
attribute [go_sem] tcon_100 tstr_100 tbool_100 tslc_100 tarr_100 tby_100 tzr_100 tsz_101 tag_101 tcon_101 tstr_101 tbool_101 tslc_101 tarr_101 tby_101 tzr_101 tsz_103 tag_103 tcon_103 tstr_103 tbool_103 tslc_103 tarr_103 tby_103 tzr_103 tfld_103_0 place_103_0 tbld_103 tsz_104 tag_104 tcon_104 tstr_104 tbool_104 tslc_104 tarr_104 tby_104 tzr_104 tfld_104_0 place_104_0 tbld_104
attribute [go_sem] tsz_105 tag_105 tcon_105 tstr_105 tbool_105 tslc_105 tarr_105 tby_105 tzr_105 tsz_106 tag_106 tcon_106 tstr_106 tbool_106 tslc_106 tarr_106 tby_106 tzr_106 tsz_107 tag_107 tcon_107 tstr_107 tbool_107 tslc_107 tarr_107 tby_107 tzr_107 tsz_108 tag_108 tcon_108 tstr_108 tbool_108 tslc_108 tarr_108 tby_108 tzr_108 tsz_109 tag_109 tcon_109 tstr_109
attribute [go_sem] tbool_109 tslc_109 tarr_109 tby_109 tzr_109 tsz_110 tag_110 tcon_110 tstr_110 tbool_110 tslc_110 tarr_110 tby_110 tzr_110 tsz_111 tag_111 tcon_111 tstr_111 tbool_111 tslc_111 tarr_111 tby_111 tzr_111 tsz_112 tag_112 tcon_112 tstr_112 tbool_112 tslc_112 tarr_112 tby_112 tzr_112 tsz_113 tag_113 tcon_113 tstr_113 tbool_113 tslc_113 tarr_113 tby_113
attribute [go_sem] tzr_113 tsz_114 tag_114 tcon_114 tstr_114 tbool_114 tslc_114 tarr_114 tby_114 tzr_114 tsz_115 tag_115 tcon_115 tstr_115 tbool_115 tslc_115 tarr_115 tby_115 tzr_115 tsz_116 tag_116 tcon_116 tstr_116 tbool_116 tslc_116 tarr_116 tby_116 tzr_116 place_116_0 place_116_1 place_116_2 place_116_3 place_116_4 place_116_5 place_116_6 tbld_116 tsz_117 tag_117 tcon_117 tstr_117
attribute [go_sem] tbool_117 tslc_117 tarr_117 tby_117 tzr_117 tsz_118 tag_118 tcon_118 tstr_118 tbool_118 tslc_118 tarr_118 tby_118 tzr_118 tsz_119 tag_119 tcon_119 tstr_119 tbool_119 tslc_119 tarr_119 tby_119 tzr_119 tsz_120 tag_120 tcon_120 tstr_120 tbool_120 tslc_120 tarr_120 tby_120 tzr_120 tsz_121 tag_121 tcon_121 tstr_121 tbool_121 tslc_121 tarr_121 tby_121
attribute [go_sem] tzr_121 tsz_122 tag_122 tcon_122 tstr_122 tbool_122 tslc_122 tarr_122 tby_122 tzr_122 tsz_123 tag_123 tcon_123 tstr_123 tbool_123 tslc_123 tarr_123 tby_123 tzr_123 tsz_124 tag_124 tcon_124 tstr_124 tbool_124 tslc_124 tarr_124 tby_124 tzr_124 tsz_127 tag_127 tcon_127 tstr_127 tbool_127 tslc_127 tarr_127 tby_127 tzr_127 tsz_128 tag_128 tcon_128
attribute [go_sem] tstr_128 tbool_128 tslc_128 tarr_128 tby_128 tzr_128 tsz_129 tag_129 tcon_129 tstr_129 tbool_129 tslc_129 tarr_129 tby_129 tzr_129 tsz_130 tag_130 tcon_130 tstr_130 tbool_130 tslc_130 tarr_130 tby_130 tzr_130 tsz_131 tag_131 tcon_131 tstr_131 tbool_131 tslc_131 tarr_131 tby_131 tzr_131 tfld_131_0 place_131_0 tfld_131_1 place_131_1 tbld_131 tsz_132 tag_132
attribute [go_sem] tcon_132 tstr_132 tbool_132 tslc_132 tarr_132 tby_132 tzr_132 tfld_132_0 place_132_0 tfld_132_1 place_132_1 tbld_132 tsz_133 tag_133 tcon_133 tstr_133 tbool_133 tslc_133 tarr_133 tby_133 tzr_133 tsz_134 tag_134 tcon_134 tstr_134 tbool_134 tslc_134 tarr_134 tby_134 tzr_134 tsz_135 tag_135 tcon_135 tstr_135 tbool_135 tslc_135 tarr_135 tby_135 tzr_135 tsz_137
attribute [go_sem] tag_137 tcon_137 tstr_137 tbool_137 tslc_137 tarr_137 tby_137 tzr_137 tsz_138 tag_138 tcon_138 tstr_138 tbool_138 tslc_138 tarr_138 tby_138 tzr_138 tsz_139 tag_139 tcon_139 tstr_139 tbool_139 tslc_139 tarr_139 tby_139 tzr_139 tsz_140 tag_140 tcon_140 tstr_140 tbool_140 tslc_140 tarr_140 tby_140 tzr_140 tsz_141 tag_141 tcon_141 tstr_141 tbool_141
attribute [go_sem] tslc_141 tarr_141 tby_141 tzr_141 tsz_142 tag_142 tcon_142 tstr_142 tbool_142 tslc_142 tarr_142 tby_142 tzr_142 tsz_143 tag_143 tcon_143 tstr_143 tbool_143 tslc_143 tarr_143 tby_143 tzr_143 tsz_144 tag_144 tcon_144 tstr_144 tbool_144 tslc_144 tarr_144 tby_144 tzr_144 tsz_150 tag_150 tcon_150 tstr_150 tbool_150 tslc_150 tarr_150 tby_150 tzr_150
attribute [go_sem] tsz_151 tag_151 tcon_151 tstr_151 tbool_151 tslc_151 tarr_151 tby_151 tzr_151 tsz_154 tag_154 tcon_154 tstr_154 tbool_154 tslc_154 tarr_154 tby_154 tzr_154 tsz_155 tag_155 tcon_155 tstr_155 tbool_155 tslc_155 tarr_155 tby_155 tzr_155 C_P C_thr esc_3 Try.ntmps3 res_3 clr_3_0 clr_3_1 clr_3_2 clr_3_3 clr_3_4 clr_3_5 clr_3_6 clr_3_7
attribute [go_sem] clr_3_8 clr_3_10 clr_3_11 clr_3_9 clr_3_12 clr_3_13 esc_4 Try.ntmps4 res_4 clr_4_0 clr_4_1 clr_4_2 clr_4_3 clr_4_4 clr_4_5 clr_4_6 clr_4_7 clr_4_8 clr_4_9 clr_4_10 clr_4_11 clr_4_12 clr_4_13 clr_4_14 clr_4_15 clr_4_16 esc_5 Try.ntmps5 res_5 clr_5_0 clr_5_1 clr_5_2 clr_5_3 clr_5_4 clr_5_5 clr_5_6 clr_5_7 clr_5_9 clr_5_10 clr_5_8
attribute [go_sem] clr_5_11 clr_5_12 clr_5_13 clr_5_14 esc_6 Try.ntmps6 res_6 clr_6_0 clr_6_1 clr_6_2 clr_6_3 clr_6_4 clr_6_5 clr_6_6 clr_6_7 clr_6_8 clr_6_9 clr_6_11 clr_6_12 clr_6_13 clr_6_10 clr_6_14 clr_6_15 clr_6_17 clr_6_18 clr_6_16 clr_6_19 clr_6_20 clr_6_21 clr_6_22 clr_6_23 esc_7 Try.ntmps7 res_7 clr_7_0 clr_7_1 clr_7_2 clr_7_3 clr_7_4 clr_7_5
attribute [go_sem] clr_7_6 ord_7_6 ro_7_6 clr_7_7 clr_7_8 clr_7_9 clr_7_10 clr_7_12 clr_7_13 clr_7_14 clr_7_11 clr_7_15 clr_7_16 clr_7_17 clr_7_18 clr_7_19 clr_7_20 esc_8 Try.ntmps8 res_8 clr_8_0 clr_8_1 clr_8_2 clr_8_3 clr_8_4 clr_8_5 clr_8_6 clr_8_7 clr_8_8 clr_8_9 clr_8_10 clr_8_11 ord_8_11 ro_8_11 clr_8_12 clr_8_13 clr_8_14 clr_8_16 ord_8_16 ro_8_16
attribute [go_sem] clr_8_17 clr_8_15 clr_8_18 esc_9 Try.ntmps9 res_9 clr_9_0 clr_9_1 clr_9_2 clr_9_3 clr_9_4 clr_9_5 clr_9_6 clr_9_7 ord_9_7 ro_9_7 esc_10 Try.ntmps10 res_10 clr_10_0 clr_10_1 clr_10_2 clr_10_3 clr_10_4 clr_10_5 clr_10_6 clr_10_7 clr_10_8 clr_10_9 clr_10_10 ord_10_10 ro_10_10 clr_10_11 ord_10_11 ro_10_11 esc_11 Try.ntmps11 res_11 clr_11_0 clr_11_1
attribute [go_sem] clr_11_2 clr_11_3 clr_11_4 clr_11_5 clr_11_6 clr_11_7 clr_11_8 clr_11_9 clr_11_10 clr_11_11 esc_12 Try.ntmps12 res_12 clr_12_0 clr_12_1 clr_12_2 clr_12_3 clr_12_4 clr_12_5 clr_12_6 clr_12_7 clr_12_8 clr_12_9 esc_13 Try.ntmps13 res_13 clr_13_0 clr_13_1 clr_13_2 clr_13_3 clr_13_4 clr_13_5 clr_13_6 clr_13_7 ord_13_7 ro_13_7 esc_14 Try.ntmps14 res_14 clr_14_0
attribute [go_sem] clr_14_1 clr_14_2 clr_14_3 clr_14_4 clr_14_5 clr_14_6 ord_14_6 ro_14_6 esc_15 Try.ntmps15 res_15 clr_15_0 clr_15_1 clr_15_2 clr_15_3 clr_15_4 clr_15_5 clr_15_6 clr_15_7 clr_15_8 clr_15_9 clr_15_10 clr_15_12 clr_15_13 clr_15_11 clr_15_14 clr_15_15 clr_15_16 clr_15_17 clr_15_18 clr_15_19 ord_15_19 ro_15_19 clr_15_20 ord_15_20 ro_15_20 esc_16 Try.ntmps16 res_16 clr_16_0
attribute [go_sem] clr_16_1 clr_16_2 clr_16_3 clr_16_4 clr_16_5 clr_16_6 clr_16_7 clr_16_8 clr_16_9 clr_16_10 ord_16_10 ro_16_10 clr_16_11 clr_16_12 clr_16_13 clr_16_14 clr_16_15 clr_16_16 ord_16_16 ro_16_16 clr_16_17 esc_17 Try.ntmps17 res_17 clr_17_0 clr_17_1 clr_17_2 clr_17_3 clr_17_4 clr_17_5 clr_17_6 clr_17_7 clr_17_8 ord_17_8 ro_17_8 clr_17_9 clr_17_10 clr_17_11 esc_18 Try.ntmps18
attribute [go_sem] res_18 clr_18_0 clr_18_1 clr_18_2 clr_18_3 clr_18_4 esc_19 Try.ntmps19 res_19 clr_19_0 clr_19_1 clr_19_2 esc_20 Try.ntmps20 res_20 clr_20_0 clr_20_1 clr_20_2 clr_20_3 clr_20_4 clr_20_6 clr_20_7 clr_20_8 clr_20_5 clr_20_9 esc_21 Try.ntmps21 res_21 clr_21_0 clr_21_1 clr_21_2 clr_21_3 clr_21_4 clr_21_6 clr_21_7 clr_21_8 clr_21_5 clr_21_9 esc_22 Try.ntmps22
attribute [go_sem] res_22 clr_22_0 clr_22_1 esc_23 Try.ntmps23 res_23 clr_23_0 clr_23_1 esc_24 Try.ntmps24 res_24 clr_24_0 clr_24_1 clr_24_2 clr_24_3 clr_24_4 clr_24_5 clr_24_6 clr_24_7 clr_24_8 esc_25 Try.ntmps25 res_25 clr_25_0 clr_25_1 clr_25_2 clr_25_3 clr_25_4 clr_25_5 clr_25_7 clr_25_8 clr_25_9 clr_25_6 clr_25_10 clr_25_11 clr_25_12 clr_25_13 clr_25_14 clr_25_15 clr_25_16
attribute [go_sem] esc_26 Try.ntmps26 res_26 clr_26_0 clr_26_1 clr_26_2 clr_26_3 clr_26_4 clr_26_6 ord_26_6 ro_26_6 clr_26_7 clr_26_8 clr_26_5 clr_26_9 esc_27 Try.ntmps27 res_27 clr_27_0 clr_27_1 esc_28 Try.ntmps28 res_28 clr_28_0 clr_28_1 clr_28_2 clr_28_3 clr_28_5 clr_28_6 clr_28_7 clr_28_8 clr_28_4 clr_28_9 esc_29 Try.ntmps29 res_29 clr_29_0 clr_29_1 clr_29_2 clr_29_3
attribute [go_sem] clr_29_4 clr_29_6 ord_29_6 ro_29_6 clr_29_7 clr_29_8 clr_29_5 clr_29_9 esc_30 Try.ntmps30 res_30 clr_30_0 clr_30_1 clr_30_2 clr_30_3 esc_31 Try.ntmps31 res_31 clr_31_0 clr_31_1 clr_31_2 clr_31_3 clr_31_4 clr_31_5 clr_31_7 ord_31_7 ro_31_7 clr_31_8 clr_31_9 clr_31_10 clr_31_6 clr_31_11 esc_32 Try.ntmps32 res_32 clr_32_0 clr_32_1 clr_32_2 clr_32_3 clr_32_4
attribute [go_sem] clr_32_6 clr_32_7 clr_32_8 clr_32_5 clr_32_9 esc_33 Try.ntmps33 res_33 clr_33_0 clr_33_1 clr_33_2 clr_33_3 clr_33_4 clr_33_5 clr_33_6 ord_33_6 ro_33_6 clr_33_7 clr_33_8 clr_33_9 esc_34 Try.ntmps34 res_34 clr_34_0 clr_34_1 clr_34_2 clr_34_3 clr_34_4 clr_34_5 clr_34_6 clr_34_7 clr_34_8 esc_35 Try.ntmps35 res_35 clr_35_0 clr_35_1 clr_35_2 clr_35_3 esc_36
attribute [go_sem] Try.ntmps36 res_36 clr_36_0 clr_36_1 clr_36_2 clr_36_3 clr_36_4 ord_36_4 ro_36_4 clr_36_5 ord_36_5 ro_36_5 clr_36_6 ord_36_6 ro_36_6 clr_36_7 ord_36_7 ro_36_7 clr_36_8 ord_36_8 ro_36_8 esc_37 Try.ntmps37 res_37 clr_37_0 clr_37_1 clr_37_2 clr_37_3 clr_37_4 clr_37_5 clr_37_7 clr_37_8 clr_37_9 clr_37_10 clr_37_6 clr_37_11 clr_37_12 esc_38 Try.ntmps38 res_38
attribute [go_sem] clr_38_0 clr_38_1 clr_38_2 clr_38_3 clr_38_4 esc_39 Try.ntmps39 res_39 clr_39_0 clr_39_1 clr_39_2 clr_39_3 clr_39_4 clr_39_5 esc_40 Try.ntmps40 res_40 clr_40_0 clr_40_1 clr_40_2 clr_40_3 clr_40_4 esc_41 Try.ntmps41 res_41 clr_41_0 clr_41_1 clr_41_2 clr_41_3 clr_41_4 clr_41_5 esc_42 Try.ntmps42 res_42 clr_42_0 clr_42_1 clr_42_2 clr_42_3 clr_42_4 esc_43
attribute [go_sem] Try.ntmps43 res_43 clr_43_0 clr_43_1 clr_43_2 clr_43_3 clr_43_4 clr_43_5 esc_44 Try.ntmps44 res_44 clr_44_0 clr_44_1 clr_44_2 clr_44_4 ord_44_4 ro_44_4 clr_44_5 clr_44_3 clr_44_6 clr_44_7 clr_44_9 ord_44_9 ro_44_9 clr_44_10 clr_44_8 clr_44_11 esc_45 Try.ntmps45 res_45 clr_45_0 clr_45_1 clr_45_2 clr_45_3 clr_45_4 esc_46 Try.ntmps46 res_46 clr_46_0 clr_46_1
attribute [go_sem] clr_46_2 clr_46_3 clr_46_4 clr_46_6 clr_46_7 clr_46_8 clr_46_5 clr_46_9 esc_47 Try.ntmps47 res_47 clr_47_0 clr_47_1 clr_47_2 clr_47_3 clr_47_5 clr_47_4 clr_47_6 esc_48 Try.ntmps48 res_48 clr_48_0 clr_48_1 clr_48_2 clr_48_3 clr_48_5 clr_48_6 clr_48_7 clr_48_4 clr_48_8 esc_49 Try.ntmps49 res_49 clr_49_0 clr_49_1 clr_49_2 clr_49_3 clr_49_4 clr_49_5 clr_49_6
attribute [go_sem] clr_49_7 esc_50 Try.ntmps50 res_50 clr_50_0 clr_50_1 clr_50_2 clr_50_3 clr_50_4 esc_51 Try.ntmps51 res_51 clr_51_0 clr_51_1 clr_51_2 clr_51_3 clr_51_4 clr_51_5 clr_51_6 esc_52 Try.ntmps52 res_52 clr_52_0 clr_52_1 esc_53 Try.ntmps53 res_53 clr_53_0 clr_53_1 clr_53_2 clr_53_3 clr_53_4 clr_53_5 clr_53_6 clr_53_7 clr_53_8 esc_54 Try.ntmps54 res_54 clr_54_0
attribute [go_sem] clr_54_1 esc_55 Try.ntmps55 res_55 clr_55_0 clr_55_1 esc_56 Try.ntmps56 res_56 clr_56_0 clr_56_1 esc_57 Try.ntmps57 res_57 clr_57_0 clr_57_1 clr_57_2 clr_57_3 clr_57_4 clr_57_5 clr_57_6 clr_57_7 clr_57_8 clr_57_9 clr_57_10 clr_57_11 ord_57_11 ro_57_11 esc_58 Try.ntmps58 res_58 clr_58_0 clr_58_1 clr_58_2 esc_59 Try.ntmps59 res_59 clr_59_0 clr_59_1 clr_59_2
attribute [go_sem] clr_59_3 clr_59_4 clr_59_6 ord_59_6 ro_59_6 clr_59_7 clr_59_8 clr_59_9 clr_59_5 clr_59_10 clr_59_11 clr_59_12 clr_59_13 clr_59_14 clr_59_15 clr_59_17 clr_59_18 clr_59_19 clr_59_16 clr_59_20 clr_59_21 esc_60 Try.ntmps60 res_60 clr_60_0 clr_60_1 clr_60_2 clr_60_3 clr_60_4 clr_60_5 clr_60_6 clr_60_7 clr_60_8 clr_60_9 clr_60_10 esc_61 Try.ntmps61 res_61 clr_61_0 clr_61_1
attribute [go_sem] esc_62 Try.ntmps62 res_62 clr_62_0 clr_62_1 ord_62_1 ro_62_1 esc_63 Try.ntmps63 res_63 clr_63_0 clr_63_1 clr_63_2 esc_64 Try.ntmps64 res_64 clr_64_0 clr_64_1 clr_64_2 clr_64_3 clr_64_4 clr_64_5 esc_65 Try.ntmps65 res_65 clr_65_0 clr_65_1 esc_66 Try.ntmps66 res_66 clr_66_0 clr_66_1 clr_66_2 clr_66_3 clr_66_4 clr_66_5 clr_66_6 clr_66_7 clr_66_8 clr_66_9
attribute [go_sem] clr_66_10 clr_66_11 ord_66_11 ro_66_11 clr_66_12 clr_66_13 clr_66_14 clr_66_15 ord_66_15 ro_66_15 esc_67 Try.ntmps67 res_67 clr_67_0 clr_67_1 clr_67_2 esc_68 Try.ntmps68 res_68 clr_68_0 clr_68_1 clr_68_2 clr_68_3 clr_68_4 clr_68_6 clr_68_7 clr_68_8 clr_68_5 clr_68_9 esc_69 Try.ntmps69 res_69 clr_69_0 clr_69_1 clr_69_2 clr_69_3 clr_69_4 clr_69_5 esc_70 Try.ntmps70
attribute [go_sem] res_70 clr_70_0 clr_70_1 clr_70_2 ord_70_2 ro_70_2 clr_70_3 clr_70_4 clr_70_5 clr_70_6 ord_70_6 ro_70_6 clr_70_7 clr_70_8 clr_70_9 esc_71 Try.ntmps71 res_71 clr_71_0 clr_71_1 clr_71_2 clr_71_3 clr_71_4 clr_71_6 clr_71_7 clr_71_8 clr_71_5 clr_71_9 clr_71_10 clr_71_12 clr_71_13 clr_71_14 clr_71_15 clr_71_11 clr_71_16 clr_71_17 clr_71_18 esc_72 Try.ntmps72 res_72
attribute [go_sem] clr_72_0 clr_72_1 clr_72_2 clr_72_3 clr_72_4 ord_72_4 ro_72_4 clr_72_5 clr_72_6 clr_72_7 clr_72_8 clr_72_9 clr_72_10 clr_72_11 clr_72_12 clr_72_13 esc_73 Try.ntmps73 res_73 clr_73_0 clr_73_1 clr_73_2 clr_73_3 clr_73_4 clr_73_5 clr_73_6 clr_73_7 clr_73_8 clr_73_9 clr_73_10 clr_73_11 esc_74 Try.ntmps74 res_74 clr_74_0 clr_74_1 clr_74_2 clr_74_3 clr_74_4 clr_74_5
attribute [go_sem] ord_74_5 ro_74_5 clr_74_6 clr_74_7 clr_74_8 ord_74_8 ro_74_8 clr_74_9 clr_74_10 ord_74_10 ro_74_10 clr_74_11 clr_74_12 clr_74_13 ord_74_13 ro_74_13 clr_74_14 clr_74_15 clr_74_16 clr_74_17 clr_74_18 esc_75 Try.ntmps75 res_75 clr_75_0 clr_75_1 clr_75_2 clr_75_3 clr_75_4 clr_75_5 clr_75_6 esc_76 Try.ntmps76 res_76 clr_76_0 clr_76_1 clr_76_2 clr_76_3 clr_76_4 clr_76_5
attribute [go_sem] clr_76_6 clr_76_7 clr_76_8 ord_76_8 ro_76_8 esc_77 Try.ntmps77 res_77 clr_77_0 clr_77_1 esc_78 Try.ntmps78 res_78 clr_78_0 clr_78_1 clr_78_2 clr_78_3 clr_78_4 clr_78_5 clr_78_6 clr_78_7 esc_79 Try.ntmps79 res_79 clr_79_0 clr_79_1 clr_79_2 clr_79_3 clr_79_4 clr_79_5 clr_79_6 clr_79_7 clr_79_8 clr_79_9 esc_80 Try.ntmps80 res_80 clr_80_0 clr_80_1 clr_80_2
attribute [go_sem] clr_80_3 esc_81 Try.ntmps81 res_81 clr_81_0 clr_81_1 esc_82 Try.ntmps82 res_82 clr_82_0 clr_82_1 clr_82_2 clr_82_3 clr_82_4 clr_82_5 clr_82_6 clr_82_7 esc_83 Try.ntmps83 res_83 clr_83_0 clr_83_1 clr_83_2 clr_83_3 esc_84 Try.ntmps84 res_84 clr_84_0 clr_84_1 clr_84_3 clr_84_4 clr_84_5 clr_84_6 clr_84_7 clr_84_8 clr_84_9 clr_84_10 clr_84_11 clr_84_12 clr_84_13
attribute [go_sem] clr_84_14 clr_84_15 clr_84_16 clr_84_17 clr_84_2 clr_84_18 clr_84_19 clr_84_21 clr_84_22 clr_84_23 clr_84_20 clr_84_24 esc_85 Try.ntmps85 res_85 clr_85_0 clr_85_1 clr_85_2 clr_85_3 esc_86 Try.ntmps86 res_86 clr_86_0 clr_86_1 clr_86_2 clr_86_3 clr_86_4 clr_86_5 clr_86_6 clr_86_7 clr_86_8 esc_87 Try.ntmps87 res_87 clr_87_0 clr_87_1 esc_88 Try.ntmps88 res_88 clr_88_0
attribute [go_sem] clr_88_1 clr_88_2 clr_88_3 clr_88_4 clr_88_5 esc_89 Try.ntmps89 res_89 clr_89_0 esc_90 Try.ntmps90 res_90 clr_90_0 clr_90_1 clr_90_2 clr_90_3 clr_90_4 clr_90_5 ord_90_5 ro_90_5 clr_90_6 clr_90_7 clr_90_8 esc_91 Try.ntmps91 res_91 clr_91_0 clr_91_1 clr_91_2 clr_91_3 clr_91_4 clr_91_5 clr_91_6 clr_91_7 ord_91_7 ro_91_7 clr_91_8 clr_91_9 clr_91_10 clr_91_11
attribute [go_sem] ord_91_11 ro_91_11 clr_91_12 clr_91_13 esc_92 Try.ntmps92 res_92 clr_92_0 clr_92_1 clr_92_2 clr_92_3 esc_93 Try.ntmps93 res_93 clr_93_0 clr_93_1 esc_94 Try.ntmps94 res_94 clr_94_0 clr_94_1 esc_95 Try.ntmps95 res_95 clr_95_0 clr_95_1 esc_96 Try.ntmps96 res_96 clr_96_0 clr_96_1 esc_97 Try.ntmps97 res_97 clr_97_0 clr_97_1 esc_98 Try.ntmps98 res_98 clr_98_0
attribute [go_sem] clr_98_1 ord_98_1 ro_98_1 clr_98_2 esc_99 Try.ntmps99 res_99 clr_99_0 clr_99_1 esc_100 Try.ntmps100 res_100 clr_100_0 clr_100_1 clr_100_2 clr_100_3 ord_100_3 ro_100_3 esc_101 Try.ntmps101 res_101 clr_101_0 clr_101_1 clr_101_2 clr_101_3 clr_101_4 esc_102 Try.ntmps102 res_102 clr_102_0 clr_102_1 clr_102_2 clr_102_3 clr_102_4 clr_102_5 clr_102_6 clr_102_7 clr_102_8 clr_102_9 ord_102_9
attribute [go_sem] ro_102_9 clr_102_10 clr_102_11 ord_102_11 ro_102_11 clr_102_12 clr_102_13 clr_102_14 clr_102_15 esc_103 Try.ntmps103 res_103 clr_103_0 clr_103_1 clr_103_2 clr_103_4 clr_103_5 clr_103_6 clr_103_3 clr_103_7 esc_104 Try.ntmps104 res_104 clr_104_0 clr_104_1 ord_104_1 ro_104_1 esc_105 Try.ntmps105 res_105 clr_105_0 clr_105_1 clr_105_2 clr_105_3 clr_105_4 clr_105_5 ord_105_5 ro_105_5 clr_105_6 clr_105_7
attribute [go_sem] clr_105_8 ord_105_8 ro_105_8 clr_105_9 clr_105_10 ord_105_10 ro_105_10 clr_105_11 clr_105_12 clr_105_13 ord_105_13 ro_105_13 clr_105_14 clr_105_15 clr_105_16 clr_105_17 clr_105_18 esc_106 Try.ntmps106 res_106 clr_106_0 clr_106_1 ord_106_1 ro_106_1 clr_106_2 clr_106_3 clr_106_4 ord_106_4 ro_106_4 esc_107 Try.ntmps107 res_107 clr_107_0 clr_107_1 clr_107_2 clr_107_3 esc_108 Try.ntmps108 res_108 clr_108_0
attribute [go_sem] clr_108_1 clr_108_2 clr_108_3 clr_108_4 clr_108_5 clr_108_6 ord_108_6 ro_108_6 clr_108_7 clr_108_8 clr_108_9 ord_108_9 ro_108_9 clr_108_10 clr_108_11 clr_108_12 clr_108_13 clr_108_14 esc_109 Try.ntmps109 res_109 clr_109_0 clr_109_1 clr_109_2 esc_110 Try.ntmps110 res_110 clr_110_0 clr_110_1 clr_110_2 clr_110_4 clr_110_5 clr_110_6 ord_110_6 ro_110_6 clr_110_7 clr_110_8 clr_110_9 ord_110_9 ro_110_9
attribute [go_sem] clr_110_10 clr_110_11 clr_110_12 clr_110_3 clr_110_13 esc_111 Try.ntmps111 res_111 clr_111_0 clr_111_1 clr_111_2 clr_111_3 clr_111_4 clr_111_5 clr_111_6 clr_111_7 clr_111_8 clr_111_9 clr_111_10 esc_112 Try.ntmps112 res_112 clr_112_0 clr_112_1 clr_112_2 clr_112_3 clr_112_4 esc_113 Try.ntmps113 res_113 clr_113_0 esc_114 Try.ntmps114 res_114 clr_114_0 clr_114_1 clr_114_2 clr_114_3 clr_114_4 clr_114_5
attribute [go_sem] clr_114_6 clr_114_7 clr_114_8 clr_114_9 clr_114_10 clr_114_11 clr_114_12 esc_115 Try.ntmps115 res_115 clr_115_0 clr_115_1 clr_115_2 clr_115_3 clr_115_4 clr_115_6 clr_115_7 clr_115_8 clr_115_5 clr_115_9 esc_116 Try.ntmps116 res_116 clr_116_0 clr_116_1 clr_116_2 clr_116_3 clr_116_4 clr_116_5 clr_116_6 clr_116_8 clr_116_9 clr_116_10 clr_116_11 ord_116_11 ro_116_11 clr_116_12 clr_116_13 clr_116_14 clr_116_7
attribute [go_sem] clr_116_15 clr_116_16 clr_116_17 esc_117 Try.ntmps117 res_117 clr_117_0 clr_117_1 clr_117_2 clr_117_3 clr_117_4 clr_117_5 ord_117_5 ro_117_5 clr_117_6 esc_118 Try.ntmps118 res_118 clr_118_0 clr_118_1 clr_118_2 clr_118_3 clr_118_4 clr_118_5 clr_118_6 clr_118_7 clr_118_8 clr_118_9 clr_118_10 clr_118_11 clr_118_12 clr_118_13 clr_118_14 clr_118_15 esc_119 Try.ntmps119 res_119 clr_119_0 clr_119_1 clr_119_2
attribute [go_sem] clr_119_3 clr_119_4 clr_119_5 clr_119_6 clr_119_7 esc_120 Try.ntmps120 res_120 clr_120_0 clr_120_1 clr_120_2 clr_120_3 clr_120_4 clr_120_5 clr_120_6 clr_120_7 esc_121 Try.ntmps121 res_121 clr_121_0 clr_121_1 clr_121_2 clr_121_3 clr_121_4 esc_122 Try.ntmps122 res_122 clr_122_0 clr_122_1 ord_122_1 ro_122_1 clr_122_2 clr_122_3 ord_122_3 ro_122_3 clr_122_4 clr_122_5 clr_122_6 clr_122_7 clr_122_9
attribute [go_sem] ord_122_9 ro_122_9 clr_122_10 clr_122_11 clr_122_12 ord_122_12 ro_122_12 clr_122_13 clr_122_14 clr_122_8 clr_122_15 clr_122_16 esc_123 Try.ntmps123 res_123 clr_123_0 clr_123_1 esc_124 Try.ntmps124 res_124 clr_124_0 clr_124_1 clr_124_2 clr_124_3 clr_124_4 clr_124_5 ord_124_5 ro_124_5 esc_125 Try.ntmps125 res_125 clr_125_0 clr_125_1 esc_126 Try.ntmps126 res_126 clr_126_0 clr_126_1 clr_126_2 clr_126_3
attribute [go_sem] esc_127 Try.ntmps127 res_127 clr_127_0 clr_127_1 clr_127_2 clr_127_3 clr_127_5 ord_127_5 ro_127_5 clr_127_4 clr_127_6 clr_127_7 esc_128 Try.ntmps128 res_128 clr_128_0 clr_128_1 clr_128_2 clr_128_3 clr_128_4 clr_128_5 ord_128_5 ro_128_5 clr_128_6 clr_128_7 clr_128_8 clr_128_9 clr_128_10 clr_128_11 clr_128_12 clr_128_13 clr_128_14 clr_128_15 esc_129 Try.ntmps129 res_129 clr_129_0 clr_129_1 clr_129_2
attribute [go_sem] clr_129_3 esc_130 Try.ntmps130 res_130 clr_130_0 clr_130_1 clr_130_2 clr_130_3 clr_130_4 clr_130_5 clr_130_6 esc_131 Try.ntmps131 res_131 clr_131_0 clr_131_1 clr_131_2 esc_132 Try.ntmps132 res_132 clr_132_0 clr_132_1 clr_132_2 clr_132_3 clr_132_4 clr_132_5 clr_132_7 ord_132_7 ro_132_7 clr_132_6 clr_132_8 esc_133 Try.ntmps133 res_133 clr_133_0 clr_133_1 clr_133_2 clr_133_3 clr_133_4 esc_134
attribute [go_sem] Try.ntmps134 res_134 clr_134_0 clr_134_1 esc_135 Try.ntmps135 res_135 clr_135_0 clr_135_1 ord_135_1 ro_135_1 clr_135_2
end Go.Proofs.Ytmemmdfjlhamfaa

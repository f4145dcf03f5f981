/- The tables of this program: types; which variables are shared, what is needed no more, in which order. Printed by gen.py. -/
import Derived.Test.YtfelfahgeannaaaKE
import Derived.Test.YtfelfahgeannaaaProg
import Derived.KernelRfl
set_option maxRecDepth 100000
namespace Go.Proofs.Ytfelfahgeannaaa
open Go.Proofs
theorem tsz_1 : tsz Try.prog 1 = some 1 := by kernel_rfl
theorem tag_1 : tag Try.prog 1 = some false := by kernel_rfl
theorem tcon_1 : tcon Try.prog 1 = true := by kernel_rfl
theorem tstr_1 : tstr Try.prog 1 = false := by kernel_rfl
theorem tbool_1 : tbool Try.prog 1 = false := by kernel_rfl
theorem tslc_1 : tslc Try.prog 1 = none := by kernel_rfl
theorem tarr_1 : tarr Try.prog 1 = none := by kernel_rfl
theorem tby_1 : tby Try.prog 1 = some 8 := by kernel_rfl
theorem tzr_1 : tzr Try.prog 1 = some [.raw .nilFunc] := by kernel_rfl
theorem tsz_2 : tsz Try.prog 2 = some 1 := by kernel_rfl
theorem tag_2 : tag Try.prog 2 = some false := by kernel_rfl
theorem tcon_2 : tcon Try.prog 2 = true := by kernel_rfl
theorem tstr_2 : tstr Try.prog 2 = false := by kernel_rfl
theorem tbool_2 : tbool Try.prog 2 = false := by kernel_rfl
theorem tslc_2 : tslc Try.prog 2 = none := by kernel_rfl
theorem tarr_2 : tarr Try.prog 2 = none := by kernel_rfl
theorem tby_2 : tby Try.prog 2 = some 8 := by kernel_rfl
theorem tzr_2 : tzr Try.prog 2 = some [.d (.int .i64 0)] := by kernel_rfl
theorem tsz_3 : tsz Try.prog 3 = some 1 := by kernel_rfl
theorem tag_3 : tag Try.prog 3 = some false := by kernel_rfl
theorem tcon_3 : tcon Try.prog 3 = true := by kernel_rfl
theorem tstr_3 : tstr Try.prog 3 = false := by kernel_rfl
theorem tbool_3 : tbool Try.prog 3 = false := by kernel_rfl
theorem tslc_3 : tslc Try.prog 3 = none := by kernel_rfl
theorem tarr_3 : tarr Try.prog 3 = none := by kernel_rfl
theorem tby_3 : tby Try.prog 3 = some 8 := by kernel_rfl
theorem tzr_3 : tzr Try.prog 3 = some [.d (.int .i64 0)] := by kernel_rfl
theorem tsz_4 : tsz Try.prog 4 = some 1 := by kernel_rfl
theorem tag_4 : tag Try.prog 4 = some false := by kernel_rfl
theorem tcon_4 : tcon Try.prog 4 = true := by kernel_rfl
theorem tstr_4 : tstr Try.prog 4 = false := by kernel_rfl
theorem tbool_4 : tbool Try.prog 4 = true := by kernel_rfl
theorem tslc_4 : tslc Try.prog 4 = none := by kernel_rfl
theorem tarr_4 : tarr Try.prog 4 = none := by kernel_rfl
theorem tby_4 : tby Try.prog 4 = some 1 := by kernel_rfl
theorem tzr_4 : tzr Try.prog 4 = some [.d (.bool false)] := by kernel_rfl
theorem tsz_5 : tsz Try.prog 5 = some 1 := by kernel_rfl
theorem tag_5 : tag Try.prog 5 = some false := by kernel_rfl
theorem tcon_5 : tcon Try.prog 5 = true := by kernel_rfl
theorem tstr_5 : tstr Try.prog 5 = false := by kernel_rfl
theorem tbool_5 : tbool Try.prog 5 = false := by kernel_rfl
theorem tslc_5 : tslc Try.prog 5 = none := by kernel_rfl
theorem tarr_5 : tarr Try.prog 5 = none := by kernel_rfl
theorem tby_5 : tby Try.prog 5 = some 1 := by kernel_rfl
theorem tzr_5 : tzr Try.prog 5 = some [.d (.int .u8 0)] := by kernel_rfl
theorem tsz_9 : tsz Try.prog 9 = some 1 := by kernel_rfl
theorem tag_9 : tag Try.prog 9 = some false := by kernel_rfl
theorem tcon_9 : tcon Try.prog 9 = true := by kernel_rfl
theorem tstr_9 : tstr Try.prog 9 = true := by kernel_rfl
theorem tbool_9 : tbool Try.prog 9 = false := by kernel_rfl
theorem tslc_9 : tslc Try.prog 9 = none := by kernel_rfl
theorem tarr_9 : tarr Try.prog 9 = none := by kernel_rfl
theorem tby_9 : tby Try.prog 9 = some 16 := by kernel_rfl
theorem tzr_9 : tzr Try.prog 9 = some [.d (.str ⟨#[]⟩)] := by kernel_rfl
theorem tsz_12 : tsz Try.prog 12 = some 1 := by kernel_rfl
theorem tag_12 : tag Try.prog 12 = some false := by kernel_rfl
theorem tcon_12 : tcon Try.prog 12 = true := by kernel_rfl
theorem tstr_12 : tstr Try.prog 12 = false := by kernel_rfl
theorem tbool_12 : tbool Try.prog 12 = false := by kernel_rfl
theorem tslc_12 : tslc Try.prog 12 = none := by kernel_rfl
theorem tarr_12 : tarr Try.prog 12 = none := by kernel_rfl
theorem tby_12 : tby Try.prog 12 = some 8 := by kernel_rfl
theorem tzr_12 : tzr Try.prog 12 = some [.d (.int .u64 0)] := by kernel_rfl
theorem tsz_20 : tsz Try.prog 20 = some 1 := by kernel_rfl
theorem tag_20 : tag Try.prog 20 = some false := by kernel_rfl
theorem tcon_20 : tcon Try.prog 20 = false := by kernel_rfl
theorem tstr_20 : tstr Try.prog 20 = false := by kernel_rfl
theorem tbool_20 : tbool Try.prog 20 = false := by kernel_rfl
theorem tslc_20 : tslc Try.prog 20 = none := by kernel_rfl
theorem tarr_20 : tarr Try.prog 20 = none := by kernel_rfl
theorem tby_20 : tby Try.prog 20 = some 16 := by kernel_rfl
theorem tzr_20 : tzr Try.prog 20 = some [.raw .nilIface] := by kernel_rfl
theorem tsz_21 : tsz Try.prog 21 = some 1 := by kernel_rfl
theorem tag_21 : tag Try.prog 21 = some false := by kernel_rfl
theorem tcon_21 : tcon Try.prog 21 = true := by kernel_rfl
theorem tstr_21 : tstr Try.prog 21 = false := by kernel_rfl
theorem tbool_21 : tbool Try.prog 21 = false := by kernel_rfl
theorem tslc_21 : tslc Try.prog 21 = none := by kernel_rfl
theorem tarr_21 : tarr Try.prog 21 = none := by kernel_rfl
theorem tby_21 : tby Try.prog 21 = some 4 := by kernel_rfl
theorem tzr_21 : tzr Try.prog 21 = some [.d (.int .i32 0)] := by kernel_rfl
theorem tsz_22 : tsz Try.prog 22 = some 1 := by kernel_rfl
theorem tag_22 : tag Try.prog 22 = some false := by kernel_rfl
theorem tcon_22 : tcon Try.prog 22 = true := by kernel_rfl
theorem tstr_22 : tstr Try.prog 22 = false := by kernel_rfl
theorem tbool_22 : tbool Try.prog 22 = false := by kernel_rfl
theorem tslc_22 : tslc Try.prog 22 = some 24 := by kernel_rfl
theorem tarr_22 : tarr Try.prog 22 = none := by kernel_rfl
theorem tby_22 : tby Try.prog 22 = some 24 := by kernel_rfl
theorem tzr_22 : tzr Try.prog 22 = some [.clip []] := by kernel_rfl
theorem tsz_23 : tsz Try.prog 23 = some 3 := by kernel_rfl
theorem tag_23 : tag Try.prog 23 = some true := by kernel_rfl
theorem tcon_23 : tcon Try.prog 23 = true := by kernel_rfl
theorem tstr_23 : tstr Try.prog 23 = false := by kernel_rfl
theorem tbool_23 : tbool Try.prog 23 = false := by kernel_rfl
theorem tslc_23 : tslc Try.prog 23 = none := by kernel_rfl
theorem tarr_23 : tarr Try.prog 23 = none := by kernel_rfl
theorem tby_23 : tby Try.prog 23 = some 40 := by kernel_rfl
theorem tzr_23 : tzr Try.prog 23 = some [.d (.int .i64 0), .d (.int .i64 0), .clip []] := by kernel_rfl
theorem tfld_23_0 : tfld Try.prog 23 0 = some (0, 1, 3) := by kernel_rfl
theorem place_23_0 : place Try.prog 23 0 = some (0, 1) := by kernel_rfl
theorem tfld_23_1 : tfld Try.prog 23 1 = some (1, 1, 3) := by kernel_rfl
theorem place_23_1 : place Try.prog 23 1 = some (1, 1) := by kernel_rfl
theorem tfld_23_2 : tfld Try.prog 23 2 = some (2, 1, 22) := by kernel_rfl
theorem place_23_2 : place Try.prog 23 2 = some (2, 1) := by kernel_rfl
theorem tbld_23 : tbld Try.prog 23 = true := by kernel_rfl
theorem tsz_24 : tsz Try.prog 24 = some 3 := by kernel_rfl
theorem tag_24 : tag Try.prog 24 = some true := by kernel_rfl
theorem tcon_24 : tcon Try.prog 24 = true := by kernel_rfl
theorem tstr_24 : tstr Try.prog 24 = false := by kernel_rfl
theorem tbool_24 : tbool Try.prog 24 = false := by kernel_rfl
theorem tslc_24 : tslc Try.prog 24 = none := by kernel_rfl
theorem tarr_24 : tarr Try.prog 24 = none := by kernel_rfl
theorem tby_24 : tby Try.prog 24 = some 40 := by kernel_rfl
theorem tzr_24 : tzr Try.prog 24 = some [.d (.int .i64 0), .d (.int .i64 0), .clip []] := by kernel_rfl
theorem tfld_24_0 : tfld Try.prog 24 0 = some (0, 1, 3) := by kernel_rfl
theorem place_24_0 : place Try.prog 24 0 = some (0, 1) := by kernel_rfl
theorem tfld_24_1 : tfld Try.prog 24 1 = some (1, 1, 3) := by kernel_rfl
theorem place_24_1 : place Try.prog 24 1 = some (1, 1) := by kernel_rfl
theorem tfld_24_2 : tfld Try.prog 24 2 = some (2, 1, 22) := by kernel_rfl
theorem place_24_2 : place Try.prog 24 2 = some (2, 1) := by kernel_rfl
theorem tbld_24 : tbld Try.prog 24 = true := by kernel_rfl
theorem tsz_25 : tsz Try.prog 25 = some 1 := by kernel_rfl
theorem tag_25 : tag Try.prog 25 = some false := by kernel_rfl
theorem tcon_25 : tcon Try.prog 25 = true := by kernel_rfl
theorem tstr_25 : tstr Try.prog 25 = false := by kernel_rfl
theorem tbool_25 : tbool Try.prog 25 = false := by kernel_rfl
theorem tslc_25 : tslc Try.prog 25 = some 39 := by kernel_rfl
theorem tarr_25 : tarr Try.prog 25 = none := by kernel_rfl
theorem tby_25 : tby Try.prog 25 = some 24 := by kernel_rfl
theorem tzr_25 : tzr Try.prog 25 = some [.clip []] := by kernel_rfl
theorem tsz_26 : tsz Try.prog 26 = some 1 := by kernel_rfl
theorem tag_26 : tag Try.prog 26 = some false := by kernel_rfl
theorem tcon_26 : tcon Try.prog 26 = true := by kernel_rfl
theorem tstr_26 : tstr Try.prog 26 = false := by kernel_rfl
theorem tbool_26 : tbool Try.prog 26 = false := by kernel_rfl
theorem tslc_26 : tslc Try.prog 26 = none := by kernel_rfl
theorem tarr_26 : tarr Try.prog 26 = none := by kernel_rfl
theorem tby_26 : tby Try.prog 26 = some 8 := by kernel_rfl
theorem tzr_26 : tzr Try.prog 26 = some [.raw .nilFunc] := by kernel_rfl
theorem tsz_27 : tsz Try.prog 27 = some 1 := by kernel_rfl
theorem tag_27 : tag Try.prog 27 = some false := by kernel_rfl
theorem tcon_27 : tcon Try.prog 27 = true := by kernel_rfl
theorem tstr_27 : tstr Try.prog 27 = false := by kernel_rfl
theorem tbool_27 : tbool Try.prog 27 = false := by kernel_rfl
theorem tslc_27 : tslc Try.prog 27 = none := by kernel_rfl
theorem tarr_27 : tarr Try.prog 27 = none := by kernel_rfl
theorem tby_27 : tby Try.prog 27 = some 8 := by kernel_rfl
theorem tzr_27 : tzr Try.prog 27 = some [.raw .nilFunc] := by kernel_rfl
theorem tsz_28 : tsz Try.prog 28 = some 1 := by kernel_rfl
theorem tag_28 : tag Try.prog 28 = some false := by kernel_rfl
theorem tcon_28 : tcon Try.prog 28 = true := by kernel_rfl
theorem tstr_28 : tstr Try.prog 28 = false := by kernel_rfl
theorem tbool_28 : tbool Try.prog 28 = false := by kernel_rfl
theorem tslc_28 : tslc Try.prog 28 = none := by kernel_rfl
theorem tarr_28 : tarr Try.prog 28 = none := by kernel_rfl
theorem tby_28 : tby Try.prog 28 = some 8 := by kernel_rfl
theorem tzr_28 : tzr Try.prog 28 = some [.raw .nilFunc] := by kernel_rfl
theorem tsz_30 : tsz Try.prog 30 = some 1 := by kernel_rfl
theorem tag_30 : tag Try.prog 30 = some false := by kernel_rfl
theorem tcon_30 : tcon Try.prog 30 = true := by kernel_rfl
theorem tstr_30 : tstr Try.prog 30 = false := by kernel_rfl
theorem tbool_30 : tbool Try.prog 30 = false := by kernel_rfl
theorem tslc_30 : tslc Try.prog 30 = none := by kernel_rfl
theorem tarr_30 : tarr Try.prog 30 = none := by kernel_rfl
theorem tby_30 : tby Try.prog 30 = some 8 := by kernel_rfl
theorem tzr_30 : tzr Try.prog 30 = some [.raw .nilFunc] := by kernel_rfl
theorem tsz_31 : tsz Try.prog 31 = some 1 := by kernel_rfl
theorem tag_31 : tag Try.prog 31 = some false := by kernel_rfl
theorem tcon_31 : tcon Try.prog 31 = true := by kernel_rfl
theorem tstr_31 : tstr Try.prog 31 = false := by kernel_rfl
theorem tbool_31 : tbool Try.prog 31 = false := by kernel_rfl
theorem tslc_31 : tslc Try.prog 31 = none := by kernel_rfl
theorem tarr_31 : tarr Try.prog 31 = none := by kernel_rfl
theorem tby_31 : tby Try.prog 31 = some 8 := by kernel_rfl
theorem tzr_31 : tzr Try.prog 31 = some [.raw .nilFunc] := by kernel_rfl
theorem tsz_32 : tsz Try.prog 32 = some 1 := by kernel_rfl
theorem tag_32 : tag Try.prog 32 = some false := by kernel_rfl
theorem tcon_32 : tcon Try.prog 32 = true := by kernel_rfl
theorem tstr_32 : tstr Try.prog 32 = false := by kernel_rfl
theorem tbool_32 : tbool Try.prog 32 = false := by kernel_rfl
theorem tslc_32 : tslc Try.prog 32 = none := by kernel_rfl
theorem tarr_32 : tarr Try.prog 32 = none := by kernel_rfl
theorem tby_32 : tby Try.prog 32 = some 8 := by kernel_rfl
theorem tzr_32 : tzr Try.prog 32 = some [.raw .nilFunc] := by kernel_rfl
theorem tsz_33 : tsz Try.prog 33 = some 1 := by kernel_rfl
theorem tag_33 : tag Try.prog 33 = some false := by kernel_rfl
theorem tcon_33 : tcon Try.prog 33 = true := by kernel_rfl
theorem tstr_33 : tstr Try.prog 33 = false := by kernel_rfl
theorem tbool_33 : tbool Try.prog 33 = false := by kernel_rfl
theorem tslc_33 : tslc Try.prog 33 = none := by kernel_rfl
theorem tarr_33 : tarr Try.prog 33 = none := by kernel_rfl
theorem tby_33 : tby Try.prog 33 = some 8 := by kernel_rfl
theorem tzr_33 : tzr Try.prog 33 = some [.raw .nilFunc] := by kernel_rfl
theorem tsz_34 : tsz Try.prog 34 = some 1 := by kernel_rfl
theorem tag_34 : tag Try.prog 34 = some false := by kernel_rfl
theorem tcon_34 : tcon Try.prog 34 = true := by kernel_rfl
theorem tstr_34 : tstr Try.prog 34 = false := by kernel_rfl
theorem tbool_34 : tbool Try.prog 34 = false := by kernel_rfl
theorem tslc_34 : tslc Try.prog 34 = some 3 := by kernel_rfl
theorem tarr_34 : tarr Try.prog 34 = none := by kernel_rfl
theorem tby_34 : tby Try.prog 34 = some 24 := by kernel_rfl
theorem tzr_34 : tzr Try.prog 34 = some [.clip []] := by kernel_rfl
theorem tsz_35 : tsz Try.prog 35 = some 1 := by kernel_rfl
theorem tag_35 : tag Try.prog 35 = some false := by kernel_rfl
theorem tcon_35 : tcon Try.prog 35 = true := by kernel_rfl
theorem tstr_35 : tstr Try.prog 35 = false := by kernel_rfl
theorem tbool_35 : tbool Try.prog 35 = false := by kernel_rfl
theorem tslc_35 : tslc Try.prog 35 = none := by kernel_rfl
theorem tarr_35 : tarr Try.prog 35 = none := by kernel_rfl
theorem tby_35 : tby Try.prog 35 = some 8 := by kernel_rfl
theorem tzr_35 : tzr Try.prog 35 = some [.raw .nilFunc] := by kernel_rfl
theorem tsz_36 : tsz Try.prog 36 = some 1 := by kernel_rfl
theorem tag_36 : tag Try.prog 36 = some false := by kernel_rfl
theorem tcon_36 : tcon Try.prog 36 = true := by kernel_rfl
theorem tstr_36 : tstr Try.prog 36 = false := by kernel_rfl
theorem tbool_36 : tbool Try.prog 36 = false := by kernel_rfl
theorem tslc_36 : tslc Try.prog 36 = none := by kernel_rfl
theorem tarr_36 : tarr Try.prog 36 = none := by kernel_rfl
theorem tby_36 : tby Try.prog 36 = some 8 := by kernel_rfl
theorem tzr_36 : tzr Try.prog 36 = some [.raw .nilFunc] := by kernel_rfl
theorem tsz_37 : tsz Try.prog 37 = some 1 := by kernel_rfl
theorem tag_37 : tag Try.prog 37 = some false := by kernel_rfl
theorem tcon_37 : tcon Try.prog 37 = true := by kernel_rfl
theorem tstr_37 : tstr Try.prog 37 = false := by kernel_rfl
theorem tbool_37 : tbool Try.prog 37 = false := by kernel_rfl
theorem tslc_37 : tslc Try.prog 37 = none := by kernel_rfl
theorem tarr_37 : tarr Try.prog 37 = none := by kernel_rfl
theorem tby_37 : tby Try.prog 37 = some 8 := by kernel_rfl
theorem tzr_37 : tzr Try.prog 37 = some [.raw .nilFunc] := by kernel_rfl
theorem tsz_38 : tsz Try.prog 38 = some 4 := by kernel_rfl
theorem tag_38 : tag Try.prog 38 = some true := by kernel_rfl
theorem tcon_38 : tcon Try.prog 38 = true := by kernel_rfl
theorem tstr_38 : tstr Try.prog 38 = false := by kernel_rfl
theorem tbool_38 : tbool Try.prog 38 = false := by kernel_rfl
theorem tslc_38 : tslc Try.prog 38 = none := by kernel_rfl
theorem tarr_38 : tarr Try.prog 38 = none := by kernel_rfl
theorem tby_38 : tby Try.prog 38 = some 56 := by kernel_rfl
theorem tzr_38 : tzr Try.prog 38 = some [.d (.str ⟨#[]⟩), .d (.int .i64 0), .d (.int .i64 0), .clip []] := by kernel_rfl
theorem tfld_38_0 : tfld Try.prog 38 0 = some (0, 1, 9) := by kernel_rfl
theorem place_38_0 : place Try.prog 38 0 = some (0, 1) := by kernel_rfl
theorem tfld_38_1 : tfld Try.prog 38 1 = some (1, 3, 24) := by kernel_rfl
theorem place_38_1 : place Try.prog 38 1 = some (1, 3) := by kernel_rfl
theorem tbld_38 : tbld Try.prog 38 = true := by kernel_rfl
theorem tsz_39 : tsz Try.prog 39 = some 4 := by kernel_rfl
theorem tag_39 : tag Try.prog 39 = some true := by kernel_rfl
theorem tcon_39 : tcon Try.prog 39 = true := by kernel_rfl
theorem tstr_39 : tstr Try.prog 39 = false := by kernel_rfl
theorem tbool_39 : tbool Try.prog 39 = false := by kernel_rfl
theorem tslc_39 : tslc Try.prog 39 = none := by kernel_rfl
theorem tarr_39 : tarr Try.prog 39 = none := by kernel_rfl
theorem tby_39 : tby Try.prog 39 = some 56 := by kernel_rfl
theorem tzr_39 : tzr Try.prog 39 = some [.d (.str ⟨#[]⟩), .d (.int .i64 0), .d (.int .i64 0), .clip []] := by kernel_rfl
theorem tfld_39_0 : tfld Try.prog 39 0 = some (0, 1, 9) := by kernel_rfl
theorem place_39_0 : place Try.prog 39 0 = some (0, 1) := by kernel_rfl
theorem tfld_39_1 : tfld Try.prog 39 1 = some (1, 3, 24) := by kernel_rfl
theorem place_39_1 : place Try.prog 39 1 = some (1, 3) := by kernel_rfl
theorem tbld_39 : tbld Try.prog 39 = true := by kernel_rfl
theorem tsz_40 : tsz Try.prog 40 = some 1 := by kernel_rfl
theorem tag_40 : tag Try.prog 40 = some false := by kernel_rfl
theorem tcon_40 : tcon Try.prog 40 = true := by kernel_rfl
theorem tstr_40 : tstr Try.prog 40 = false := by kernel_rfl
theorem tbool_40 : tbool Try.prog 40 = false := by kernel_rfl
theorem tslc_40 : tslc Try.prog 40 = none := by kernel_rfl
theorem tarr_40 : tarr Try.prog 40 = none := by kernel_rfl
theorem tby_40 : tby Try.prog 40 = some 8 := by kernel_rfl
theorem tzr_40 : tzr Try.prog 40 = some [.raw .nilFunc] := by kernel_rfl
theorem tsz_41 : tsz Try.prog 41 = some 1 := by kernel_rfl
theorem tag_41 : tag Try.prog 41 = some false := by kernel_rfl
theorem tcon_41 : tcon Try.prog 41 = true := by kernel_rfl
theorem tstr_41 : tstr Try.prog 41 = false := by kernel_rfl
theorem tbool_41 : tbool Try.prog 41 = false := by kernel_rfl
theorem tslc_41 : tslc Try.prog 41 = none := by kernel_rfl
theorem tarr_41 : tarr Try.prog 41 = none := by kernel_rfl
theorem tby_41 : tby Try.prog 41 = some 8 := by kernel_rfl
theorem tzr_41 : tzr Try.prog 41 = some [.raw .nilFunc] := by kernel_rfl
theorem tsz_42 : tsz Try.prog 42 = some 1 := by kernel_rfl
theorem tag_42 : tag Try.prog 42 = some false := by kernel_rfl
theorem tcon_42 : tcon Try.prog 42 = true := by kernel_rfl
theorem tstr_42 : tstr Try.prog 42 = false := by kernel_rfl
theorem tbool_42 : tbool Try.prog 42 = false := by kernel_rfl
theorem tslc_42 : tslc Try.prog 42 = none := by kernel_rfl
theorem tarr_42 : tarr Try.prog 42 = none := by kernel_rfl
theorem tby_42 : tby Try.prog 42 = some 8 := by kernel_rfl
theorem tzr_42 : tzr Try.prog 42 = some [.raw .nilFunc] := by kernel_rfl
theorem tsz_43 : tsz Try.prog 43 = some 1 := by kernel_rfl
theorem tag_43 : tag Try.prog 43 = some false := by kernel_rfl
theorem tcon_43 : tcon Try.prog 43 = true := by kernel_rfl
theorem tstr_43 : tstr Try.prog 43 = false := by kernel_rfl
theorem tbool_43 : tbool Try.prog 43 = false := by kernel_rfl
theorem tslc_43 : tslc Try.prog 43 = none := by kernel_rfl
theorem tarr_43 : tarr Try.prog 43 = none := by kernel_rfl
theorem tby_43 : tby Try.prog 43 = some 8 := by kernel_rfl
theorem tzr_43 : tzr Try.prog 43 = some [.raw .nilFunc] := by kernel_rfl
theorem tsz_44 : tsz Try.prog 44 = some 1 := by kernel_rfl
theorem tag_44 : tag Try.prog 44 = some false := by kernel_rfl
theorem tcon_44 : tcon Try.prog 44 = true := by kernel_rfl
theorem tstr_44 : tstr Try.prog 44 = false := by kernel_rfl
theorem tbool_44 : tbool Try.prog 44 = false := by kernel_rfl
theorem tslc_44 : tslc Try.prog 44 = none := by kernel_rfl
theorem tarr_44 : tarr Try.prog 44 = none := by kernel_rfl
theorem tby_44 : tby Try.prog 44 = some 8 := by kernel_rfl
theorem tzr_44 : tzr Try.prog 44 = some [.raw .nilFunc] := by kernel_rfl
theorem tsz_45 : tsz Try.prog 45 = some 1 := by kernel_rfl
theorem tag_45 : tag Try.prog 45 = some false := by kernel_rfl
theorem tcon_45 : tcon Try.prog 45 = true := by kernel_rfl
theorem tstr_45 : tstr Try.prog 45 = false := by kernel_rfl
theorem tbool_45 : tbool Try.prog 45 = false := by kernel_rfl
theorem tslc_45 : tslc Try.prog 45 = none := by kernel_rfl
theorem tarr_45 : tarr Try.prog 45 = none := by kernel_rfl
theorem tby_45 : tby Try.prog 45 = some 8 := by kernel_rfl
theorem tzr_45 : tzr Try.prog 45 = some [.raw .nilFunc] := by kernel_rfl
theorem tsz_46 : tsz Try.prog 46 = some 1 := by kernel_rfl
theorem tag_46 : tag Try.prog 46 = some false := by kernel_rfl
theorem tcon_46 : tcon Try.prog 46 = true := by kernel_rfl
theorem tstr_46 : tstr Try.prog 46 = false := by kernel_rfl
theorem tbool_46 : tbool Try.prog 46 = false := by kernel_rfl
theorem tslc_46 : tslc Try.prog 46 = none := by kernel_rfl
theorem tarr_46 : tarr Try.prog 46 = none := by kernel_rfl
theorem tby_46 : tby Try.prog 46 = some 8 := by kernel_rfl
theorem tzr_46 : tzr Try.prog 46 = some [.raw .nilFunc] := by kernel_rfl
theorem tsz_47 : tsz Try.prog 47 = some 1 := by kernel_rfl
theorem tag_47 : tag Try.prog 47 = some false := by kernel_rfl
theorem tcon_47 : tcon Try.prog 47 = true := by kernel_rfl
theorem tstr_47 : tstr Try.prog 47 = false := by kernel_rfl
theorem tbool_47 : tbool Try.prog 47 = false := by kernel_rfl
theorem tslc_47 : tslc Try.prog 47 = none := by kernel_rfl
theorem tarr_47 : tarr Try.prog 47 = none := by kernel_rfl
theorem tby_47 : tby Try.prog 47 = some 8 := by kernel_rfl
theorem tzr_47 : tzr Try.prog 47 = some [.raw .nilFunc] := by kernel_rfl
theorem tsz_48 : tsz Try.prog 48 = some 1 := by kernel_rfl
theorem tag_48 : tag Try.prog 48 = some false := by kernel_rfl
theorem tcon_48 : tcon Try.prog 48 = true := by kernel_rfl
theorem tstr_48 : tstr Try.prog 48 = false := by kernel_rfl
theorem tbool_48 : tbool Try.prog 48 = false := by kernel_rfl
theorem tslc_48 : tslc Try.prog 48 = none := by kernel_rfl
theorem tarr_48 : tarr Try.prog 48 = none := by kernel_rfl
theorem tby_48 : tby Try.prog 48 = some 8 := by kernel_rfl
theorem tzr_48 : tzr Try.prog 48 = some [.raw .nilFunc] := by kernel_rfl
theorem tsz_49 : tsz Try.prog 49 = some 1 := by kernel_rfl
theorem tag_49 : tag Try.prog 49 = some false := by kernel_rfl
theorem tcon_49 : tcon Try.prog 49 = true := by kernel_rfl
theorem tstr_49 : tstr Try.prog 49 = false := by kernel_rfl
theorem tbool_49 : tbool Try.prog 49 = false := by kernel_rfl
theorem tslc_49 : tslc Try.prog 49 = none := by kernel_rfl
theorem tarr_49 : tarr Try.prog 49 = none := by kernel_rfl
theorem tby_49 : tby Try.prog 49 = some 8 := by kernel_rfl
theorem tzr_49 : tzr Try.prog 49 = some [.raw .nilFunc] := by kernel_rfl
theorem tsz_50 : tsz Try.prog 50 = some 1 := by kernel_rfl
theorem tag_50 : tag Try.prog 50 = some false := by kernel_rfl
theorem tcon_50 : tcon Try.prog 50 = true := by kernel_rfl
theorem tstr_50 : tstr Try.prog 50 = false := by kernel_rfl
theorem tbool_50 : tbool Try.prog 50 = false := by kernel_rfl
theorem tslc_50 : tslc Try.prog 50 = none := by kernel_rfl
theorem tarr_50 : tarr Try.prog 50 = none := by kernel_rfl
theorem tby_50 : tby Try.prog 50 = some 8 := by kernel_rfl
theorem tzr_50 : tzr Try.prog 50 = some [.raw .nilFunc] := by kernel_rfl
theorem tsz_51 : tsz Try.prog 51 = some 1 := by kernel_rfl
theorem tag_51 : tag Try.prog 51 = some false := by kernel_rfl
theorem tcon_51 : tcon Try.prog 51 = true := by kernel_rfl
theorem tstr_51 : tstr Try.prog 51 = false := by kernel_rfl
theorem tbool_51 : tbool Try.prog 51 = false := by kernel_rfl
theorem tslc_51 : tslc Try.prog 51 = none := by kernel_rfl
theorem tarr_51 : tarr Try.prog 51 = none := by kernel_rfl
theorem tby_51 : tby Try.prog 51 = some 8 := by kernel_rfl
theorem tzr_51 : tzr Try.prog 51 = some [.raw .nilFunc] := by kernel_rfl
theorem tsz_52 : tsz Try.prog 52 = some 1 := by kernel_rfl
theorem tag_52 : tag Try.prog 52 = some false := by kernel_rfl
theorem tcon_52 : tcon Try.prog 52 = true := by kernel_rfl
theorem tstr_52 : tstr Try.prog 52 = false := by kernel_rfl
theorem tbool_52 : tbool Try.prog 52 = false := by kernel_rfl
theorem tslc_52 : tslc Try.prog 52 = none := by kernel_rfl
theorem tarr_52 : tarr Try.prog 52 = none := by kernel_rfl
theorem tby_52 : tby Try.prog 52 = some 8 := by kernel_rfl
theorem tzr_52 : tzr Try.prog 52 = some [.raw .nilFunc] := by kernel_rfl
theorem tsz_53 : tsz Try.prog 53 = some 1 := by kernel_rfl
theorem tag_53 : tag Try.prog 53 = some false := by kernel_rfl
theorem tcon_53 : tcon Try.prog 53 = true := by kernel_rfl
theorem tstr_53 : tstr Try.prog 53 = false := by kernel_rfl
theorem tbool_53 : tbool Try.prog 53 = false := by kernel_rfl
theorem tslc_53 : tslc Try.prog 53 = none := by kernel_rfl
theorem tarr_53 : tarr Try.prog 53 = none := by kernel_rfl
theorem tby_53 : tby Try.prog 53 = some 8 := by kernel_rfl
theorem tzr_53 : tzr Try.prog 53 = some [.raw .nilFunc] := by kernel_rfl
theorem tsz_54 : tsz Try.prog 54 = some 1 := by kernel_rfl
theorem tag_54 : tag Try.prog 54 = some false := by kernel_rfl
theorem tcon_54 : tcon Try.prog 54 = true := by kernel_rfl
theorem tstr_54 : tstr Try.prog 54 = false := by kernel_rfl
theorem tbool_54 : tbool Try.prog 54 = false := by kernel_rfl
theorem tslc_54 : tslc Try.prog 54 = none := by kernel_rfl
theorem tarr_54 : tarr Try.prog 54 = none := by kernel_rfl
theorem tby_54 : tby Try.prog 54 = some 8 := by kernel_rfl
theorem tzr_54 : tzr Try.prog 54 = some [.raw .nilFunc] := by kernel_rfl
theorem tsz_60 : tsz Try.prog 60 = some 1 := by kernel_rfl
theorem tag_60 : tag Try.prog 60 = some false := by kernel_rfl
theorem tcon_60 : tcon Try.prog 60 = true := by kernel_rfl
theorem tstr_60 : tstr Try.prog 60 = false := by kernel_rfl
theorem tbool_60 : tbool Try.prog 60 = false := by kernel_rfl
theorem tslc_60 : tslc Try.prog 60 = none := by kernel_rfl
theorem tarr_60 : tarr Try.prog 60 = none := by kernel_rfl
theorem tby_60 : tby Try.prog 60 = some 8 := by kernel_rfl
theorem tzr_60 : tzr Try.prog 60 = some [.raw .nilFunc] := by kernel_rfl
theorem tsz_61 : tsz Try.prog 61 = some 1 := by kernel_rfl
theorem tag_61 : tag Try.prog 61 = some false := by kernel_rfl
theorem tcon_61 : tcon Try.prog 61 = true := by kernel_rfl
theorem tstr_61 : tstr Try.prog 61 = false := by kernel_rfl
theorem tbool_61 : tbool Try.prog 61 = false := by kernel_rfl
theorem tslc_61 : tslc Try.prog 61 = none := by kernel_rfl
theorem tarr_61 : tarr Try.prog 61 = none := by kernel_rfl
theorem tby_61 : tby Try.prog 61 = some 4 := by kernel_rfl
theorem tzr_61 : tzr Try.prog 61 = some [.d (.int .u32 0)] := by kernel_rfl
theorem tsz_64 : tsz Try.prog 64 = some 1 := by kernel_rfl
theorem tag_64 : tag Try.prog 64 = some false := by kernel_rfl
theorem tcon_64 : tcon Try.prog 64 = true := by kernel_rfl
theorem tstr_64 : tstr Try.prog 64 = false := by kernel_rfl
theorem tbool_64 : tbool Try.prog 64 = false := by kernel_rfl
theorem tslc_64 : tslc Try.prog 64 = none := by kernel_rfl
theorem tarr_64 : tarr Try.prog 64 = none := by kernel_rfl
theorem tby_64 : tby Try.prog 64 = some 8 := by kernel_rfl
theorem tzr_64 : tzr Try.prog 64 = some [.raw .nilFunc] := by kernel_rfl
theorem tsz_65 : tsz Try.prog 65 = some 1 := by kernel_rfl
theorem tag_65 : tag Try.prog 65 = some false := by kernel_rfl
theorem tcon_65 : tcon Try.prog 65 = true := by kernel_rfl
theorem tstr_65 : tstr Try.prog 65 = false := by kernel_rfl
theorem tbool_65 : tbool Try.prog 65 = false := by kernel_rfl
theorem tslc_65 : tslc Try.prog 65 = none := by kernel_rfl
theorem tarr_65 : tarr Try.prog 65 = none := by kernel_rfl
theorem tby_65 : tby Try.prog 65 = some 8 := by kernel_rfl
theorem tzr_65 : tzr Try.prog 65 = some [.raw (.pointer none)] := by kernel_rfl
def escT : Nat → List Nat
  | 17 => [4, 5]
  | 30 => [3]
  | 35 => [4, 5]
  | 40 => [1]
  | 41 => [1]
  | 43 => [1]
  | 44 => [3, 4]
  | _ => []
def clrT' : Nat → Nat → List Nat
  | 3, 0 => [0, 6]
  | 3, 1 => [20]
  | 3, 2 => [21, 22]
  | 3, 3 => [23, 24]
  | 3, 4 => [8, 9, 25, 26, 27, 28, 29, 30, 31, 32, 33]
  | 3, 5 => [1, 2, 3, 7, 34, 35]
  | 3, 6 => [7, 34, 36, 37, 38, 39, 40]
  | 3, 7 => [41, 42, 43, 44, 45]
  | 3, 8 => [10, 12, 46, 47, 48]
  | 3, 9 => [11, 13, 49, 50, 51]
  | 3, 10 => [52, 53]
  | 3, 11 => [54, 55, 56]
  | 3, 12 => [1, 2, 57, 58, 59]
  | 3, 13 => [60, 61, 62, 63]
  | 3, 14 => [3, 14, 15, 16, 17, 18, 64]
  | 3, 15 => [64]
  | 3, 16 => [65, 66, 67]
  | 3, 18 => [68, 71, 72, 73, 74, 75, 76, 77, 78]
  | 3, 19 => [3, 14, 15, 16, 17, 18, 19, 79]
  | 3, 17 => [69, 70, 79]
  | 3, 20 => [3, 14, 15, 16, 17, 18, 19, 68, 80, 81, 82, 83, 84, 85, 86, 87, 88, 89, 90, 91, 92, 93, 94, 95, 96]
  | 4, 0 => [4]
  | 4, 1 => [14]
  | 4, 2 => [15, 16]
  | 4, 3 => [6, 17, 18, 19, 20, 21]
  | 4, 4 => [0, 1, 5, 22, 23]
  | 4, 5 => [5, 22]
  | 4, 6 => [24, 25, 26]
  | 4, 8 => [27, 30, 31, 32, 33, 34, 35]
  | 4, 10 => [36, 37, 38]
  | 4, 12 => [39, 40, 41]
  | 4, 14 => [42, 45, 46, 47, 48, 49, 50, 51, 52, 53]
  | 4, 13 => [43, 44]
  | 4, 15 => [10, 11, 42, 54, 55, 56]
  | 4, 17 => [57, 58, 59]
  | 4, 19 => [60, 63, 64, 65, 66, 67, 68, 69, 70, 71, 72]
  | 4, 20 => [0, 1, 7, 8, 9, 12, 13, 73]
  | 4, 18 => [61, 62, 73]
  | 4, 21 => [8, 9, 12, 13, 60, 74, 75, 76, 77, 78, 79, 80, 81, 82, 83, 84, 85, 86, 87, 88]
  | 4, 22 => [0, 1, 7, 89]
  | 4, 7 => [28, 29, 89]
  | 4, 23 => [0, 1, 7, 27]
  | 5, 0 => [1, 6]
  | 5, 1 => [14]
  | 5, 2 => [15, 16]
  | 5, 3 => [17, 18, 19]
  | 5, 4 => [8, 9, 20, 21, 22, 23, 24, 25, 26, 27, 28]
  | 5, 5 => [0, 2, 4, 7, 29, 30]
  | 5, 6 => [7, 29, 31, 32, 33]
  | 5, 7 => [34, 35, 36, 37, 38, 39, 40]
  | 5, 9 => [2, 4, 41, 42, 43, 44, 45, 46, 47, 48]
  | 5, 10 => [49]
  | 5, 11 => [49, 50, 51, 52, 53, 54, 55]
  | 5, 12 => [0, 10, 11, 12, 56]
  | 5, 13 => [56]
  | 5, 14 => [57, 58, 59]
  | 5, 16 => [60, 63, 64, 65, 66, 67, 68, 69, 70]
  | 5, 17 => [0, 10, 11, 12, 13, 71]
  | 5, 15 => [61, 62, 71]
  | 5, 18 => [0, 10, 11, 12, 13, 60, 72, 73, 74, 75, 76, 77, 78, 79, 80, 81, 82, 83]
  | 6, 0 => [0, 6]
  | 6, 1 => [11]
  | 6, 2 => [12, 13]
  | 6, 3 => [8, 14, 15, 16, 17, 18, 19, 20, 21, 22, 23, 24, 25, 26, 27, 28, 29, 30]
  | 6, 4 => [1, 2, 3, 7, 31, 32]
  | 6, 5 => [7, 31, 33, 34]
  | 6, 6 => [35, 36, 37, 38]
  | 6, 7 => [1, 2, 3, 9, 10, 39, 40, 41, 42, 43, 44, 45, 46, 47, 48, 49, 50, 51, 52, 53, 54, 55, 56, 57, 58, 59, 60, 61, 62, 63, 64, 65, 66, 67, 68]
  | 7, 0 => [0, 8]
  | 7, 1 => [12]
  | 7, 2 => [13, 14]
  | 7, 3 => [10, 15, 16, 17, 18, 19, 20, 21, 22, 23, 24, 25, 26, 27, 28, 29, 30, 31, 32, 33, 34, 35, 36, 37, 38, 39, 40, 41, 42, 43, 44, 45, 46, 47, 48, 49, 50, 51, 52, 53, 54, 55]
  | 7, 4 => [1, 2, 3, 4, 9, 56, 57]
  | 7, 5 => [9, 56]
  | 7, 6 => [58, 59, 60, 61]
  | 7, 8 => [62, 65, 66, 67, 68, 69, 70, 71, 72, 73, 74, 75, 76]
  | 7, 9 => [1, 2, 3, 4, 11, 77]
  | 7, 7 => [63, 64, 77]
  | 7, 10 => [1, 2, 3, 4, 11, 62, 78, 79, 80, 81, 82, 83, 84, 85, 86, 87, 88, 89, 90, 91]
  | 8, 0 => [0, 2]
  | 8, 1 => [8]
  | 8, 2 => [9, 10]
  | 8, 3 => [4, 11, 12, 13, 14, 15]
  | 8, 4 => [1, 3, 16, 17]
  | 8, 5 => [3, 16]
  | 8, 8 => [18, 19, 20, 21]
  | 8, 10 => [22, 25, 26, 27, 28, 29, 30, 31, 32]
  | 8, 11 => [33, 34, 35, 36, 37, 38, 39]
  | 8, 12 => [40, 41, 42, 43, 44, 45, 46]
  | 8, 9 => [23, 24, 40]
  | 8, 13 => [1, 5, 6, 7, 22, 47, 48, 49, 50, 51, 52, 53, 54, 55, 56, 57, 58, 59, 60, 61, 62, 63, 64]
  | 9, 0 => [0, 2]
  | 9, 1 => [10]
  | 9, 2 => [11, 12]
  | 9, 3 => [4, 13, 14, 15, 16, 17, 18, 19, 20, 21, 22]
  | 9, 4 => [1, 3, 23, 24]
  | 9, 5 => [3, 23]
  | 9, 6 => [25, 26, 27, 28]
  | 9, 8 => [29, 32, 33, 34, 35, 36, 37]
  | 9, 9 => [1, 5, 38]
  | 9, 7 => [30, 31, 38]
  | 9, 10 => [5, 29, 39]
  | 9, 11 => [40, 41, 42, 43, 44, 45, 46]
  | 9, 12 => [47, 48, 49, 50, 51, 52, 53, 54, 55, 56, 57, 58, 59]
  | 9, 13 => [60]
  | 9, 14 => [61]
  | 9, 15 => [1, 62]
  | 9, 16 => [63]
  | 9, 17 => [6, 7, 8, 9, 64, 65, 66, 67, 68, 69, 70, 71, 72, 73, 74, 75, 76, 77, 78, 79, 80]
  | 10, 0 => [0, 2]
  | 10, 1 => [9]
  | 10, 2 => [10, 11]
  | 10, 3 => [4, 12, 13, 14, 15, 16]
  | 10, 4 => [1, 3, 17, 18]
  | 10, 5 => [3, 17, 19, 20, 21, 22, 23]
  | 10, 6 => [24, 25, 26, 27, 28]
  | 10, 8 => [29, 30, 31]
  | 10, 10 => [32, 35, 36, 37, 38, 39, 40, 41]
  | 10, 9 => [33, 34]
  | 10, 11 => [1, 5, 6, 7, 8, 32, 42, 43, 44, 45, 46, 47, 48, 49, 50, 51, 52, 53, 54, 55, 56]
  | 11, 0 => [0, 1, 4]
  | 11, 1 => [10]
  | 11, 2 => [11, 12]
  | 11, 3 => [13, 14]
  | 11, 4 => [6, 7, 15, 16, 17, 18, 19, 20, 21, 22, 23]
  | 11, 5 => [2, 3, 5, 24, 25]
  | 11, 6 => [5, 24, 26, 27, 28]
  | 11, 7 => [29, 30, 31, 32]
  | 11, 8 => [2, 3, 8, 9, 33, 34, 35, 36, 37, 38, 39, 40, 41, 42, 43, 44, 45, 46, 47, 48, 49, 50, 51, 52]
  | 12, 0 => [0, 2]
  | 12, 1 => [7]
  | 12, 2 => [8, 9]
  | 12, 3 => [4, 10, 11, 12, 13, 14, 15, 16, 17, 18, 19, 20]
  | 12, 4 => [1, 3, 21, 22]
  | 12, 5 => [3, 21, 23, 24, 25, 26, 27]
  | 12, 6 => [28, 29]
  | 12, 7 => [30, 31, 32, 33, 34, 35]
  | 12, 8 => [1, 5, 6, 36]
  | 12, 9 => [36, 37, 38, 39, 40, 41, 42, 43, 44, 45, 46]
  | 12, 10 => [1, 5, 6, 47, 48, 49, 50, 51, 52, 53, 54, 55, 56, 57, 58, 59, 60, 61, 62, 63, 64, 65, 66]
  | 13, 0 => [0, 1, 4]
  | 13, 1 => [15]
  | 13, 2 => [16, 17]
  | 13, 3 => [18, 19]
  | 13, 4 => [6, 7, 20, 21, 22, 23, 24, 25, 26, 27, 28]
  | 13, 5 => [2, 3, 5, 29, 30]
  | 13, 6 => [5, 29, 31, 32, 33, 34, 35]
  | 13, 7 => [36]
  | 13, 8 => [37, 38, 39]
  | 13, 9 => [40]
  | 13, 11 => [41, 44, 45, 46, 47, 48, 49, 50]
  | 13, 10 => [42, 43]
  | 13, 12 => [11, 41, 51, 52, 53, 54]
  | 13, 13 => [55, 56, 57, 58, 59]
  | 13, 14 => [2, 3, 8, 9, 10, 12, 13, 14, 60, 61, 62, 63, 64, 65, 66, 67, 68, 69, 70, 71, 72, 73, 74, 75, 76, 77, 78, 79, 80, 81, 82, 83, 84, 85, 86, 87, 88, 89, 90, 91, 92, 93, 94, 95, 96, 97, 98, 99, 100, 101]
  | 14, 0 => [0]
  | 14, 1 => [5]
  | 14, 2 => [1, 6, 7, 8, 9, 10, 11, 12]
  | 14, 3 => [13, 14, 15, 16, 17]
  | 14, 4 => [2, 3, 4, 18, 19, 20, 21, 22, 23, 24, 25, 26, 27, 28, 29, 30, 31, 32, 33, 34, 35, 36, 37, 38, 39, 40, 41, 42, 43, 44, 45, 46]
  | 15, 0 => [0, 6]
  | 15, 1 => [8, 9]
  | 15, 2 => [1, 2, 3, 7, 10, 11, 12, 13, 14, 15, 16, 17, 18, 19, 20, 21, 22]
  | 16, 0 => [2]
  | 16, 1 => [5, 6]
  | 16, 2 => [0, 7]
  | 16, 3 => [7]
  | 16, 4 => [8, 9, 10]
  | 16, 6 => [11, 14, 15, 16, 17, 18, 19]
  | 16, 7 => [4, 20]
  | 16, 8 => [0, 3, 21]
  | 16, 5 => [12, 13, 21]
  | 16, 9 => [0, 3, 11]
  | 17, 0 => [0]
  | 17, 2 => [8]
  | 17, 3 => [1, 9]
  | 17, 4 => [2, 3, 10, 11]
  | 17, 5 => [12]
  | 17, 6 => [4, 5, 6, 7, 13, 14, 15, 16, 17, 18]
  | 17, 7 => [4, 5, 10, 19, 20, 21]
  | 18, 0 => [0, 2]
  | 18, 2 => [5, 6, 7, 8, 9, 10, 11, 12]
  | 18, 3 => [13, 14, 15, 16, 17, 18, 19, 20]
  | 18, 4 => [21, 22, 23, 24]
  | 18, 5 => [1, 4, 13, 25, 26]
  | 19, 0 => [4]
  | 19, 1 => [7, 8, 9, 10]
  | 19, 2 => [0, 1, 11]
  | 19, 3 => [11]
  | 19, 4 => [12, 13, 14]
  | 19, 6 => [15, 18, 19, 20, 21, 22, 23, 24, 25, 26]
  | 19, 7 => [6, 27]
  | 19, 8 => [0, 1, 5, 28]
  | 19, 5 => [16, 17, 28]
  | 19, 9 => [0, 1, 5, 15]
  | 20, 0 => [0, 1, 4]
  | 20, 1 => [7, 8, 9, 10, 11, 12, 13, 14, 15, 16, 17, 18, 19, 20, 21, 22, 23, 24, 25, 26]
  | 20, 2 => [2, 3, 27]
  | 20, 3 => [27]
  | 20, 4 => [28, 29, 30, 31]
  | 20, 6 => [32, 35, 36, 37, 38, 39, 40, 41, 42, 43, 44, 45]
  | 20, 7 => [6, 46]
  | 20, 8 => [2, 3, 5, 47]
  | 20, 5 => [33, 34, 47]
  | 20, 9 => [2, 3, 5, 32]
  | 21, 0 => [0, 2]
  | 21, 1 => [1, 3, 5, 6, 7, 8, 9]
  | 21, 2 => [4, 10, 11, 12]
  | 22, 0 => [4]
  | 22, 2 => [0]
  | 22, 4 => [11, 12, 13, 14]
  | 22, 5 => [7, 15, 16, 17, 18, 19, 20, 21, 22]
  | 22, 6 => [6, 23, 24, 25, 26, 27]
  | 22, 7 => [6, 23, 28]
  | 22, 8 => [1, 5, 8, 9, 10, 11, 29]
  | 23, 0 => [4]
  | 23, 3 => [7, 8, 9]
  | 23, 5 => [10, 13, 14, 15, 16, 17, 18, 19, 20, 21, 22, 23]
  | 23, 6 => [24, 25, 26, 27, 28]
  | 23, 4 => [11, 12, 24]
  | 23, 7 => [0, 1, 5, 6, 10, 29]
  | 24, 0 => [0, 2]
  | 24, 1 => [1, 3, 4, 5, 6]
  | 25, 0 => [0, 2]
  | 25, 1 => [1, 4, 5]
  | 25, 2 => [6, 7]
  | 25, 3 => [3, 8, 9, 10]
  | 25, 4 => [3, 8]
  | 26, 0 => [0, 2]
  | 26, 1 => [1, 3, 5, 6, 7, 8, 9]
  | 26, 2 => [10, 11]
  | 26, 3 => [4, 12, 13, 14]
  | 26, 4 => [4, 12]
  | 27, 0 => [0]
  | 27, 1 => [2, 3, 4]
  | 27, 2 => [1, 5, 6, 7, 8, 9, 10, 11, 12, 13, 14, 15, 16, 17, 18, 19, 20, 21, 22, 23, 24, 25, 26, 27, 28]
  | 28, 0 => [0, 2]
  | 28, 1 => [4, 5]
  | 28, 2 => [1, 3, 6, 7, 8, 9, 10, 11, 12, 13, 14, 15, 16]
  | 29, 0 => [0, 6]
  | 29, 1 => [9, 10, 11, 12, 13, 14, 15, 16, 17, 18, 19, 20, 21, 22, 23, 24, 25, 26, 27]
  | 29, 2 => [1, 2, 3, 28]
  | 29, 3 => [28]
  | 29, 4 => [29, 30, 31, 32]
  | 29, 6 => [33, 36, 37, 38, 39, 40, 41, 42, 43, 44, 45, 46, 47]
  | 29, 7 => [8, 48]
  | 29, 8 => [1, 2, 3, 7, 49]
  | 29, 5 => [34, 35, 49]
  | 29, 9 => [1, 2, 3, 7, 33]
  | 30, 0 => [0]
  | 30, 2 => [1, 4]
  | 30, 3 => [2, 3, 5, 6, 7, 8, 9]
  | 30, 4 => [3, 5, 10]
  | 31, 0 => [0, 2]
  | 31, 3 => [5, 6, 7, 8]
  | 31, 5 => [9, 12, 13, 14, 15, 16, 17, 18, 19]
  | 31, 4 => [10, 11]
  | 31, 6 => [1, 3, 4, 9, 20]
  | 32, 0 => [0, 2]
  | 32, 2 => [1, 6]
  | 32, 4 => [10, 11, 12]
  | 32, 5 => [5, 13, 14, 15, 16]
  | 32, 6 => [17]
  | 32, 7 => [3, 7, 8, 9, 10, 18, 19]
  | 33, 0 => [0, 2]
  | 33, 3 => [6, 7, 8, 9]
  | 33, 5 => [10, 13, 14, 15, 16, 17, 18]
  | 33, 6 => [19, 20]
  | 33, 7 => [5, 21, 22]
  | 33, 4 => [5, 11, 12, 21]
  | 33, 8 => [1, 3, 4, 10, 23, 24]
  | 34, 0 => [0, 2]
  | 34, 1 => [1, 3, 4, 5, 6, 7, 8, 9, 10, 11, 12, 13, 14]
  | 35, 0 => [0, 1, 2, 6]
  | 35, 1 => [3, 4, 5, 7, 8, 9]
  | 36, 0 => [0, 4]
  | 36, 1 => [1, 2, 5, 6, 7, 8, 9, 10, 11, 12, 13, 14, 15, 16, 17, 18, 19]
  | 36, 2 => [20]
  | 36, 3 => [20]
  | 37, 0 => [0]
  | 37, 2 => [6]
  | 37, 4 => [10, 11, 12]
  | 37, 5 => [5, 13, 14, 15, 16, 17]
  | 37, 6 => [18]
  | 37, 7 => [1, 3, 7, 8, 9, 10, 19, 20, 21, 22, 23, 24]
  | 38, 0 => [0, 1, 4]
  | 38, 1 => [7, 8, 9, 10, 11, 12, 13, 14, 15, 16, 17, 18, 19, 20, 21, 22, 23, 24, 25, 26]
  | 38, 2 => [2, 3, 27]
  | 38, 3 => [2, 27, 28]
  | 38, 5 => [32, 33, 34, 35]
  | 38, 6 => [5, 6, 36, 37, 38, 39, 40, 41, 42]
  | 38, 7 => [3, 29, 30, 31, 43]
  | 38, 8 => [43, 44]
  | 38, 9 => [3, 29, 30, 31, 32]
  | 39, 0 => [0, 2]
  | 39, 1 => [5, 6]
  | 39, 2 => [1, 7]
  | 39, 3 => [7]
  | 39, 4 => [8, 9, 10, 11]
  | 39, 6 => [12, 15, 16, 17, 18, 19, 20]
  | 39, 7 => [4, 21]
  | 39, 8 => [1, 3, 22]
  | 39, 5 => [13, 14, 22]
  | 39, 9 => [1, 3, 12]
  | 40, 0 => [0, 2]
  | 40, 1 => [1, 3]
  | 41, 0 => [0]
  | 41, 1 => [5]
  | 41, 2 => [2, 6, 7, 8]
  | 41, 3 => [1, 4, 9]
  | 41, 4 => [1, 6, 10]
  | 42, 0 => [0, 2]
  | 42, 1 => [5]
  | 42, 3 => [8]
  | 42, 4 => [6, 7, 9, 10, 11, 12, 13, 14, 15, 16]
  | 42, 5 => [1, 17]
  | 42, 6 => [7, 19]
  | 42, 7 => [6, 18, 20, 21, 22, 23, 24, 25, 26, 27]
  | 42, 8 => [1, 28]
  | 42, 9 => [18, 30]
  | 42, 10 => [6, 29, 31, 32, 33, 34, 35, 36, 37, 38]
  | 42, 11 => [1, 39]
  | 42, 12 => [29, 41]
  | 42, 13 => [42]
  | 42, 14 => [43]
  | 42, 15 => [6, 44]
  | 42, 16 => [6, 40, 45, 46]
  | 42, 17 => [1, 47]
  | 42, 2 => [1, 6, 40]
  | 42, 18 => [17, 28, 39, 47]
  | 42, 19 => [48, 49, 50, 51]
  | 42, 21 => [52, 55, 56, 57, 58, 59, 60]
  | 42, 22 => [4, 61]
  | 42, 23 => [1, 3, 62]
  | 42, 20 => [53, 54, 62]
  | 42, 24 => [1, 3, 52]
  | 43, 0 => [0, 2]
  | 43, 1 => [1, 3]
  | 44, 0 => [0, 1]
  | 44, 1 => [2, 7]
  | 44, 2 => [8, 9]
  | 44, 3 => [10]
  | 44, 4 => [3, 5, 6, 11, 12, 13, 14]
  | 44, 5 => [15]
  | 44, 6 => [3, 8]
  | 45, 0 => [0, 1, 4]
  | 45, 1 => [3, 5, 6]
  | 46, 0 => [0, 2]
  | 46, 1 => [3]
  | 46, 2 => [6]
  | 46, 3 => [1, 4, 5, 7, 8, 9, 10, 11, 12, 13, 14, 15]
  | 46, 4 => [5, 17]
  | 46, 5 => [1, 4, 16, 18, 19, 20, 21, 22, 23, 24, 25, 26]
  | 46, 6 => [4, 16, 28]
  | 46, 7 => [1, 27, 29, 30, 31, 32, 33, 34, 35, 36, 37]
  | 46, 8 => [1, 27, 38, 39, 40, 41, 42, 43, 44, 45, 46, 47, 48, 49, 50]
  | 47, 0 => [1, 6]
  | 47, 1 => [0, 2, 3, 5, 7, 8, 9, 10, 11, 12, 13, 14, 15, 16, 17, 18, 19, 20, 21, 22, 23, 24, 25, 26, 27, 28]
  | 48, 0 => [3, 4, 5, 6, 7, 8, 9, 10]
  | 48, 1 => [11, 12, 13, 14, 15, 16, 17, 18, 19, 20, 21]
  | 48, 2 => [22, 23, 24, 25, 26]
  | 49, 0 => [0, 1, 3, 4, 5]
  | 50, 0 => [0, 6]
  | 50, 1 => [10, 11, 12, 13]
  | 50, 2 => [1, 2, 3, 14]
  | 50, 3 => [14, 15]
  | 50, 5 => [19, 20, 21, 22]
  | 50, 6 => [23]
  | 50, 7 => [7, 24, 25, 26, 27, 28, 29, 30, 31, 32]
  | 50, 8 => [33, 34, 35]
  | 50, 9 => [8, 9, 33, 36, 37, 38, 39]
  | 50, 10 => [1, 2, 3, 16, 17, 18, 40]
  | 50, 11 => [40, 41]
  | 50, 12 => [1, 2, 3, 16, 17, 18, 19]
  | 51, 0 => [0, 2]
  | 51, 1 => [1, 3, 4, 5, 6, 7, 8, 9, 10]
  | _, _ => []
def ordT : Nat → Nat → List Nat
  | 3, 18 => [0, 1, 2, 3, 4, 5, 6, 7, 8]
  | 3, 20 => [0, 1, 2, 3, 4, 5, 7, 6, 8, 9, 10, 11, 12, 13, 14, 15, 16, 17]
  | 5, 7 => [0, 1, 2, 3, 4, 5, 6, 7]
  | 5, 16 => [0, 1, 2, 3, 4, 5, 6, 7, 8]
  | 6, 7 => [0, 2, 1, 3, 4, 5, 6, 7, 8, 9, 10, 11, 12, 13, 14, 15, 16, 17, 18, 19, 20, 21, 22, 23, 24, 25, 26, 27, 28, 29, 30]
  | 7, 8 => [0, 1, 2, 3, 4, 5, 6, 7, 10, 8, 9, 11, 12]
  | 8, 13 => [0, 2, 1, 3, 4, 5, 6, 7, 8, 9, 10, 11, 12, 13, 14, 15, 16, 17, 18]
  | 11, 7 => [0, 2, 1, 3, 4]
  | 12, 9 => [0, 1, 2, 3, 4, 5, 6, 7, 8, 9, 10]
  | 12, 10 => [0, 1, 2, 3, 4, 5, 6, 7, 8, 9, 10, 11, 12, 13, 14, 15, 16, 17, 18, 19, 20]
  | 13, 11 => [0, 1, 2, 3, 4, 5, 6, 7]
  | 13, 14 => [0, 1, 2, 3, 4, 5, 6, 7, 8, 9, 10, 11, 12, 13, 14, 15, 16, 17, 18, 19, 20, 21, 22, 23, 24, 25, 26, 27, 28, 29, 30, 31, 32, 33, 34, 35, 36, 37, 38, 39, 40, 41, 42]
  | 17, 6 => [0, 1, 5, 2, 3, 4, 6, 7]
  | 17, 7 => [0, 1, 2, 3, 4]
  | 18, 5 => [0, 1, 2, 3]
  | 19, 6 => [0, 1, 2, 3, 4, 5, 6, 7, 8, 9]
  | 20, 6 => [0, 1, 2, 3, 4, 5, 6, 7, 8, 9, 10, 11]
  | 29, 6 => [0, 1, 2, 3, 4, 5, 6, 7, 10, 8, 9, 11, 12]
  | 38, 6 => [0, 1, 2, 3, 4, 5, 6, 7]
  | 48, 1 => [0, 1, 2, 3, 4, 5, 6, 7, 8, 9, 10]
  | _, _ => []
def roT : Nat → Nat → Bool
  | 3, 18 => true
  | 3, 20 => true
  | 5, 16 => true
  | 6, 7 => true
  | 7, 8 => true
  | 8, 13 => true
  | 11, 7 => true
  | 12, 10 => true
  | 13, 14 => true
  | 19, 6 => true
  | 20, 6 => true
  | 29, 6 => true
  | 38, 6 => true
  | _, _ => false
noncomputable def C : Cfg := { P := Try.prog, esc := escT, thr := [40, 43], clr := clrT', ord := ordT, ro := roT, ext := fun _ => none }
theorem C_P : C.P = Try.prog := rfl
theorem C_thr : C.thr = [40, 43] := rfl
theorem res_3 : Try.f3.results.toList = [.tmp 6] := rfl
theorem esc_3 : C.esc 3 = [] := rfl
theorem clr_3_0 : C.clr 3 0 = [0, 6] := rfl
theorem clr_3_1 : C.clr 3 1 = [20] := rfl
theorem clr_3_2 : C.clr 3 2 = [21, 22] := rfl
theorem clr_3_3 : C.clr 3 3 = [23, 24] := rfl
theorem clr_3_4 : C.clr 3 4 = [8, 9, 25, 26, 27, 28, 29, 30, 31, 32, 33] := rfl
theorem clr_3_5 : C.clr 3 5 = [1, 2, 3, 7, 34, 35] := rfl
theorem clr_3_6 : C.clr 3 6 = [7, 34, 36, 37, 38, 39, 40] := rfl
theorem clr_3_7 : C.clr 3 7 = [41, 42, 43, 44, 45] := rfl
theorem clr_3_8 : C.clr 3 8 = [10, 12, 46, 47, 48] := rfl
theorem clr_3_9 : C.clr 3 9 = [11, 13, 49, 50, 51] := rfl
theorem clr_3_10 : C.clr 3 10 = [52, 53] := rfl
theorem clr_3_11 : C.clr 3 11 = [54, 55, 56] := rfl
theorem clr_3_12 : C.clr 3 12 = [1, 2, 57, 58, 59] := rfl
theorem clr_3_13 : C.clr 3 13 = [60, 61, 62, 63] := rfl
theorem clr_3_14 : C.clr 3 14 = [3, 14, 15, 16, 17, 18, 64] := rfl
theorem clr_3_15 : C.clr 3 15 = [64] := rfl
theorem clr_3_16 : C.clr 3 16 = [65, 66, 67] := rfl
theorem clr_3_18 : C.clr 3 18 = [68, 71, 72, 73, 74, 75, 76, 77, 78] := rfl
theorem ord_3_18 : C.ord 3 18 = [0, 1, 2, 3, 4, 5, 6, 7, 8] := rfl
theorem ro_3_18 : C.ro 3 18 = true := rfl
theorem clr_3_19 : C.clr 3 19 = [3, 14, 15, 16, 17, 18, 19, 79] := rfl
theorem clr_3_17 : C.clr 3 17 = [69, 70, 79] := rfl
theorem clr_3_20 : C.clr 3 20 = [3, 14, 15, 16, 17, 18, 19, 68, 80, 81, 82, 83, 84, 85, 86, 87, 88, 89, 90, 91, 92, 93, 94, 95, 96] := rfl
theorem ord_3_20 : C.ord 3 20 = [0, 1, 2, 3, 4, 5, 7, 6, 8, 9, 10, 11, 12, 13, 14, 15, 16, 17] := rfl
theorem ro_3_20 : C.ro 3 20 = true := rfl
theorem res_4 : Try.f4.results.toList = [.tmp 4] := rfl
theorem esc_4 : C.esc 4 = [] := rfl
theorem clr_4_0 : C.clr 4 0 = [4] := rfl
theorem clr_4_1 : C.clr 4 1 = [14] := rfl
theorem clr_4_2 : C.clr 4 2 = [15, 16] := rfl
theorem clr_4_3 : C.clr 4 3 = [6, 17, 18, 19, 20, 21] := rfl
theorem clr_4_4 : C.clr 4 4 = [0, 1, 5, 22, 23] := rfl
theorem clr_4_5 : C.clr 4 5 = [5, 22] := rfl
theorem clr_4_6 : C.clr 4 6 = [24, 25, 26] := rfl
theorem clr_4_8 : C.clr 4 8 = [27, 30, 31, 32, 33, 34, 35] := rfl
theorem clr_4_9 : C.clr 4 9 = [] := rfl
theorem clr_4_10 : C.clr 4 10 = [36, 37, 38] := rfl
theorem clr_4_11 : C.clr 4 11 = [] := rfl
theorem clr_4_12 : C.clr 4 12 = [39, 40, 41] := rfl
theorem clr_4_14 : C.clr 4 14 = [42, 45, 46, 47, 48, 49, 50, 51, 52, 53] := rfl
theorem clr_4_13 : C.clr 4 13 = [43, 44] := rfl
theorem clr_4_15 : C.clr 4 15 = [10, 11, 42, 54, 55, 56] := rfl
theorem clr_4_16 : C.clr 4 16 = [] := rfl
theorem clr_4_17 : C.clr 4 17 = [57, 58, 59] := rfl
theorem clr_4_19 : C.clr 4 19 = [60, 63, 64, 65, 66, 67, 68, 69, 70, 71, 72] := rfl
theorem clr_4_20 : C.clr 4 20 = [0, 1, 7, 8, 9, 12, 13, 73] := rfl
theorem clr_4_18 : C.clr 4 18 = [61, 62, 73] := rfl
theorem clr_4_21 : C.clr 4 21 = [8, 9, 12, 13, 60, 74, 75, 76, 77, 78, 79, 80, 81, 82, 83, 84, 85, 86, 87, 88] := rfl
theorem clr_4_22 : C.clr 4 22 = [0, 1, 7, 89] := rfl
theorem clr_4_7 : C.clr 4 7 = [28, 29, 89] := rfl
theorem clr_4_23 : C.clr 4 23 = [0, 1, 7, 27] := rfl
theorem res_5 : Try.f5.results.toList = [.tmp 6] := rfl
theorem esc_5 : C.esc 5 = [] := rfl
theorem clr_5_0 : C.clr 5 0 = [1, 6] := rfl
theorem clr_5_1 : C.clr 5 1 = [14] := rfl
theorem clr_5_2 : C.clr 5 2 = [15, 16] := rfl
theorem clr_5_3 : C.clr 5 3 = [17, 18, 19] := rfl
theorem clr_5_4 : C.clr 5 4 = [8, 9, 20, 21, 22, 23, 24, 25, 26, 27, 28] := rfl
theorem clr_5_5 : C.clr 5 5 = [0, 2, 4, 7, 29, 30] := rfl
theorem clr_5_6 : C.clr 5 6 = [7, 29, 31, 32, 33] := rfl
theorem clr_5_7 : C.clr 5 7 = [34, 35, 36, 37, 38, 39, 40] := rfl
theorem ord_5_7 : C.ord 5 7 = [0, 1, 2, 3, 4, 5, 6, 7] := rfl
theorem ro_5_7 : C.ro 5 7 = false := rfl
theorem clr_5_8 : C.clr 5 8 = [] := rfl
theorem clr_5_9 : C.clr 5 9 = [2, 4, 41, 42, 43, 44, 45, 46, 47, 48] := rfl
theorem clr_5_10 : C.clr 5 10 = [49] := rfl
theorem clr_5_11 : C.clr 5 11 = [49, 50, 51, 52, 53, 54, 55] := rfl
theorem clr_5_12 : C.clr 5 12 = [0, 10, 11, 12, 56] := rfl
theorem clr_5_13 : C.clr 5 13 = [56] := rfl
theorem clr_5_14 : C.clr 5 14 = [57, 58, 59] := rfl
theorem clr_5_16 : C.clr 5 16 = [60, 63, 64, 65, 66, 67, 68, 69, 70] := rfl
theorem ord_5_16 : C.ord 5 16 = [0, 1, 2, 3, 4, 5, 6, 7, 8] := rfl
theorem ro_5_16 : C.ro 5 16 = true := rfl
theorem clr_5_17 : C.clr 5 17 = [0, 10, 11, 12, 13, 71] := rfl
theorem clr_5_15 : C.clr 5 15 = [61, 62, 71] := rfl
theorem clr_5_18 : C.clr 5 18 = [0, 10, 11, 12, 13, 60, 72, 73, 74, 75, 76, 77, 78, 79, 80, 81, 82, 83] := rfl
theorem res_6 : Try.f6.results.toList = [.tmp 6] := rfl
theorem esc_6 : C.esc 6 = [] := rfl
theorem clr_6_0 : C.clr 6 0 = [0, 6] := rfl
theorem clr_6_1 : C.clr 6 1 = [11] := rfl
theorem clr_6_2 : C.clr 6 2 = [12, 13] := rfl
theorem clr_6_3 : C.clr 6 3 = [8, 14, 15, 16, 17, 18, 19, 20, 21, 22, 23, 24, 25, 26, 27, 28, 29, 30] := rfl
theorem clr_6_4 : C.clr 6 4 = [1, 2, 3, 7, 31, 32] := rfl
theorem clr_6_5 : C.clr 6 5 = [7, 31, 33, 34] := rfl
theorem clr_6_6 : C.clr 6 6 = [35, 36, 37, 38] := rfl
theorem clr_6_7 : C.clr 6 7 = [1, 2, 3, 9, 10, 39, 40, 41, 42, 43, 44, 45, 46, 47, 48, 49, 50, 51, 52, 53, 54, 55, 56, 57, 58, 59, 60, 61, 62, 63, 64, 65, 66, 67, 68] := rfl
theorem ord_6_7 : C.ord 6 7 = [0, 2, 1, 3, 4, 5, 6, 7, 8, 9, 10, 11, 12, 13, 14, 15, 16, 17, 18, 19, 20, 21, 22, 23, 24, 25, 26, 27, 28, 29, 30] := rfl
theorem ro_6_7 : C.ro 6 7 = true := rfl
theorem res_7 : Try.f7.results.toList = [.tmp 8] := rfl
theorem esc_7 : C.esc 7 = [] := rfl
theorem clr_7_0 : C.clr 7 0 = [0, 8] := rfl
theorem clr_7_1 : C.clr 7 1 = [12] := rfl
theorem clr_7_2 : C.clr 7 2 = [13, 14] := rfl
theorem clr_7_3 : C.clr 7 3 = [10, 15, 16, 17, 18, 19, 20, 21, 22, 23, 24, 25, 26, 27, 28, 29, 30, 31, 32, 33, 34, 35, 36, 37, 38, 39, 40, 41, 42, 43, 44, 45, 46, 47, 48, 49, 50, 51, 52, 53, 54, 55] := rfl
theorem clr_7_4 : C.clr 7 4 = [1, 2, 3, 4, 9, 56, 57] := rfl
theorem clr_7_5 : C.clr 7 5 = [9, 56] := rfl
theorem clr_7_6 : C.clr 7 6 = [58, 59, 60, 61] := rfl
theorem clr_7_8 : C.clr 7 8 = [62, 65, 66, 67, 68, 69, 70, 71, 72, 73, 74, 75, 76] := rfl
theorem ord_7_8 : C.ord 7 8 = [0, 1, 2, 3, 4, 5, 6, 7, 10, 8, 9, 11, 12] := rfl
theorem ro_7_8 : C.ro 7 8 = true := rfl
theorem clr_7_9 : C.clr 7 9 = [1, 2, 3, 4, 11, 77] := rfl
theorem clr_7_7 : C.clr 7 7 = [63, 64, 77] := rfl
theorem clr_7_10 : C.clr 7 10 = [1, 2, 3, 4, 11, 62, 78, 79, 80, 81, 82, 83, 84, 85, 86, 87, 88, 89, 90, 91] := rfl
theorem res_8 : Try.f8.results.toList = [.tmp 2] := rfl
theorem esc_8 : C.esc 8 = [] := rfl
theorem clr_8_0 : C.clr 8 0 = [0, 2] := rfl
theorem clr_8_1 : C.clr 8 1 = [8] := rfl
theorem clr_8_2 : C.clr 8 2 = [9, 10] := rfl
theorem clr_8_3 : C.clr 8 3 = [4, 11, 12, 13, 14, 15] := rfl
theorem clr_8_4 : C.clr 8 4 = [1, 3, 16, 17] := rfl
theorem clr_8_5 : C.clr 8 5 = [3, 16] := rfl
theorem clr_8_6 : C.clr 8 6 = [] := rfl
theorem clr_8_7 : C.clr 8 7 = [] := rfl
theorem clr_8_8 : C.clr 8 8 = [18, 19, 20, 21] := rfl
theorem clr_8_10 : C.clr 8 10 = [22, 25, 26, 27, 28, 29, 30, 31, 32] := rfl
theorem clr_8_11 : C.clr 8 11 = [33, 34, 35, 36, 37, 38, 39] := rfl
theorem clr_8_12 : C.clr 8 12 = [40, 41, 42, 43, 44, 45, 46] := rfl
theorem clr_8_9 : C.clr 8 9 = [23, 24, 40] := rfl
theorem clr_8_13 : C.clr 8 13 = [1, 5, 6, 7, 22, 47, 48, 49, 50, 51, 52, 53, 54, 55, 56, 57, 58, 59, 60, 61, 62, 63, 64] := rfl
theorem ord_8_13 : C.ord 8 13 = [0, 2, 1, 3, 4, 5, 6, 7, 8, 9, 10, 11, 12, 13, 14, 15, 16, 17, 18] := rfl
theorem ro_8_13 : C.ro 8 13 = true := rfl
theorem res_9 : Try.f9.results.toList = [.tmp 2] := rfl
theorem esc_9 : C.esc 9 = [] := rfl
theorem clr_9_0 : C.clr 9 0 = [0, 2] := rfl
theorem clr_9_1 : C.clr 9 1 = [10] := rfl
theorem clr_9_2 : C.clr 9 2 = [11, 12] := rfl
theorem clr_9_3 : C.clr 9 3 = [4, 13, 14, 15, 16, 17, 18, 19, 20, 21, 22] := rfl
theorem clr_9_4 : C.clr 9 4 = [1, 3, 23, 24] := rfl
theorem clr_9_5 : C.clr 9 5 = [3, 23] := rfl
theorem clr_9_6 : C.clr 9 6 = [25, 26, 27, 28] := rfl
theorem clr_9_8 : C.clr 9 8 = [29, 32, 33, 34, 35, 36, 37] := rfl
theorem clr_9_9 : C.clr 9 9 = [1, 5, 38] := rfl
theorem clr_9_7 : C.clr 9 7 = [30, 31, 38] := rfl
theorem clr_9_10 : C.clr 9 10 = [5, 29, 39] := rfl
theorem clr_9_11 : C.clr 9 11 = [40, 41, 42, 43, 44, 45, 46] := rfl
theorem clr_9_12 : C.clr 9 12 = [47, 48, 49, 50, 51, 52, 53, 54, 55, 56, 57, 58, 59] := rfl
theorem clr_9_13 : C.clr 9 13 = [60] := rfl
theorem clr_9_14 : C.clr 9 14 = [61] := rfl
theorem clr_9_15 : C.clr 9 15 = [1, 62] := rfl
theorem clr_9_16 : C.clr 9 16 = [63] := rfl
theorem clr_9_17 : C.clr 9 17 = [6, 7, 8, 9, 64, 65, 66, 67, 68, 69, 70, 71, 72, 73, 74, 75, 76, 77, 78, 79, 80] := rfl
theorem res_10 : Try.f10.results.toList = [.tmp 2] := rfl
theorem esc_10 : C.esc 10 = [] := rfl
theorem clr_10_0 : C.clr 10 0 = [0, 2] := rfl
theorem clr_10_1 : C.clr 10 1 = [9] := rfl
theorem clr_10_2 : C.clr 10 2 = [10, 11] := rfl
theorem clr_10_3 : C.clr 10 3 = [4, 12, 13, 14, 15, 16] := rfl
theorem clr_10_4 : C.clr 10 4 = [1, 3, 17, 18] := rfl
theorem clr_10_5 : C.clr 10 5 = [3, 17, 19, 20, 21, 22, 23] := rfl
theorem clr_10_6 : C.clr 10 6 = [24, 25, 26, 27, 28] := rfl
theorem clr_10_7 : C.clr 10 7 = [] := rfl
theorem clr_10_8 : C.clr 10 8 = [29, 30, 31] := rfl
theorem clr_10_10 : C.clr 10 10 = [32, 35, 36, 37, 38, 39, 40, 41] := rfl
theorem clr_10_9 : C.clr 10 9 = [33, 34] := rfl
theorem clr_10_11 : C.clr 10 11 = [1, 5, 6, 7, 8, 32, 42, 43, 44, 45, 46, 47, 48, 49, 50, 51, 52, 53, 54, 55, 56] := rfl
theorem res_11 : Try.f11.results.toList = [.tmp 4] := rfl
theorem esc_11 : C.esc 11 = [] := rfl
theorem clr_11_0 : C.clr 11 0 = [0, 1, 4] := rfl
theorem clr_11_1 : C.clr 11 1 = [10] := rfl
theorem clr_11_2 : C.clr 11 2 = [11, 12] := rfl
theorem clr_11_3 : C.clr 11 3 = [13, 14] := rfl
theorem clr_11_4 : C.clr 11 4 = [6, 7, 15, 16, 17, 18, 19, 20, 21, 22, 23] := rfl
theorem clr_11_5 : C.clr 11 5 = [2, 3, 5, 24, 25] := rfl
theorem clr_11_6 : C.clr 11 6 = [5, 24, 26, 27, 28] := rfl
theorem clr_11_7 : C.clr 11 7 = [29, 30, 31, 32] := rfl
theorem ord_11_7 : C.ord 11 7 = [0, 2, 1, 3, 4] := rfl
theorem ro_11_7 : C.ro 11 7 = true := rfl
theorem clr_11_8 : C.clr 11 8 = [2, 3, 8, 9, 33, 34, 35, 36, 37, 38, 39, 40, 41, 42, 43, 44, 45, 46, 47, 48, 49, 50, 51, 52] := rfl
theorem res_12 : Try.f12.results.toList = [.tmp 2] := rfl
theorem esc_12 : C.esc 12 = [] := rfl
theorem clr_12_0 : C.clr 12 0 = [0, 2] := rfl
theorem clr_12_1 : C.clr 12 1 = [7] := rfl
theorem clr_12_2 : C.clr 12 2 = [8, 9] := rfl
theorem clr_12_3 : C.clr 12 3 = [4, 10, 11, 12, 13, 14, 15, 16, 17, 18, 19, 20] := rfl
theorem clr_12_4 : C.clr 12 4 = [1, 3, 21, 22] := rfl
theorem clr_12_5 : C.clr 12 5 = [3, 21, 23, 24, 25, 26, 27] := rfl
theorem clr_12_6 : C.clr 12 6 = [28, 29] := rfl
theorem clr_12_7 : C.clr 12 7 = [30, 31, 32, 33, 34, 35] := rfl
theorem clr_12_8 : C.clr 12 8 = [1, 5, 6, 36] := rfl
theorem clr_12_9 : C.clr 12 9 = [36, 37, 38, 39, 40, 41, 42, 43, 44, 45, 46] := rfl
theorem ord_12_9 : C.ord 12 9 = [0, 1, 2, 3, 4, 5, 6, 7, 8, 9, 10] := rfl
theorem ro_12_9 : C.ro 12 9 = false := rfl
theorem clr_12_10 : C.clr 12 10 = [1, 5, 6, 47, 48, 49, 50, 51, 52, 53, 54, 55, 56, 57, 58, 59, 60, 61, 62, 63, 64, 65, 66] := rfl
theorem ord_12_10 : C.ord 12 10 = [0, 1, 2, 3, 4, 5, 6, 7, 8, 9, 10, 11, 12, 13, 14, 15, 16, 17, 18, 19, 20] := rfl
theorem ro_12_10 : C.ro 12 10 = true := rfl
theorem res_13 : Try.f13.results.toList = [.tmp 4] := rfl
theorem esc_13 : C.esc 13 = [] := rfl
theorem clr_13_0 : C.clr 13 0 = [0, 1, 4] := rfl
theorem clr_13_1 : C.clr 13 1 = [15] := rfl
theorem clr_13_2 : C.clr 13 2 = [16, 17] := rfl
theorem clr_13_3 : C.clr 13 3 = [18, 19] := rfl
theorem clr_13_4 : C.clr 13 4 = [6, 7, 20, 21, 22, 23, 24, 25, 26, 27, 28] := rfl
theorem clr_13_5 : C.clr 13 5 = [2, 3, 5, 29, 30] := rfl
theorem clr_13_6 : C.clr 13 6 = [5, 29, 31, 32, 33, 34, 35] := rfl
theorem clr_13_7 : C.clr 13 7 = [36] := rfl
theorem clr_13_8 : C.clr 13 8 = [37, 38, 39] := rfl
theorem clr_13_9 : C.clr 13 9 = [40] := rfl
theorem clr_13_11 : C.clr 13 11 = [41, 44, 45, 46, 47, 48, 49, 50] := rfl
theorem ord_13_11 : C.ord 13 11 = [0, 1, 2, 3, 4, 5, 6, 7] := rfl
theorem ro_13_11 : C.ro 13 11 = false := rfl
theorem clr_13_10 : C.clr 13 10 = [42, 43] := rfl
theorem clr_13_12 : C.clr 13 12 = [11, 41, 51, 52, 53, 54] := rfl
theorem clr_13_13 : C.clr 13 13 = [55, 56, 57, 58, 59] := rfl
theorem clr_13_14 : C.clr 13 14 = [2, 3, 8, 9, 10, 12, 13, 14, 60, 61, 62, 63, 64, 65, 66, 67, 68, 69, 70, 71, 72, 73, 74, 75, 76, 77, 78, 79, 80, 81, 82, 83, 84, 85, 86, 87, 88, 89, 90, 91, 92, 93, 94, 95, 96, 97, 98, 99, 100, 101] := rfl
theorem ord_13_14 : C.ord 13 14 = [0, 1, 2, 3, 4, 5, 6, 7, 8, 9, 10, 11, 12, 13, 14, 15, 16, 17, 18, 19, 20, 21, 22, 23, 24, 25, 26, 27, 28, 29, 30, 31, 32, 33, 34, 35, 36, 37, 38, 39, 40, 41, 42] := rfl
theorem ro_13_14 : C.ro 13 14 = true := rfl
theorem res_14 : Try.f14.results.toList = [.tmp 0] := rfl
theorem esc_14 : C.esc 14 = [] := rfl
theorem clr_14_0 : C.clr 14 0 = [0] := rfl
theorem clr_14_1 : C.clr 14 1 = [5] := rfl
theorem clr_14_2 : C.clr 14 2 = [1, 6, 7, 8, 9, 10, 11, 12] := rfl
theorem clr_14_3 : C.clr 14 3 = [13, 14, 15, 16, 17] := rfl
theorem clr_14_4 : C.clr 14 4 = [2, 3, 4, 18, 19, 20, 21, 22, 23, 24, 25, 26, 27, 28, 29, 30, 31, 32, 33, 34, 35, 36, 37, 38, 39, 40, 41, 42, 43, 44, 45, 46] := rfl
theorem res_15 : Try.f15.results.toList = [.tmp 6] := rfl
theorem esc_15 : C.esc 15 = [] := rfl
theorem clr_15_0 : C.clr 15 0 = [0, 6] := rfl
theorem clr_15_1 : C.clr 15 1 = [8, 9] := rfl
theorem clr_15_2 : C.clr 15 2 = [1, 2, 3, 7, 10, 11, 12, 13, 14, 15, 16, 17, 18, 19, 20, 21, 22] := rfl
theorem res_16 : Try.f16.results.toList = [.tmp 2] := rfl
theorem esc_16 : C.esc 16 = [] := rfl
theorem clr_16_0 : C.clr 16 0 = [2] := rfl
theorem clr_16_1 : C.clr 16 1 = [5, 6] := rfl
theorem clr_16_2 : C.clr 16 2 = [0, 7] := rfl
theorem clr_16_3 : C.clr 16 3 = [7] := rfl
theorem clr_16_4 : C.clr 16 4 = [8, 9, 10] := rfl
theorem clr_16_6 : C.clr 16 6 = [11, 14, 15, 16, 17, 18, 19] := rfl
theorem clr_16_7 : C.clr 16 7 = [4, 20] := rfl
theorem clr_16_8 : C.clr 16 8 = [0, 3, 21] := rfl
theorem clr_16_5 : C.clr 16 5 = [12, 13, 21] := rfl
theorem clr_16_9 : C.clr 16 9 = [0, 3, 11] := rfl
theorem res_17 : Try.f17.results.toList = [.tmp 2, .cell 3 24] := rfl
theorem esc_17 : C.esc 17 = [4, 5] := rfl
theorem clr_17_0 : C.clr 17 0 = [0] := rfl
theorem clr_17_1 : C.clr 17 1 = [] := rfl
theorem clr_17_2 : C.clr 17 2 = [8] := rfl
theorem clr_17_3 : C.clr 17 3 = [1, 9] := rfl
theorem clr_17_4 : C.clr 17 4 = [2, 3, 10, 11] := rfl
theorem clr_17_5 : C.clr 17 5 = [12] := rfl
theorem clr_17_6 : C.clr 17 6 = [4, 5, 6, 7, 13, 14, 15, 16, 17, 18] := rfl
theorem ord_17_6 : C.ord 17 6 = [0, 1, 5, 2, 3, 4, 6, 7] := rfl
theorem ro_17_6 : C.ro 17 6 = false := rfl
theorem clr_17_7 : C.clr 17 7 = [4, 5, 10, 19, 20, 21] := rfl
theorem ord_17_7 : C.ord 17 7 = [0, 1, 2, 3, 4] := rfl
theorem ro_17_7 : C.ro 17 7 = false := rfl
theorem res_18 : Try.f18.results.toList = [.tmp 2, .cell 3 24] := rfl
theorem esc_18 : C.esc 18 = [] := rfl
theorem clr_18_0 : C.clr 18 0 = [0, 2] := rfl
theorem clr_18_1 : C.clr 18 1 = [] := rfl
theorem clr_18_2 : C.clr 18 2 = [5, 6, 7, 8, 9, 10, 11, 12] := rfl
theorem clr_18_3 : C.clr 18 3 = [13, 14, 15, 16, 17, 18, 19, 20] := rfl
theorem clr_18_4 : C.clr 18 4 = [21, 22, 23, 24] := rfl
theorem clr_18_5 : C.clr 18 5 = [1, 4, 13, 25, 26] := rfl
theorem ord_18_5 : C.ord 18 5 = [0, 1, 2, 3] := rfl
theorem ro_18_5 : C.ro 18 5 = false := rfl
theorem res_19 : Try.f19.results.toList = [.tmp 4] := rfl
theorem esc_19 : C.esc 19 = [] := rfl
theorem clr_19_0 : C.clr 19 0 = [4] := rfl
theorem clr_19_1 : C.clr 19 1 = [7, 8, 9, 10] := rfl
theorem clr_19_2 : C.clr 19 2 = [0, 1, 11] := rfl
theorem clr_19_3 : C.clr 19 3 = [11] := rfl
theorem clr_19_4 : C.clr 19 4 = [12, 13, 14] := rfl
theorem clr_19_6 : C.clr 19 6 = [15, 18, 19, 20, 21, 22, 23, 24, 25, 26] := rfl
theorem ord_19_6 : C.ord 19 6 = [0, 1, 2, 3, 4, 5, 6, 7, 8, 9] := rfl
theorem ro_19_6 : C.ro 19 6 = true := rfl
theorem clr_19_7 : C.clr 19 7 = [6, 27] := rfl
theorem clr_19_8 : C.clr 19 8 = [0, 1, 5, 28] := rfl
theorem clr_19_5 : C.clr 19 5 = [16, 17, 28] := rfl
theorem clr_19_9 : C.clr 19 9 = [0, 1, 5, 15] := rfl
theorem res_20 : Try.f20.results.toList = [.tmp 4] := rfl
theorem esc_20 : C.esc 20 = [] := rfl
theorem clr_20_0 : C.clr 20 0 = [0, 1, 4] := rfl
theorem clr_20_1 : C.clr 20 1 = [7, 8, 9, 10, 11, 12, 13, 14, 15, 16, 17, 18, 19, 20, 21, 22, 23, 24, 25, 26] := rfl
theorem clr_20_2 : C.clr 20 2 = [2, 3, 27] := rfl
theorem clr_20_3 : C.clr 20 3 = [27] := rfl
theorem clr_20_4 : C.clr 20 4 = [28, 29, 30, 31] := rfl
theorem clr_20_6 : C.clr 20 6 = [32, 35, 36, 37, 38, 39, 40, 41, 42, 43, 44, 45] := rfl
theorem ord_20_6 : C.ord 20 6 = [0, 1, 2, 3, 4, 5, 6, 7, 8, 9, 10, 11] := rfl
theorem ro_20_6 : C.ro 20 6 = true := rfl
theorem clr_20_7 : C.clr 20 7 = [6, 46] := rfl
theorem clr_20_8 : C.clr 20 8 = [2, 3, 5, 47] := rfl
theorem clr_20_5 : C.clr 20 5 = [33, 34, 47] := rfl
theorem clr_20_9 : C.clr 20 9 = [2, 3, 5, 32] := rfl
theorem res_21 : Try.f21.results.toList = [.tmp 2] := rfl
theorem esc_21 : C.esc 21 = [] := rfl
theorem clr_21_0 : C.clr 21 0 = [0, 2] := rfl
theorem clr_21_1 : C.clr 21 1 = [1, 3, 5, 6, 7, 8, 9] := rfl
theorem clr_21_2 : C.clr 21 2 = [4, 10, 11, 12] := rfl
theorem res_22 : Try.f22.results.toList = [.tmp 4] := rfl
theorem esc_22 : C.esc 22 = [] := rfl
theorem clr_22_0 : C.clr 22 0 = [4] := rfl
theorem clr_22_1 : C.clr 22 1 = [] := rfl
theorem clr_22_2 : C.clr 22 2 = [0] := rfl
theorem clr_22_3 : C.clr 22 3 = [] := rfl
theorem clr_22_4 : C.clr 22 4 = [11, 12, 13, 14] := rfl
theorem clr_22_5 : C.clr 22 5 = [7, 15, 16, 17, 18, 19, 20, 21, 22] := rfl
theorem clr_22_6 : C.clr 22 6 = [6, 23, 24, 25, 26, 27] := rfl
theorem clr_22_7 : C.clr 22 7 = [6, 23, 28] := rfl
theorem clr_22_8 : C.clr 22 8 = [1, 5, 8, 9, 10, 11, 29] := rfl
theorem res_23 : Try.f23.results.toList = [.tmp 4] := rfl
theorem esc_23 : C.esc 23 = [] := rfl
theorem clr_23_0 : C.clr 23 0 = [4] := rfl
theorem clr_23_1 : C.clr 23 1 = [] := rfl
theorem clr_23_2 : C.clr 23 2 = [] := rfl
theorem clr_23_3 : C.clr 23 3 = [7, 8, 9] := rfl
theorem clr_23_5 : C.clr 23 5 = [10, 13, 14, 15, 16, 17, 18, 19, 20, 21, 22, 23] := rfl
theorem clr_23_6 : C.clr 23 6 = [24, 25, 26, 27, 28] := rfl
theorem clr_23_4 : C.clr 23 4 = [11, 12, 24] := rfl
theorem clr_23_7 : C.clr 23 7 = [0, 1, 5, 6, 10, 29] := rfl
theorem res_24 : Try.f24.results.toList = [.tmp 2] := rfl
theorem esc_24 : C.esc 24 = [] := rfl
theorem clr_24_0 : C.clr 24 0 = [0, 2] := rfl
theorem clr_24_1 : C.clr 24 1 = [1, 3, 4, 5, 6] := rfl
theorem res_25 : Try.f25.results.toList = [.tmp 2] := rfl
theorem esc_25 : C.esc 25 = [] := rfl
theorem clr_25_0 : C.clr 25 0 = [0, 2] := rfl
theorem clr_25_1 : C.clr 25 1 = [1, 4, 5] := rfl
theorem clr_25_2 : C.clr 25 2 = [6, 7] := rfl
theorem clr_25_3 : C.clr 25 3 = [3, 8, 9, 10] := rfl
theorem clr_25_4 : C.clr 25 4 = [3, 8] := rfl
theorem res_26 : Try.f26.results.toList = [.tmp 2] := rfl
theorem esc_26 : C.esc 26 = [] := rfl
theorem clr_26_0 : C.clr 26 0 = [0, 2] := rfl
theorem clr_26_1 : C.clr 26 1 = [1, 3, 5, 6, 7, 8, 9] := rfl
theorem clr_26_2 : C.clr 26 2 = [10, 11] := rfl
theorem clr_26_3 : C.clr 26 3 = [4, 12, 13, 14] := rfl
theorem clr_26_4 : C.clr 26 4 = [4, 12] := rfl
theorem res_27 : Try.f27.results.toList = [.tmp 0] := rfl
theorem esc_27 : C.esc 27 = [] := rfl
theorem clr_27_0 : C.clr 27 0 = [0] := rfl
theorem clr_27_1 : C.clr 27 1 = [2, 3, 4] := rfl
theorem clr_27_2 : C.clr 27 2 = [1, 5, 6, 7, 8, 9, 10, 11, 12, 13, 14, 15, 16, 17, 18, 19, 20, 21, 22, 23, 24, 25, 26, 27, 28] := rfl
theorem res_28 : Try.f28.results.toList = [.tmp 2] := rfl
theorem esc_28 : C.esc 28 = [] := rfl
theorem clr_28_0 : C.clr 28 0 = [0, 2] := rfl
theorem clr_28_1 : C.clr 28 1 = [4, 5] := rfl
theorem clr_28_2 : C.clr 28 2 = [1, 3, 6, 7, 8, 9, 10, 11, 12, 13, 14, 15, 16] := rfl
theorem res_29 : Try.f29.results.toList = [.tmp 6] := rfl
theorem esc_29 : C.esc 29 = [] := rfl
theorem clr_29_0 : C.clr 29 0 = [0, 6] := rfl
theorem clr_29_1 : C.clr 29 1 = [9, 10, 11, 12, 13, 14, 15, 16, 17, 18, 19, 20, 21, 22, 23, 24, 25, 26, 27] := rfl
theorem clr_29_2 : C.clr 29 2 = [1, 2, 3, 28] := rfl
theorem clr_29_3 : C.clr 29 3 = [28] := rfl
theorem clr_29_4 : C.clr 29 4 = [29, 30, 31, 32] := rfl
theorem clr_29_6 : C.clr 29 6 = [33, 36, 37, 38, 39, 40, 41, 42, 43, 44, 45, 46, 47] := rfl
theorem ord_29_6 : C.ord 29 6 = [0, 1, 2, 3, 4, 5, 6, 7, 10, 8, 9, 11, 12] := rfl
theorem ro_29_6 : C.ro 29 6 = true := rfl
theorem clr_29_7 : C.clr 29 7 = [8, 48] := rfl
theorem clr_29_8 : C.clr 29 8 = [1, 2, 3, 7, 49] := rfl
theorem clr_29_5 : C.clr 29 5 = [34, 35, 49] := rfl
theorem clr_29_9 : C.clr 29 9 = [1, 2, 3, 7, 33] := rfl
theorem res_30 : Try.f30.results.toList = [.tmp 2] := rfl
theorem esc_30 : C.esc 30 = [3] := rfl
theorem clr_30_0 : C.clr 30 0 = [0] := rfl
theorem clr_30_1 : C.clr 30 1 = [] := rfl
theorem clr_30_2 : C.clr 30 2 = [1, 4] := rfl
theorem clr_30_3 : C.clr 30 3 = [2, 3, 5, 6, 7, 8, 9] := rfl
theorem clr_30_4 : C.clr 30 4 = [3, 5, 10] := rfl
theorem res_31 : Try.f31.results.toList = [.tmp 2] := rfl
theorem esc_31 : C.esc 31 = [] := rfl
theorem clr_31_0 : C.clr 31 0 = [0, 2] := rfl
theorem clr_31_1 : C.clr 31 1 = [] := rfl
theorem clr_31_2 : C.clr 31 2 = [] := rfl
theorem clr_31_3 : C.clr 31 3 = [5, 6, 7, 8] := rfl
theorem clr_31_5 : C.clr 31 5 = [9, 12, 13, 14, 15, 16, 17, 18, 19] := rfl
theorem clr_31_4 : C.clr 31 4 = [10, 11] := rfl
theorem clr_31_6 : C.clr 31 6 = [1, 3, 4, 9, 20] := rfl
theorem res_32 : Try.f32.results.toList = [.tmp 2] := rfl
theorem esc_32 : C.esc 32 = [] := rfl
theorem clr_32_0 : C.clr 32 0 = [0, 2] := rfl
theorem clr_32_1 : C.clr 32 1 = [] := rfl
theorem clr_32_2 : C.clr 32 2 = [1, 6] := rfl
theorem clr_32_3 : C.clr 32 3 = [] := rfl
theorem clr_32_4 : C.clr 32 4 = [10, 11, 12] := rfl
theorem clr_32_5 : C.clr 32 5 = [5, 13, 14, 15, 16] := rfl
theorem clr_32_6 : C.clr 32 6 = [17] := rfl
theorem clr_32_7 : C.clr 32 7 = [3, 7, 8, 9, 10, 18, 19] := rfl
theorem res_33 : Try.f33.results.toList = [.tmp 2] := rfl
theorem esc_33 : C.esc 33 = [] := rfl
theorem clr_33_0 : C.clr 33 0 = [0, 2] := rfl
theorem clr_33_1 : C.clr 33 1 = [] := rfl
theorem clr_33_2 : C.clr 33 2 = [] := rfl
theorem clr_33_3 : C.clr 33 3 = [6, 7, 8, 9] := rfl
theorem clr_33_5 : C.clr 33 5 = [10, 13, 14, 15, 16, 17, 18] := rfl
theorem clr_33_6 : C.clr 33 6 = [19, 20] := rfl
theorem clr_33_7 : C.clr 33 7 = [5, 21, 22] := rfl
theorem clr_33_4 : C.clr 33 4 = [5, 11, 12, 21] := rfl
theorem clr_33_8 : C.clr 33 8 = [1, 3, 4, 10, 23, 24] := rfl
theorem res_34 : Try.f34.results.toList = [.tmp 2] := rfl
theorem esc_34 : C.esc 34 = [] := rfl
theorem clr_34_0 : C.clr 34 0 = [0, 2] := rfl
theorem clr_34_1 : C.clr 34 1 = [1, 3, 4, 5, 6, 7, 8, 9, 10, 11, 12, 13, 14] := rfl
theorem res_35 : Try.f35.results.toList = [.tmp 6] := rfl
theorem esc_35 : C.esc 35 = [4, 5] := rfl
theorem clr_35_0 : C.clr 35 0 = [0, 1, 2, 6] := rfl
theorem clr_35_1 : C.clr 35 1 = [3, 4, 5, 7, 8, 9] := rfl
theorem res_36 : Try.f36.results.toList = [.tmp 4] := rfl
theorem esc_36 : C.esc 36 = [] := rfl
theorem clr_36_0 : C.clr 36 0 = [0, 4] := rfl
theorem clr_36_1 : C.clr 36 1 = [1, 2, 5, 6, 7, 8, 9, 10, 11, 12, 13, 14, 15, 16, 17, 18, 19] := rfl
theorem clr_36_2 : C.clr 36 2 = [20] := rfl
theorem clr_36_3 : C.clr 36 3 = [20] := rfl
theorem res_37 : Try.f37.results.toList = [.cell 2 24] := rfl
theorem esc_37 : C.esc 37 = [] := rfl
theorem clr_37_0 : C.clr 37 0 = [0] := rfl
theorem clr_37_1 : C.clr 37 1 = [] := rfl
theorem clr_37_2 : C.clr 37 2 = [6] := rfl
theorem clr_37_3 : C.clr 37 3 = [] := rfl
theorem clr_37_4 : C.clr 37 4 = [10, 11, 12] := rfl
theorem clr_37_5 : C.clr 37 5 = [5, 13, 14, 15, 16, 17] := rfl
theorem clr_37_6 : C.clr 37 6 = [18] := rfl
theorem clr_37_7 : C.clr 37 7 = [1, 3, 7, 8, 9, 10, 19, 20, 21, 22, 23, 24] := rfl
theorem res_38 : Try.f38.results.toList = [.tmp 4] := rfl
theorem esc_38 : C.esc 38 = [] := rfl
theorem clr_38_0 : C.clr 38 0 = [0, 1, 4] := rfl
theorem clr_38_1 : C.clr 38 1 = [7, 8, 9, 10, 11, 12, 13, 14, 15, 16, 17, 18, 19, 20, 21, 22, 23, 24, 25, 26] := rfl
theorem clr_38_2 : C.clr 38 2 = [2, 3, 27] := rfl
theorem clr_38_3 : C.clr 38 3 = [2, 27, 28] := rfl
theorem clr_38_4 : C.clr 38 4 = [] := rfl
theorem clr_38_5 : C.clr 38 5 = [32, 33, 34, 35] := rfl
theorem clr_38_6 : C.clr 38 6 = [5, 6, 36, 37, 38, 39, 40, 41, 42] := rfl
theorem ord_38_6 : C.ord 38 6 = [0, 1, 2, 3, 4, 5, 6, 7] := rfl
theorem ro_38_6 : C.ro 38 6 = true := rfl
theorem clr_38_7 : C.clr 38 7 = [3, 29, 30, 31, 43] := rfl
theorem clr_38_8 : C.clr 38 8 = [43, 44] := rfl
theorem clr_38_9 : C.clr 38 9 = [3, 29, 30, 31, 32] := rfl
theorem res_39 : Try.f39.results.toList = [.tmp 2] := rfl
theorem esc_39 : C.esc 39 = [] := rfl
theorem clr_39_0 : C.clr 39 0 = [0, 2] := rfl
theorem clr_39_1 : C.clr 39 1 = [5, 6] := rfl
theorem clr_39_2 : C.clr 39 2 = [1, 7] := rfl
theorem clr_39_3 : C.clr 39 3 = [7] := rfl
theorem clr_39_4 : C.clr 39 4 = [8, 9, 10, 11] := rfl
theorem clr_39_6 : C.clr 39 6 = [12, 15, 16, 17, 18, 19, 20] := rfl
theorem clr_39_7 : C.clr 39 7 = [4, 21] := rfl
theorem clr_39_8 : C.clr 39 8 = [1, 3, 22] := rfl
theorem clr_39_5 : C.clr 39 5 = [13, 14, 22] := rfl
theorem clr_39_9 : C.clr 39 9 = [1, 3, 12] := rfl
theorem res_40 : Try.f40.results.toList = [.tmp 2] := rfl
theorem esc_40 : C.esc 40 = [1] := rfl
theorem clr_40_0 : C.clr 40 0 = [0, 2] := rfl
theorem clr_40_1 : C.clr 40 1 = [1, 3] := rfl
theorem res_41 : Try.f41.results.toList = [.cell 2 24] := rfl
theorem esc_41 : C.esc 41 = [1] := rfl
theorem clr_41_0 : C.clr 41 0 = [0] := rfl
theorem clr_41_1 : C.clr 41 1 = [5] := rfl
theorem clr_41_2 : C.clr 41 2 = [2, 6, 7, 8] := rfl
theorem clr_41_3 : C.clr 41 3 = [1, 4, 9] := rfl
theorem clr_41_4 : C.clr 41 4 = [1, 6, 10] := rfl
theorem res_42 : Try.f42.results.toList = [.tmp 2] := rfl
theorem esc_42 : C.esc 42 = [] := rfl
theorem clr_42_0 : C.clr 42 0 = [0, 2] := rfl
theorem clr_42_1 : C.clr 42 1 = [5] := rfl
theorem clr_42_3 : C.clr 42 3 = [8] := rfl
theorem clr_42_4 : C.clr 42 4 = [6, 7, 9, 10, 11, 12, 13, 14, 15, 16] := rfl
theorem clr_42_5 : C.clr 42 5 = [1, 17] := rfl
theorem clr_42_6 : C.clr 42 6 = [7, 19] := rfl
theorem clr_42_7 : C.clr 42 7 = [6, 18, 20, 21, 22, 23, 24, 25, 26, 27] := rfl
theorem clr_42_8 : C.clr 42 8 = [1, 28] := rfl
theorem clr_42_9 : C.clr 42 9 = [18, 30] := rfl
theorem clr_42_10 : C.clr 42 10 = [6, 29, 31, 32, 33, 34, 35, 36, 37, 38] := rfl
theorem clr_42_11 : C.clr 42 11 = [1, 39] := rfl
theorem clr_42_12 : C.clr 42 12 = [29, 41] := rfl
theorem clr_42_13 : C.clr 42 13 = [42] := rfl
theorem clr_42_14 : C.clr 42 14 = [43] := rfl
theorem clr_42_15 : C.clr 42 15 = [6, 44] := rfl
theorem clr_42_16 : C.clr 42 16 = [6, 40, 45, 46] := rfl
theorem clr_42_17 : C.clr 42 17 = [1, 47] := rfl
theorem clr_42_2 : C.clr 42 2 = [1, 6, 40] := rfl
theorem clr_42_18 : C.clr 42 18 = [17, 28, 39, 47] := rfl
theorem clr_42_19 : C.clr 42 19 = [48, 49, 50, 51] := rfl
theorem clr_42_21 : C.clr 42 21 = [52, 55, 56, 57, 58, 59, 60] := rfl
theorem clr_42_22 : C.clr 42 22 = [4, 61] := rfl
theorem clr_42_23 : C.clr 42 23 = [1, 3, 62] := rfl
theorem clr_42_20 : C.clr 42 20 = [53, 54, 62] := rfl
theorem clr_42_24 : C.clr 42 24 = [1, 3, 52] := rfl
theorem res_43 : Try.f43.results.toList = [.tmp 2] := rfl
theorem esc_43 : C.esc 43 = [1] := rfl
theorem clr_43_0 : C.clr 43 0 = [0, 2] := rfl
theorem clr_43_1 : C.clr 43 1 = [1, 3] := rfl
theorem res_44 : Try.f44.results.toList = [.cell 4 4] := rfl
theorem esc_44 : C.esc 44 = [3, 4] := rfl
theorem clr_44_0 : C.clr 44 0 = [0, 1] := rfl
theorem clr_44_1 : C.clr 44 1 = [2, 7] := rfl
theorem clr_44_2 : C.clr 44 2 = [8, 9] := rfl
theorem clr_44_3 : C.clr 44 3 = [10] := rfl
theorem clr_44_4 : C.clr 44 4 = [3, 5, 6, 11, 12, 13, 14] := rfl
theorem clr_44_5 : C.clr 44 5 = [15] := rfl
theorem clr_44_6 : C.clr 44 6 = [3, 8] := rfl
theorem res_45 : Try.f45.results.toList = [.tmp 4] := rfl
theorem esc_45 : C.esc 45 = [] := rfl
theorem clr_45_0 : C.clr 45 0 = [0, 1, 4] := rfl
theorem clr_45_1 : C.clr 45 1 = [3, 5, 6] := rfl
theorem res_46 : Try.f46.results.toList = [.tmp 2] := rfl
theorem esc_46 : C.esc 46 = [] := rfl
theorem clr_46_0 : C.clr 46 0 = [0, 2] := rfl
theorem clr_46_1 : C.clr 46 1 = [3] := rfl
theorem clr_46_2 : C.clr 46 2 = [6] := rfl
theorem clr_46_3 : C.clr 46 3 = [1, 4, 5, 7, 8, 9, 10, 11, 12, 13, 14, 15] := rfl
theorem clr_46_4 : C.clr 46 4 = [5, 17] := rfl
theorem clr_46_5 : C.clr 46 5 = [1, 4, 16, 18, 19, 20, 21, 22, 23, 24, 25, 26] := rfl
theorem clr_46_6 : C.clr 46 6 = [4, 16, 28] := rfl
theorem clr_46_7 : C.clr 46 7 = [1, 27, 29, 30, 31, 32, 33, 34, 35, 36, 37] := rfl
theorem clr_46_8 : C.clr 46 8 = [1, 27, 38, 39, 40, 41, 42, 43, 44, 45, 46, 47, 48, 49, 50] := rfl
theorem res_47 : Try.f47.results.toList = [.tmp 6] := rfl
theorem esc_47 : C.esc 47 = [] := rfl
theorem clr_47_0 : C.clr 47 0 = [1, 6] := rfl
theorem clr_47_1 : C.clr 47 1 = [0, 2, 3, 5, 7, 8, 9, 10, 11, 12, 13, 14, 15, 16, 17, 18, 19, 20, 21, 22, 23, 24, 25, 26, 27, 28] := rfl
theorem res_48 : Try.f48.results.toList = [] := rfl
theorem esc_48 : C.esc 48 = [] := rfl
theorem clr_48_0 : C.clr 48 0 = [3, 4, 5, 6, 7, 8, 9, 10] := rfl
theorem clr_48_1 : C.clr 48 1 = [11, 12, 13, 14, 15, 16, 17, 18, 19, 20, 21] := rfl
theorem ord_48_1 : C.ord 48 1 = [0, 1, 2, 3, 4, 5, 6, 7, 8, 9, 10] := rfl
theorem ro_48_1 : C.ro 48 1 = false := rfl
theorem clr_48_2 : C.clr 48 2 = [22, 23, 24, 25, 26] := rfl
theorem res_49 : Try.f49.results.toList = [] := rfl
theorem esc_49 : C.esc 49 = [] := rfl
theorem clr_49_0 : C.clr 49 0 = [0, 1, 3, 4, 5] := rfl
theorem res_50 : Try.f50.results.toList = [.tmp 6] := rfl
theorem esc_50 : C.esc 50 = [] := rfl
theorem clr_50_0 : C.clr 50 0 = [0, 6] := rfl
theorem clr_50_1 : C.clr 50 1 = [10, 11, 12, 13] := rfl
theorem clr_50_2 : C.clr 50 2 = [1, 2, 3, 14] := rfl
theorem clr_50_3 : C.clr 50 3 = [14, 15] := rfl
theorem clr_50_4 : C.clr 50 4 = [] := rfl
theorem clr_50_5 : C.clr 50 5 = [19, 20, 21, 22] := rfl
theorem clr_50_6 : C.clr 50 6 = [23] := rfl
theorem clr_50_7 : C.clr 50 7 = [7, 24, 25, 26, 27, 28, 29, 30, 31, 32] := rfl
theorem clr_50_8 : C.clr 50 8 = [33, 34, 35] := rfl
theorem clr_50_9 : C.clr 50 9 = [8, 9, 33, 36, 37, 38, 39] := rfl
theorem clr_50_10 : C.clr 50 10 = [1, 2, 3, 16, 17, 18, 40] := rfl
theorem clr_50_11 : C.clr 50 11 = [40, 41] := rfl
theorem clr_50_12 : C.clr 50 12 = [1, 2, 3, 16, 17, 18, 19] := rfl
theorem res_51 : Try.f51.results.toList = [.tmp 2] := rfl
theorem esc_51 : C.esc 51 = [] := rfl
theorem clr_51_0 : C.clr 51 0 = [0, 2] := rfl
theorem clr_51_1 : C.clr 51 1 = [1, 3, 4, 5, 6, 7, 8, 9, 10] := rfl
attribute [go_sem] tsz_1 tag_1 tcon_1 tstr_1 tbool_1 tslc_1 tarr_1 tby_1 tzr_1 tsz_2 tag_2 tcon_2 tstr_2 tbool_2 tslc_2 tarr_2 tby_2 tzr_2 tsz_3 tag_3 tcon_3 tstr_3 tbool_3 tslc_3 tarr_3 tby_3 tzr_3 tsz_4 tag_4 tcon_4 tstr_4 tbool_4 tslc_4 tarr_4 tby_4 tzr_4 tsz_5 tag_5 tcon_5 tstr_5
attribute [go_sem] tbool_5 tslc_5 tarr_5 tby_5 tzr_5 tsz_9 tag_9 tcon_9 tstr_9 tbool_9 tslc_9 tarr_9 tby_9 tzr_9 tsz_12 tag_12 tcon_12 tstr_12 tbool_12 tslc_12 tarr_12 tby_12 tzr_12 tsz_20 tag_20 tcon_20 tstr_20 tbool_20 tslc_20 tarr_20 tby_20 tzr_20 tsz_21 tag_21 tcon_21 tstr_21 tbool_21 tslc_21 tarr_21 tby_21
attribute [go_sem] tzr_21 tsz_22 tag_22 tcon_22 tstr_22 tbool_22 tslc_22 tarr_22 tby_22 tzr_22 tsz_23 tag_23 tcon_23 tstr_23 tbool_23 tslc_23 tarr_23 tby_23 tzr_23 tfld_23_0 place_23_0 tfld_23_1 place_23_1 tfld_23_2 place_23_2 tbld_23 tsz_24 tag_24 tcon_24 tstr_24 tbool_24 tslc_24 tarr_24 tby_24 tzr_24 tfld_24_0 place_24_0 tfld_24_1 place_24_1 tfld_24_2
attribute [go_sem] place_24_2 tbld_24 tsz_25 tag_25 tcon_25 tstr_25 tbool_25 tslc_25 tarr_25 tby_25 tzr_25 tsz_26 tag_26 tcon_26 tstr_26 tbool_26 tslc_26 tarr_26 tby_26 tzr_26 tsz_27 tag_27 tcon_27 tstr_27 tbool_27 tslc_27 tarr_27 tby_27 tzr_27 tsz_28 tag_28 tcon_28 tstr_28 tbool_28 tslc_28 tarr_28 tby_28 tzr_28 tsz_30 tag_30
attribute [go_sem] tcon_30 tstr_30 tbool_30 tslc_30 tarr_30 tby_30 tzr_30 tsz_31 tag_31 tcon_31 tstr_31 tbool_31 tslc_31 tarr_31 tby_31 tzr_31 tsz_32 tag_32 tcon_32 tstr_32 tbool_32 tslc_32 tarr_32 tby_32 tzr_32 tsz_33 tag_33 tcon_33 tstr_33 tbool_33 tslc_33 tarr_33 tby_33 tzr_33 tsz_34 tag_34 tcon_34 tstr_34 tbool_34 tslc_34
attribute [go_sem] tarr_34 tby_34 tzr_34 tsz_35 tag_35 tcon_35 tstr_35 tbool_35 tslc_35 tarr_35 tby_35 tzr_35 tsz_36 tag_36 tcon_36 tstr_36 tbool_36 tslc_36 tarr_36 tby_36 tzr_36 tsz_37 tag_37 tcon_37 tstr_37 tbool_37 tslc_37 tarr_37 tby_37 tzr_37 tsz_38 tag_38 tcon_38 tstr_38 tbool_38 tslc_38 tarr_38 tby_38 tzr_38 tfld_38_0
attribute [go_sem] place_38_0 tfld_38_1 place_38_1 tbld_38 tsz_39 tag_39 tcon_39 tstr_39 tbool_39 tslc_39 tarr_39 tby_39 tzr_39 tfld_39_0 place_39_0 tfld_39_1 place_39_1 tbld_39 tsz_40 tag_40 tcon_40 tstr_40 tbool_40 tslc_40 tarr_40 tby_40 tzr_40 tsz_41 tag_41 tcon_41 tstr_41 tbool_41 tslc_41 tarr_41 tby_41 tzr_41 tsz_42 tag_42 tcon_42 tstr_42
attribute [go_sem] tbool_42 tslc_42 tarr_42 tby_42 tzr_42 tsz_43 tag_43 tcon_43 tstr_43 tbool_43 tslc_43 tarr_43 tby_43 tzr_43 tsz_44 tag_44 tcon_44 tstr_44 tbool_44 tslc_44 tarr_44 tby_44 tzr_44 tsz_45 tag_45 tcon_45 tstr_45 tbool_45 tslc_45 tarr_45 tby_45 tzr_45 tsz_46 tag_46 tcon_46 tstr_46 tbool_46 tslc_46 tarr_46 tby_46
attribute [go_sem] tzr_46 tsz_47 tag_47 tcon_47 tstr_47 tbool_47 tslc_47 tarr_47 tby_47 tzr_47 tsz_48 tag_48 tcon_48 tstr_48 tbool_48 tslc_48 tarr_48 tby_48 tzr_48 tsz_49 tag_49 tcon_49 tstr_49 tbool_49 tslc_49 tarr_49 tby_49 tzr_49 tsz_50 tag_50 tcon_50 tstr_50 tbool_50 tslc_50 tarr_50 tby_50 tzr_50 tsz_51 tag_51 tcon_51
attribute [go_sem] tstr_51 tbool_51 tslc_51 tarr_51 tby_51 tzr_51 tsz_52 tag_52 tcon_52 tstr_52 tbool_52 tslc_52 tarr_52 tby_52 tzr_52 tsz_53 tag_53 tcon_53 tstr_53 tbool_53 tslc_53 tarr_53 tby_53 tzr_53 tsz_54 tag_54 tcon_54 tstr_54 tbool_54 tslc_54 tarr_54 tby_54 tzr_54 tsz_60 tag_60 tcon_60 tstr_60 tbool_60 tslc_60 tarr_60
attribute [go_sem] tby_60 tzr_60 tsz_61 tag_61 tcon_61 tstr_61 tbool_61 tslc_61 tarr_61 tby_61 tzr_61 tsz_64 tag_64 tcon_64 tstr_64 tbool_64 tslc_64 tarr_64 tby_64 tzr_64 tsz_65 tag_65 tcon_65 tstr_65 tbool_65 tslc_65 tarr_65 tby_65 tzr_65 C_P C_thr esc_3 Try.ntmps3 res_3 clr_3_0 clr_3_1 clr_3_2 clr_3_3 clr_3_4 clr_3_5
attribute [go_sem] clr_3_6 clr_3_7 clr_3_8 clr_3_9 clr_3_10 clr_3_11 clr_3_12 clr_3_13 clr_3_14 clr_3_15 clr_3_16 clr_3_18 ord_3_18 ro_3_18 clr_3_19 clr_3_17 clr_3_20 ord_3_20 ro_3_20 esc_4 Try.ntmps4 res_4 clr_4_0 clr_4_1 clr_4_2 clr_4_3 clr_4_4 clr_4_5 clr_4_6 clr_4_8 clr_4_9 clr_4_10 clr_4_11 clr_4_12 clr_4_14 clr_4_13 clr_4_15 clr_4_16 clr_4_17 clr_4_19
attribute [go_sem] clr_4_20 clr_4_18 clr_4_21 clr_4_22 clr_4_7 clr_4_23 esc_5 Try.ntmps5 res_5 clr_5_0 clr_5_1 clr_5_2 clr_5_3 clr_5_4 clr_5_5 clr_5_6 clr_5_7 ord_5_7 ro_5_7 clr_5_8 clr_5_9 clr_5_10 clr_5_11 clr_5_12 clr_5_13 clr_5_14 clr_5_16 ord_5_16 ro_5_16 clr_5_17 clr_5_15 clr_5_18 esc_6 Try.ntmps6 res_6 clr_6_0 clr_6_1 clr_6_2 clr_6_3 clr_6_4
attribute [go_sem] clr_6_5 clr_6_6 clr_6_7 ord_6_7 ro_6_7 esc_7 Try.ntmps7 res_7 clr_7_0 clr_7_1 clr_7_2 clr_7_3 clr_7_4 clr_7_5 clr_7_6 clr_7_8 ord_7_8 ro_7_8 clr_7_9 clr_7_7 clr_7_10 esc_8 Try.ntmps8 res_8 clr_8_0 clr_8_1 clr_8_2 clr_8_3 clr_8_4 clr_8_5 clr_8_6 clr_8_7 clr_8_8 clr_8_10 clr_8_11 clr_8_12 clr_8_9 clr_8_13 ord_8_13 ro_8_13
attribute [go_sem] esc_9 Try.ntmps9 res_9 clr_9_0 clr_9_1 clr_9_2 clr_9_3 clr_9_4 clr_9_5 clr_9_6 clr_9_8 clr_9_9 clr_9_7 clr_9_10 clr_9_11 clr_9_12 clr_9_13 clr_9_14 clr_9_15 clr_9_16 clr_9_17 esc_10 Try.ntmps10 res_10 clr_10_0 clr_10_1 clr_10_2 clr_10_3 clr_10_4 clr_10_5 clr_10_6 clr_10_7 clr_10_8 clr_10_10 clr_10_9 clr_10_11 esc_11 Try.ntmps11 res_11 clr_11_0
attribute [go_sem] clr_11_1 clr_11_2 clr_11_3 clr_11_4 clr_11_5 clr_11_6 clr_11_7 ord_11_7 ro_11_7 clr_11_8 esc_12 Try.ntmps12 res_12 clr_12_0 clr_12_1 clr_12_2 clr_12_3 clr_12_4 clr_12_5 clr_12_6 clr_12_7 clr_12_8 clr_12_9 ord_12_9 ro_12_9 clr_12_10 ord_12_10 ro_12_10 esc_13 Try.ntmps13 res_13 clr_13_0 clr_13_1 clr_13_2 clr_13_3 clr_13_4 clr_13_5 clr_13_6 clr_13_7 clr_13_8
attribute [go_sem] clr_13_9 clr_13_11 ord_13_11 ro_13_11 clr_13_10 clr_13_12 clr_13_13 clr_13_14 ord_13_14 ro_13_14 esc_14 Try.ntmps14 res_14 clr_14_0 clr_14_1 clr_14_2 clr_14_3 clr_14_4 esc_15 Try.ntmps15 res_15 clr_15_0 clr_15_1 clr_15_2 esc_16 Try.ntmps16 res_16 clr_16_0 clr_16_1 clr_16_2 clr_16_3 clr_16_4 clr_16_6 clr_16_7 clr_16_8 clr_16_5 clr_16_9 esc_17 Try.ntmps17 res_17
attribute [go_sem] clr_17_0 clr_17_1 clr_17_2 clr_17_3 clr_17_4 clr_17_5 clr_17_6 ord_17_6 ro_17_6 clr_17_7 ord_17_7 ro_17_7 esc_18 Try.ntmps18 res_18 clr_18_0 clr_18_1 clr_18_2 clr_18_3 clr_18_4 clr_18_5 ord_18_5 ro_18_5 esc_19 Try.ntmps19 res_19 clr_19_0 clr_19_1 clr_19_2 clr_19_3 clr_19_4 clr_19_6 ord_19_6 ro_19_6 clr_19_7 clr_19_8 clr_19_5 clr_19_9 esc_20 Try.ntmps20
attribute [go_sem] res_20 clr_20_0 clr_20_1 clr_20_2 clr_20_3 clr_20_4 clr_20_6 ord_20_6 ro_20_6 clr_20_7 clr_20_8 clr_20_5 clr_20_9 esc_21 Try.ntmps21 res_21 clr_21_0 clr_21_1 clr_21_2 esc_22 Try.ntmps22 res_22 clr_22_0 clr_22_1 clr_22_2 clr_22_3 clr_22_4 clr_22_5 clr_22_6 clr_22_7 clr_22_8 esc_23 Try.ntmps23 res_23 clr_23_0 clr_23_1 clr_23_2 clr_23_3 clr_23_5 clr_23_6
attribute [go_sem] clr_23_4 clr_23_7 esc_24 Try.ntmps24 res_24 clr_24_0 clr_24_1 esc_25 Try.ntmps25 res_25 clr_25_0 clr_25_1 clr_25_2 clr_25_3 clr_25_4 esc_26 Try.ntmps26 res_26 clr_26_0 clr_26_1 clr_26_2 clr_26_3 clr_26_4 esc_27 Try.ntmps27 res_27 clr_27_0 clr_27_1 clr_27_2 esc_28 Try.ntmps28 res_28 clr_28_0 clr_28_1 clr_28_2 esc_29 Try.ntmps29 res_29 clr_29_0 clr_29_1
attribute [go_sem] clr_29_2 clr_29_3 clr_29_4 clr_29_6 ord_29_6 ro_29_6 clr_29_7 clr_29_8 clr_29_5 clr_29_9 esc_30 Try.ntmps30 res_30 clr_30_0 clr_30_1 clr_30_2 clr_30_3 clr_30_4 esc_31 Try.ntmps31 res_31 clr_31_0 clr_31_1 clr_31_2 clr_31_3 clr_31_5 clr_31_4 clr_31_6 esc_32 Try.ntmps32 res_32 clr_32_0 clr_32_1 clr_32_2 clr_32_3 clr_32_4 clr_32_5 clr_32_6 clr_32_7 esc_33
attribute [go_sem] Try.ntmps33 res_33 clr_33_0 clr_33_1 clr_33_2 clr_33_3 clr_33_5 clr_33_6 clr_33_7 clr_33_4 clr_33_8 esc_34 Try.ntmps34 res_34 clr_34_0 clr_34_1 esc_35 Try.ntmps35 res_35 clr_35_0 clr_35_1 esc_36 Try.ntmps36 res_36 clr_36_0 clr_36_1 clr_36_2 clr_36_3 esc_37 Try.ntmps37 res_37 clr_37_0 clr_37_1 clr_37_2 clr_37_3 clr_37_4 clr_37_5 clr_37_6 clr_37_7 esc_38
attribute [go_sem] Try.ntmps38 res_38 clr_38_0 clr_38_1 clr_38_2 clr_38_3 clr_38_4 clr_38_5 clr_38_6 ord_38_6 ro_38_6 clr_38_7 clr_38_8 clr_38_9 esc_39 Try.ntmps39 res_39 clr_39_0 clr_39_1 clr_39_2 clr_39_3 clr_39_4 clr_39_6 clr_39_7 clr_39_8 clr_39_5 clr_39_9 esc_40 Try.ntmps40 res_40 clr_40_0 clr_40_1 esc_41 Try.ntmps41 res_41 clr_41_0 clr_41_1 clr_41_2 clr_41_3 clr_41_4
attribute [go_sem] esc_42 Try.ntmps42 res_42 clr_42_0 clr_42_1 clr_42_3 clr_42_4 clr_42_5 clr_42_6 clr_42_7 clr_42_8 clr_42_9 clr_42_10 clr_42_11 clr_42_12 clr_42_13 clr_42_14 clr_42_15 clr_42_16 clr_42_17 clr_42_2 clr_42_18 clr_42_19 clr_42_21 clr_42_22 clr_42_23 clr_42_20 clr_42_24 esc_43 Try.ntmps43 res_43 clr_43_0 clr_43_1 esc_44 Try.ntmps44 res_44 clr_44_0 clr_44_1 clr_44_2 clr_44_3
attribute [go_sem] clr_44_4 clr_44_5 clr_44_6 esc_45 Try.ntmps45 res_45 clr_45_0 clr_45_1 esc_46 Try.ntmps46 res_46 clr_46_0 clr_46_1 clr_46_2 clr_46_3 clr_46_4 clr_46_5 clr_46_6 clr_46_7 clr_46_8 esc_47 Try.ntmps47 res_47 clr_47_0 clr_47_1 esc_48 Try.ntmps48 res_48 clr_48_0 clr_48_1 ord_48_1 ro_48_1 clr_48_2 esc_49 Try.ntmps49 res_49 clr_49_0 esc_50 Try.ntmps50 res_50
attribute [go_sem] clr_50_0 clr_50_1 clr_50_2 clr_50_3 clr_50_4 clr_50_5 clr_50_6 clr_50_7 clr_50_8 clr_50_9 clr_50_10 clr_50_11 clr_50_12 esc_51 Try.ntmps51 res_51 clr_51_0 clr_51_1
end Go.Proofs.Ytfelfahgeannaaa

/- The tables of this program: types; which variables are shared, what is needed no more, in which order. Printed by gen.py. -/
import Derived.Test.YtkmpfdecjmnccaaKG
import Derived.Test.YtkmpfdecjmnccaaProg
import Derived.KernelRfl
set_option maxRecDepth 100000
namespace Go.Proofs.Ytkmpfdecjmnccaa
open Go.Proofs
theorem tsz_1 : tsz Try.prog 1 = some 1 := by kernel_rfl
theorem tag_1 : tag Try.prog 1 = some false := by kernel_rfl
theorem tcon_1 : tcon Try.prog 1 = true := by kernel_rfl
theorem tstr_1 : tstr Try.prog 1 = false := by kernel_rfl
theorem tbool_1 : tbool Try.prog 1 = false := by kernel_rfl
theorem tslc_1 : tslc Try.prog 1 = none := by kernel_rfl
theorem tarr_1 : tarr Try.prog 1 = none := by kernel_rfl
theorem tby_1 : tby Try.prog 1 = some 8 := by kernel_rfl
theorem tzr_1 : tzr Try.prog 1 = some [.raw .nilFunc] := by kernel_rfl
theorem tsz_2 : tsz Try.prog 2 = some 1 := by kernel_rfl
theorem tag_2 : tag Try.prog 2 = some false := by kernel_rfl
theorem tcon_2 : tcon Try.prog 2 = true := by kernel_rfl
theorem tstr_2 : tstr Try.prog 2 = false := by kernel_rfl
theorem tbool_2 : tbool Try.prog 2 = false := by kernel_rfl
theorem tslc_2 : tslc Try.prog 2 = none := by kernel_rfl
theorem tarr_2 : tarr Try.prog 2 = none := by kernel_rfl
theorem tby_2 : tby Try.prog 2 = some 8 := by kernel_rfl
theorem tzr_2 : tzr Try.prog 2 = some [.d (.int .i64 0)] := by kernel_rfl
theorem tsz_3 : tsz Try.prog 3 = some 1 := by kernel_rfl
theorem tag_3 : tag Try.prog 3 = some false := by kernel_rfl
theorem tcon_3 : tcon Try.prog 3 = true := by kernel_rfl
theorem tstr_3 : tstr Try.prog 3 = false := by kernel_rfl
theorem tbool_3 : tbool Try.prog 3 = false := by kernel_rfl
theorem tslc_3 : tslc Try.prog 3 = none := by kernel_rfl
theorem tarr_3 : tarr Try.prog 3 = none := by kernel_rfl
theorem tby_3 : tby Try.prog 3 = some 8 := by kernel_rfl
theorem tzr_3 : tzr Try.prog 3 = some [.d (.int .i64 0)] := by kernel_rfl
theorem tsz_4 : tsz Try.prog 4 = some 1 := by kernel_rfl
theorem tag_4 : tag Try.prog 4 = some false := by kernel_rfl
theorem tcon_4 : tcon Try.prog 4 = true := by kernel_rfl
theorem tstr_4 : tstr Try.prog 4 = false := by kernel_rfl
theorem tbool_4 : tbool Try.prog 4 = true := by kernel_rfl
theorem tslc_4 : tslc Try.prog 4 = none := by kernel_rfl
theorem tarr_4 : tarr Try.prog 4 = none := by kernel_rfl
theorem tby_4 : tby Try.prog 4 = some 1 := by kernel_rfl
theorem tzr_4 : tzr Try.prog 4 = some [.d (.bool false)] := by kernel_rfl
theorem tsz_5 : tsz Try.prog 5 = some 1 := by kernel_rfl
theorem tag_5 : tag Try.prog 5 = some false := by kernel_rfl
theorem tcon_5 : tcon Try.prog 5 = true := by kernel_rfl
theorem tstr_5 : tstr Try.prog 5 = false := by kernel_rfl
theorem tbool_5 : tbool Try.prog 5 = false := by kernel_rfl
theorem tslc_5 : tslc Try.prog 5 = none := by kernel_rfl
theorem tarr_5 : tarr Try.prog 5 = none := by kernel_rfl
theorem tby_5 : tby Try.prog 5 = some 1 := by kernel_rfl
theorem tzr_5 : tzr Try.prog 5 = some [.d (.int .u8 0)] := by kernel_rfl
theorem tsz_9 : tsz Try.prog 9 = some 1 := by kernel_rfl
theorem tag_9 : tag Try.prog 9 = some false := by kernel_rfl
theorem tcon_9 : tcon Try.prog 9 = true := by kernel_rfl
theorem tstr_9 : tstr Try.prog 9 = true := by kernel_rfl
theorem tbool_9 : tbool Try.prog 9 = false := by kernel_rfl
theorem tslc_9 : tslc Try.prog 9 = none := by kernel_rfl
theorem tarr_9 : tarr Try.prog 9 = none := by kernel_rfl
theorem tby_9 : tby Try.prog 9 = some 16 := by kernel_rfl
theorem tzr_9 : tzr Try.prog 9 = some [.d (.str ⟨#[]⟩)] := by kernel_rfl
theorem tsz_12 : tsz Try.prog 12 = some 1 := by kernel_rfl
theorem tag_12 : tag Try.prog 12 = some false := by kernel_rfl
theorem tcon_12 : tcon Try.prog 12 = true := by kernel_rfl
theorem tstr_12 : tstr Try.prog 12 = false := by kernel_rfl
theorem tbool_12 : tbool Try.prog 12 = false := by kernel_rfl
theorem tslc_12 : tslc Try.prog 12 = none := by kernel_rfl
theorem tarr_12 : tarr Try.prog 12 = none := by kernel_rfl
theorem tby_12 : tby Try.prog 12 = some 8 := by kernel_rfl
theorem tzr_12 : tzr Try.prog 12 = some [.d (.int .u64 0)] := by kernel_rfl
theorem tsz_20 : tsz Try.prog 20 = some 1 := by kernel_rfl
theorem tag_20 : tag Try.prog 20 = some false := by kernel_rfl
theorem tcon_20 : tcon Try.prog 20 = false := by kernel_rfl
theorem tstr_20 : tstr Try.prog 20 = false := by kernel_rfl
theorem tbool_20 : tbool Try.prog 20 = false := by kernel_rfl
theorem tslc_20 : tslc Try.prog 20 = none := by kernel_rfl
theorem tarr_20 : tarr Try.prog 20 = none := by kernel_rfl
theorem tby_20 : tby Try.prog 20 = some 16 := by kernel_rfl
theorem tzr_20 : tzr Try.prog 20 = some [.raw .nilIface] := by kernel_rfl
theorem tsz_21 : tsz Try.prog 21 = some 1 := by kernel_rfl
theorem tag_21 : tag Try.prog 21 = some false := by kernel_rfl
theorem tcon_21 : tcon Try.prog 21 = true := by kernel_rfl
theorem tstr_21 : tstr Try.prog 21 = false := by kernel_rfl
theorem tbool_21 : tbool Try.prog 21 = false := by kernel_rfl
theorem tslc_21 : tslc Try.prog 21 = none := by kernel_rfl
theorem tarr_21 : tarr Try.prog 21 = none := by kernel_rfl
theorem tby_21 : tby Try.prog 21 = some 4 := by kernel_rfl
theorem tzr_21 : tzr Try.prog 21 = some [.d (.int .i32 0)] := by kernel_rfl
theorem tsz_22 : tsz Try.prog 22 = some 1 := by kernel_rfl
theorem tag_22 : tag Try.prog 22 = some false := by kernel_rfl
theorem tcon_22 : tcon Try.prog 22 = true := by kernel_rfl
theorem tstr_22 : tstr Try.prog 22 = false := by kernel_rfl
theorem tbool_22 : tbool Try.prog 22 = false := by kernel_rfl
theorem tslc_22 : tslc Try.prog 22 = some 61 := by kernel_rfl
theorem tarr_22 : tarr Try.prog 22 = none := by kernel_rfl
theorem tby_22 : tby Try.prog 22 = some 24 := by kernel_rfl
theorem tzr_22 : tzr Try.prog 22 = some [.clip []] := by kernel_rfl
theorem tsz_23 : tsz Try.prog 23 = some 1 := by kernel_rfl
theorem tag_23 : tag Try.prog 23 = some false := by kernel_rfl
theorem tcon_23 : tcon Try.prog 23 = true := by kernel_rfl
theorem tstr_23 : tstr Try.prog 23 = false := by kernel_rfl
theorem tbool_23 : tbool Try.prog 23 = false := by kernel_rfl
theorem tslc_23 : tslc Try.prog 23 = some 46 := by kernel_rfl
theorem tarr_23 : tarr Try.prog 23 = none := by kernel_rfl
theorem tby_23 : tby Try.prog 23 = some 24 := by kernel_rfl
theorem tzr_23 : tzr Try.prog 23 = some [.clip []] := by kernel_rfl
theorem tsz_24 : tsz Try.prog 24 = some 1 := by kernel_rfl
theorem tag_24 : tag Try.prog 24 = some false := by kernel_rfl
theorem tcon_24 : tcon Try.prog 24 = true := by kernel_rfl
theorem tstr_24 : tstr Try.prog 24 = false := by kernel_rfl
theorem tbool_24 : tbool Try.prog 24 = false := by kernel_rfl
theorem tslc_24 : tslc Try.prog 24 = some 26 := by kernel_rfl
theorem tarr_24 : tarr Try.prog 24 = none := by kernel_rfl
theorem tby_24 : tby Try.prog 24 = some 24 := by kernel_rfl
theorem tzr_24 : tzr Try.prog 24 = some [.clip []] := by kernel_rfl
theorem tsz_25 : tsz Try.prog 25 = some 3 := by kernel_rfl
theorem tag_25 : tag Try.prog 25 = some true := by kernel_rfl
theorem tcon_25 : tcon Try.prog 25 = true := by kernel_rfl
theorem tstr_25 : tstr Try.prog 25 = false := by kernel_rfl
theorem tbool_25 : tbool Try.prog 25 = false := by kernel_rfl
theorem tslc_25 : tslc Try.prog 25 = none := by kernel_rfl
theorem tarr_25 : tarr Try.prog 25 = none := by kernel_rfl
theorem tby_25 : tby Try.prog 25 = some 40 := by kernel_rfl
theorem tzr_25 : tzr Try.prog 25 = some [.d (.int .i64 0), .d (.int .i64 0), .clip []] := by kernel_rfl
theorem tfld_25_0 : tfld Try.prog 25 0 = some (0, 1, 3) := by kernel_rfl
theorem place_25_0 : place Try.prog 25 0 = some (0, 1) := by kernel_rfl
theorem tfld_25_1 : tfld Try.prog 25 1 = some (1, 1, 3) := by kernel_rfl
theorem place_25_1 : place Try.prog 25 1 = some (1, 1) := by kernel_rfl
theorem tfld_25_2 : tfld Try.prog 25 2 = some (2, 1, 24) := by kernel_rfl
theorem place_25_2 : place Try.prog 25 2 = some (2, 1) := by kernel_rfl
theorem tbld_25 : tbld Try.prog 25 = true := by kernel_rfl
theorem tsz_26 : tsz Try.prog 26 = some 3 := by kernel_rfl
theorem tag_26 : tag Try.prog 26 = some true := by kernel_rfl
theorem tcon_26 : tcon Try.prog 26 = true := by kernel_rfl
theorem tstr_26 : tstr Try.prog 26 = false := by kernel_rfl
theorem tbool_26 : tbool Try.prog 26 = false := by kernel_rfl
theorem tslc_26 : tslc Try.prog 26 = none := by kernel_rfl
theorem tarr_26 : tarr Try.prog 26 = none := by kernel_rfl
theorem tby_26 : tby Try.prog 26 = some 40 := by kernel_rfl
theorem tzr_26 : tzr Try.prog 26 = some [.d (.int .i64 0), .d (.int .i64 0), .clip []] := by kernel_rfl
theorem tfld_26_0 : tfld Try.prog 26 0 = some (0, 1, 3) := by kernel_rfl
theorem place_26_0 : place Try.prog 26 0 = some (0, 1) := by kernel_rfl
theorem tfld_26_1 : tfld Try.prog 26 1 = some (1, 1, 3) := by kernel_rfl
theorem place_26_1 : place Try.prog 26 1 = some (1, 1) := by kernel_rfl
theorem tfld_26_2 : tfld Try.prog 26 2 = some (2, 1, 24) := by kernel_rfl
theorem place_26_2 : place Try.prog 26 2 = some (2, 1) := by kernel_rfl
theorem tbld_26 : tbld Try.prog 26 = true := by kernel_rfl
theorem tsz_27 : tsz Try.prog 27 = some 1 := by kernel_rfl
theorem tag_27 : tag Try.prog 27 = some false := by kernel_rfl
theorem tcon_27 : tcon Try.prog 27 = true := by kernel_rfl
theorem tstr_27 : tstr Try.prog 27 = false := by kernel_rfl
theorem tbool_27 : tbool Try.prog 27 = false := by kernel_rfl
theorem tslc_27 : tslc Try.prog 27 = none := by kernel_rfl
theorem tarr_27 : tarr Try.prog 27 = none := by kernel_rfl
theorem tby_27 : tby Try.prog 27 = some 8 := by kernel_rfl
theorem tzr_27 : tzr Try.prog 27 = some [.raw .nilFunc] := by kernel_rfl
theorem tsz_28 : tsz Try.prog 28 = some 1 := by kernel_rfl
theorem tag_28 : tag Try.prog 28 = some false := by kernel_rfl
theorem tcon_28 : tcon Try.prog 28 = true := by kernel_rfl
theorem tstr_28 : tstr Try.prog 28 = false := by kernel_rfl
theorem tbool_28 : tbool Try.prog 28 = false := by kernel_rfl
theorem tslc_28 : tslc Try.prog 28 = none := by kernel_rfl
theorem tarr_28 : tarr Try.prog 28 = none := by kernel_rfl
theorem tby_28 : tby Try.prog 28 = some 8 := by kernel_rfl
theorem tzr_28 : tzr Try.prog 28 = some [.raw .nilFunc] := by kernel_rfl
theorem tsz_29 : tsz Try.prog 29 = some 1 := by kernel_rfl
theorem tag_29 : tag Try.prog 29 = some false := by kernel_rfl
theorem tcon_29 : tcon Try.prog 29 = true := by kernel_rfl
theorem tstr_29 : tstr Try.prog 29 = false := by kernel_rfl
theorem tbool_29 : tbool Try.prog 29 = false := by kernel_rfl
theorem tslc_29 : tslc Try.prog 29 = none := by kernel_rfl
theorem tarr_29 : tarr Try.prog 29 = none := by kernel_rfl
theorem tby_29 : tby Try.prog 29 = some 8 := by kernel_rfl
theorem tzr_29 : tzr Try.prog 29 = some [.raw .nilFunc] := by kernel_rfl
theorem tsz_30 : tsz Try.prog 30 = some 1 := by kernel_rfl
theorem tag_30 : tag Try.prog 30 = some false := by kernel_rfl
theorem tcon_30 : tcon Try.prog 30 = true := by kernel_rfl
theorem tstr_30 : tstr Try.prog 30 = false := by kernel_rfl
theorem tbool_30 : tbool Try.prog 30 = false := by kernel_rfl
theorem tslc_30 : tslc Try.prog 30 = none := by kernel_rfl
theorem tarr_30 : tarr Try.prog 30 = none := by kernel_rfl
theorem tby_30 : tby Try.prog 30 = some 8 := by kernel_rfl
theorem tzr_30 : tzr Try.prog 30 = some [.raw .nilFunc] := by kernel_rfl
theorem tsz_31 : tsz Try.prog 31 = some 1 := by kernel_rfl
theorem tag_31 : tag Try.prog 31 = some false := by kernel_rfl
theorem tcon_31 : tcon Try.prog 31 = true := by kernel_rfl
theorem tstr_31 : tstr Try.prog 31 = false := by kernel_rfl
theorem tbool_31 : tbool Try.prog 31 = false := by kernel_rfl
theorem tslc_31 : tslc Try.prog 31 = none := by kernel_rfl
theorem tarr_31 : tarr Try.prog 31 = none := by kernel_rfl
theorem tby_31 : tby Try.prog 31 = some 8 := by kernel_rfl
theorem tzr_31 : tzr Try.prog 31 = some [.raw .nilFunc] := by kernel_rfl
theorem tsz_32 : tsz Try.prog 32 = some 1 := by kernel_rfl
theorem tag_32 : tag Try.prog 32 = some false := by kernel_rfl
theorem tcon_32 : tcon Try.prog 32 = true := by kernel_rfl
theorem tstr_32 : tstr Try.prog 32 = false := by kernel_rfl
theorem tbool_32 : tbool Try.prog 32 = false := by kernel_rfl
theorem tslc_32 : tslc Try.prog 32 = none := by kernel_rfl
theorem tarr_32 : tarr Try.prog 32 = none := by kernel_rfl
theorem tby_32 : tby Try.prog 32 = some 8 := by kernel_rfl
theorem tzr_32 : tzr Try.prog 32 = some [.d (.int .i64 0)] := by kernel_rfl
theorem tsz_34 : tsz Try.prog 34 = some 1 := by kernel_rfl
theorem tag_34 : tag Try.prog 34 = some false := by kernel_rfl
theorem tcon_34 : tcon Try.prog 34 = true := by kernel_rfl
theorem tstr_34 : tstr Try.prog 34 = false := by kernel_rfl
theorem tbool_34 : tbool Try.prog 34 = false := by kernel_rfl
theorem tslc_34 : tslc Try.prog 34 = none := by kernel_rfl
theorem tarr_34 : tarr Try.prog 34 = none := by kernel_rfl
theorem tby_34 : tby Try.prog 34 = some 8 := by kernel_rfl
theorem tzr_34 : tzr Try.prog 34 = some [.raw .nilFunc] := by kernel_rfl
theorem tsz_35 : tsz Try.prog 35 = some 1 := by kernel_rfl
theorem tag_35 : tag Try.prog 35 = some false := by kernel_rfl
theorem tcon_35 : tcon Try.prog 35 = true := by kernel_rfl
theorem tstr_35 : tstr Try.prog 35 = false := by kernel_rfl
theorem tbool_35 : tbool Try.prog 35 = false := by kernel_rfl
theorem tslc_35 : tslc Try.prog 35 = none := by kernel_rfl
theorem tarr_35 : tarr Try.prog 35 = none := by kernel_rfl
theorem tby_35 : tby Try.prog 35 = some 8 := by kernel_rfl
theorem tzr_35 : tzr Try.prog 35 = some [.raw .nilFunc] := by kernel_rfl
theorem tsz_36 : tsz Try.prog 36 = some 1 := by kernel_rfl
theorem tag_36 : tag Try.prog 36 = some false := by kernel_rfl
theorem tcon_36 : tcon Try.prog 36 = true := by kernel_rfl
theorem tstr_36 : tstr Try.prog 36 = false := by kernel_rfl
theorem tbool_36 : tbool Try.prog 36 = false := by kernel_rfl
theorem tslc_36 : tslc Try.prog 36 = none := by kernel_rfl
theorem tarr_36 : tarr Try.prog 36 = none := by kernel_rfl
theorem tby_36 : tby Try.prog 36 = some 8 := by kernel_rfl
theorem tzr_36 : tzr Try.prog 36 = some [.raw .nilFunc] := by kernel_rfl
theorem tsz_37 : tsz Try.prog 37 = some 1 := by kernel_rfl
theorem tag_37 : tag Try.prog 37 = some false := by kernel_rfl
theorem tcon_37 : tcon Try.prog 37 = true := by kernel_rfl
theorem tstr_37 : tstr Try.prog 37 = false := by kernel_rfl
theorem tbool_37 : tbool Try.prog 37 = false := by kernel_rfl
theorem tslc_37 : tslc Try.prog 37 = none := by kernel_rfl
theorem tarr_37 : tarr Try.prog 37 = none := by kernel_rfl
theorem tby_37 : tby Try.prog 37 = some 8 := by kernel_rfl
theorem tzr_37 : tzr Try.prog 37 = some [.raw .nilFunc] := by kernel_rfl
theorem tsz_38 : tsz Try.prog 38 = some 1 := by kernel_rfl
theorem tag_38 : tag Try.prog 38 = some false := by kernel_rfl
theorem tcon_38 : tcon Try.prog 38 = true := by kernel_rfl
theorem tstr_38 : tstr Try.prog 38 = false := by kernel_rfl
theorem tbool_38 : tbool Try.prog 38 = false := by kernel_rfl
theorem tslc_38 : tslc Try.prog 38 = none := by kernel_rfl
theorem tarr_38 : tarr Try.prog 38 = none := by kernel_rfl
theorem tby_38 : tby Try.prog 38 = some 8 := by kernel_rfl
theorem tzr_38 : tzr Try.prog 38 = some [.raw .nilFunc] := by kernel_rfl
theorem tsz_39 : tsz Try.prog 39 = some 1 := by kernel_rfl
theorem tag_39 : tag Try.prog 39 = some false := by kernel_rfl
theorem tcon_39 : tcon Try.prog 39 = true := by kernel_rfl
theorem tstr_39 : tstr Try.prog 39 = false := by kernel_rfl
theorem tbool_39 : tbool Try.prog 39 = false := by kernel_rfl
theorem tslc_39 : tslc Try.prog 39 = none := by kernel_rfl
theorem tarr_39 : tarr Try.prog 39 = none := by kernel_rfl
theorem tby_39 : tby Try.prog 39 = some 8 := by kernel_rfl
theorem tzr_39 : tzr Try.prog 39 = some [.raw .nilFunc] := by kernel_rfl
theorem tsz_41 : tsz Try.prog 41 = some 1 := by kernel_rfl
theorem tag_41 : tag Try.prog 41 = some false := by kernel_rfl
theorem tcon_41 : tcon Try.prog 41 = true := by kernel_rfl
theorem tstr_41 : tstr Try.prog 41 = false := by kernel_rfl
theorem tbool_41 : tbool Try.prog 41 = false := by kernel_rfl
theorem tslc_41 : tslc Try.prog 41 = none := by kernel_rfl
theorem tarr_41 : tarr Try.prog 41 = none := by kernel_rfl
theorem tby_41 : tby Try.prog 41 = some 8 := by kernel_rfl
theorem tzr_41 : tzr Try.prog 41 = some [.raw .nilFunc] := by kernel_rfl
theorem tsz_43 : tsz Try.prog 43 = some 1 := by kernel_rfl
theorem tag_43 : tag Try.prog 43 = some false := by kernel_rfl
theorem tcon_43 : tcon Try.prog 43 = true := by kernel_rfl
theorem tstr_43 : tstr Try.prog 43 = false := by kernel_rfl
theorem tbool_43 : tbool Try.prog 43 = false := by kernel_rfl
theorem tslc_43 : tslc Try.prog 43 = none := by kernel_rfl
theorem tarr_43 : tarr Try.prog 43 = none := by kernel_rfl
theorem tby_43 : tby Try.prog 43 = some 8 := by kernel_rfl
theorem tzr_43 : tzr Try.prog 43 = some [.raw .nilFunc] := by kernel_rfl
theorem tsz_44 : tsz Try.prog 44 = some 1 := by kernel_rfl
theorem tag_44 : tag Try.prog 44 = some false := by kernel_rfl
theorem tcon_44 : tcon Try.prog 44 = true := by kernel_rfl
theorem tstr_44 : tstr Try.prog 44 = false := by kernel_rfl
theorem tbool_44 : tbool Try.prog 44 = false := by kernel_rfl
theorem tslc_44 : tslc Try.prog 44 = none := by kernel_rfl
theorem tarr_44 : tarr Try.prog 44 = none := by kernel_rfl
theorem tby_44 : tby Try.prog 44 = some 8 := by kernel_rfl
theorem tzr_44 : tzr Try.prog 44 = some [.raw .nilFunc] := by kernel_rfl
theorem tsz_45 : tsz Try.prog 45 = some 5 := by kernel_rfl
theorem tag_45 : tag Try.prog 45 = some true := by kernel_rfl
theorem tcon_45 : tcon Try.prog 45 = true := by kernel_rfl
theorem tstr_45 : tstr Try.prog 45 = false := by kernel_rfl
theorem tbool_45 : tbool Try.prog 45 = false := by kernel_rfl
theorem tslc_45 : tslc Try.prog 45 = none := by kernel_rfl
theorem tarr_45 : tarr Try.prog 45 = none := by kernel_rfl
theorem tby_45 : tby Try.prog 45 = some 72 := by kernel_rfl
theorem tzr_45 : tzr Try.prog 45 = some [.clip [], .d (.int .i64 0), .d (.int .i64 0), .clip [], .d (.bool false)] := by kernel_rfl
theorem tfld_45_0 : tfld Try.prog 45 0 = some (0, 1, 24) := by kernel_rfl
theorem place_45_0 : place Try.prog 45 0 = some (0, 1) := by kernel_rfl
theorem tfld_45_1 : tfld Try.prog 45 1 = some (1, 3, 26) := by kernel_rfl
theorem place_45_1 : place Try.prog 45 1 = some (1, 3) := by kernel_rfl
theorem tfld_45_2 : tfld Try.prog 45 2 = some (4, 1, 4) := by kernel_rfl
theorem place_45_2 : place Try.prog 45 2 = some (4, 1) := by kernel_rfl
theorem tbld_45 : tbld Try.prog 45 = true := by kernel_rfl
theorem tsz_46 : tsz Try.prog 46 = some 5 := by kernel_rfl
theorem tag_46 : tag Try.prog 46 = some true := by kernel_rfl
theorem tcon_46 : tcon Try.prog 46 = true := by kernel_rfl
theorem tstr_46 : tstr Try.prog 46 = false := by kernel_rfl
theorem tbool_46 : tbool Try.prog 46 = false := by kernel_rfl
theorem tslc_46 : tslc Try.prog 46 = none := by kernel_rfl
theorem tarr_46 : tarr Try.prog 46 = none := by kernel_rfl
theorem tby_46 : tby Try.prog 46 = some 72 := by kernel_rfl
theorem tzr_46 : tzr Try.prog 46 = some [.clip [], .d (.int .i64 0), .d (.int .i64 0), .clip [], .d (.bool false)] := by kernel_rfl
theorem tfld_46_0 : tfld Try.prog 46 0 = some (0, 1, 24) := by kernel_rfl
theorem place_46_0 : place Try.prog 46 0 = some (0, 1) := by kernel_rfl
theorem tfld_46_1 : tfld Try.prog 46 1 = some (1, 3, 26) := by kernel_rfl
theorem place_46_1 : place Try.prog 46 1 = some (1, 3) := by kernel_rfl
theorem tfld_46_2 : tfld Try.prog 46 2 = some (4, 1, 4) := by kernel_rfl
theorem place_46_2 : place Try.prog 46 2 = some (4, 1) := by kernel_rfl
theorem tbld_46 : tbld Try.prog 46 = true := by kernel_rfl
theorem tsz_47 : tsz Try.prog 47 = some 1 := by kernel_rfl
theorem tag_47 : tag Try.prog 47 = some false := by kernel_rfl
theorem tcon_47 : tcon Try.prog 47 = true := by kernel_rfl
theorem tstr_47 : tstr Try.prog 47 = false := by kernel_rfl
theorem tbool_47 : tbool Try.prog 47 = false := by kernel_rfl
theorem tslc_47 : tslc Try.prog 47 = none := by kernel_rfl
theorem tarr_47 : tarr Try.prog 47 = none := by kernel_rfl
theorem tby_47 : tby Try.prog 47 = some 8 := by kernel_rfl
theorem tzr_47 : tzr Try.prog 47 = some [.raw .nilFunc] := by kernel_rfl
theorem tsz_48 : tsz Try.prog 48 = some 1 := by kernel_rfl
theorem tag_48 : tag Try.prog 48 = some false := by kernel_rfl
theorem tcon_48 : tcon Try.prog 48 = true := by kernel_rfl
theorem tstr_48 : tstr Try.prog 48 = false := by kernel_rfl
theorem tbool_48 : tbool Try.prog 48 = false := by kernel_rfl
theorem tslc_48 : tslc Try.prog 48 = none := by kernel_rfl
theorem tarr_48 : tarr Try.prog 48 = none := by kernel_rfl
theorem tby_48 : tby Try.prog 48 = some 8 := by kernel_rfl
theorem tzr_48 : tzr Try.prog 48 = some [.raw .nilFunc] := by kernel_rfl
theorem tsz_49 : tsz Try.prog 49 = some 1 := by kernel_rfl
theorem tag_49 : tag Try.prog 49 = some false := by kernel_rfl
theorem tcon_49 : tcon Try.prog 49 = true := by kernel_rfl
theorem tstr_49 : tstr Try.prog 49 = false := by kernel_rfl
theorem tbool_49 : tbool Try.prog 49 = false := by kernel_rfl
theorem tslc_49 : tslc Try.prog 49 = none := by kernel_rfl
theorem tarr_49 : tarr Try.prog 49 = none := by kernel_rfl
theorem tby_49 : tby Try.prog 49 = some 8 := by kernel_rfl
theorem tzr_49 : tzr Try.prog 49 = some [.raw .nilFunc] := by kernel_rfl
theorem tsz_50 : tsz Try.prog 50 = some 1 := by kernel_rfl
theorem tag_50 : tag Try.prog 50 = some false := by kernel_rfl
theorem tcon_50 : tcon Try.prog 50 = true := by kernel_rfl
theorem tstr_50 : tstr Try.prog 50 = false := by kernel_rfl
theorem tbool_50 : tbool Try.prog 50 = false := by kernel_rfl
theorem tslc_50 : tslc Try.prog 50 = some 3 := by kernel_rfl
theorem tarr_50 : tarr Try.prog 50 = none := by kernel_rfl
theorem tby_50 : tby Try.prog 50 = some 24 := by kernel_rfl
theorem tzr_50 : tzr Try.prog 50 = some [.clip []] := by kernel_rfl
theorem tsz_51 : tsz Try.prog 51 = some 1 := by kernel_rfl
theorem tag_51 : tag Try.prog 51 = some false := by kernel_rfl
theorem tcon_51 : tcon Try.prog 51 = true := by kernel_rfl
theorem tstr_51 : tstr Try.prog 51 = false := by kernel_rfl
theorem tbool_51 : tbool Try.prog 51 = false := by kernel_rfl
theorem tslc_51 : tslc Try.prog 51 = none := by kernel_rfl
theorem tarr_51 : tarr Try.prog 51 = none := by kernel_rfl
theorem tby_51 : tby Try.prog 51 = some 8 := by kernel_rfl
theorem tzr_51 : tzr Try.prog 51 = some [.raw .nilFunc] := by kernel_rfl
theorem tsz_52 : tsz Try.prog 52 = some 1 := by kernel_rfl
theorem tag_52 : tag Try.prog 52 = some false := by kernel_rfl
theorem tcon_52 : tcon Try.prog 52 = true := by kernel_rfl
theorem tstr_52 : tstr Try.prog 52 = false := by kernel_rfl
theorem tbool_52 : tbool Try.prog 52 = false := by kernel_rfl
theorem tslc_52 : tslc Try.prog 52 = some 4 := by kernel_rfl
theorem tarr_52 : tarr Try.prog 52 = none := by kernel_rfl
theorem tby_52 : tby Try.prog 52 = some 24 := by kernel_rfl
theorem tzr_52 : tzr Try.prog 52 = some [.clip []] := by kernel_rfl
theorem tsz_53 : tsz Try.prog 53 = some 1 := by kernel_rfl
theorem tag_53 : tag Try.prog 53 = some false := by kernel_rfl
theorem tcon_53 : tcon Try.prog 53 = true := by kernel_rfl
theorem tstr_53 : tstr Try.prog 53 = false := by kernel_rfl
theorem tbool_53 : tbool Try.prog 53 = false := by kernel_rfl
theorem tslc_53 : tslc Try.prog 53 = none := by kernel_rfl
theorem tarr_53 : tarr Try.prog 53 = none := by kernel_rfl
theorem tby_53 : tby Try.prog 53 = some 8 := by kernel_rfl
theorem tzr_53 : tzr Try.prog 53 = some [.raw .nilFunc] := by kernel_rfl
theorem tsz_54 : tsz Try.prog 54 = some 1 := by kernel_rfl
theorem tag_54 : tag Try.prog 54 = some false := by kernel_rfl
theorem tcon_54 : tcon Try.prog 54 = true := by kernel_rfl
theorem tstr_54 : tstr Try.prog 54 = false := by kernel_rfl
theorem tbool_54 : tbool Try.prog 54 = false := by kernel_rfl
theorem tslc_54 : tslc Try.prog 54 = none := by kernel_rfl
theorem tarr_54 : tarr Try.prog 54 = none := by kernel_rfl
theorem tby_54 : tby Try.prog 54 = some 8 := by kernel_rfl
theorem tzr_54 : tzr Try.prog 54 = some [.raw .nilFunc] := by kernel_rfl
theorem tsz_55 : tsz Try.prog 55 = some 1 := by kernel_rfl
theorem tag_55 : tag Try.prog 55 = some false := by kernel_rfl
theorem tcon_55 : tcon Try.prog 55 = true := by kernel_rfl
theorem tstr_55 : tstr Try.prog 55 = false := by kernel_rfl
theorem tbool_55 : tbool Try.prog 55 = false := by kernel_rfl
theorem tslc_55 : tslc Try.prog 55 = none := by kernel_rfl
theorem tarr_55 : tarr Try.prog 55 = none := by kernel_rfl
theorem tby_55 : tby Try.prog 55 = some 8 := by kernel_rfl
theorem tzr_55 : tzr Try.prog 55 = some [.raw .nilFunc] := by kernel_rfl
theorem tsz_56 : tsz Try.prog 56 = some 1 := by kernel_rfl
theorem tag_56 : tag Try.prog 56 = some false := by kernel_rfl
theorem tcon_56 : tcon Try.prog 56 = true := by kernel_rfl
theorem tstr_56 : tstr Try.prog 56 = false := by kernel_rfl
theorem tbool_56 : tbool Try.prog 56 = false := by kernel_rfl
theorem tslc_56 : tslc Try.prog 56 = none := by kernel_rfl
theorem tarr_56 : tarr Try.prog 56 = none := by kernel_rfl
theorem tby_56 : tby Try.prog 56 = some 8 := by kernel_rfl
theorem tzr_56 : tzr Try.prog 56 = some [.raw .nilFunc] := by kernel_rfl
theorem tsz_57 : tsz Try.prog 57 = some 1 := by kernel_rfl
theorem tag_57 : tag Try.prog 57 = some false := by kernel_rfl
theorem tcon_57 : tcon Try.prog 57 = true := by kernel_rfl
theorem tstr_57 : tstr Try.prog 57 = false := by kernel_rfl
theorem tbool_57 : tbool Try.prog 57 = false := by kernel_rfl
theorem tslc_57 : tslc Try.prog 57 = none := by kernel_rfl
theorem tarr_57 : tarr Try.prog 57 = none := by kernel_rfl
theorem tby_57 : tby Try.prog 57 = some 8 := by kernel_rfl
theorem tzr_57 : tzr Try.prog 57 = some [.raw .nilFunc] := by kernel_rfl
theorem tsz_58 : tsz Try.prog 58 = some 1 := by kernel_rfl
theorem tag_58 : tag Try.prog 58 = some false := by kernel_rfl
theorem tcon_58 : tcon Try.prog 58 = true := by kernel_rfl
theorem tstr_58 : tstr Try.prog 58 = false := by kernel_rfl
theorem tbool_58 : tbool Try.prog 58 = false := by kernel_rfl
theorem tslc_58 : tslc Try.prog 58 = none := by kernel_rfl
theorem tarr_58 : tarr Try.prog 58 = none := by kernel_rfl
theorem tby_58 : tby Try.prog 58 = some 8 := by kernel_rfl
theorem tzr_58 : tzr Try.prog 58 = some [.raw .nilFunc] := by kernel_rfl
theorem tsz_59 : tsz Try.prog 59 = some 1 := by kernel_rfl
theorem tag_59 : tag Try.prog 59 = some false := by kernel_rfl
theorem tcon_59 : tcon Try.prog 59 = true := by kernel_rfl
theorem tstr_59 : tstr Try.prog 59 = false := by kernel_rfl
theorem tbool_59 : tbool Try.prog 59 = false := by kernel_rfl
theorem tslc_59 : tslc Try.prog 59 = none := by kernel_rfl
theorem tarr_59 : tarr Try.prog 59 = none := by kernel_rfl
theorem tby_59 : tby Try.prog 59 = some 8 := by kernel_rfl
theorem tzr_59 : tzr Try.prog 59 = some [.raw .nilFunc] := by kernel_rfl
theorem tsz_60 : tsz Try.prog 60 = some 4 := by kernel_rfl
theorem tag_60 : tag Try.prog 60 = some true := by kernel_rfl
theorem tcon_60 : tcon Try.prog 60 = true := by kernel_rfl
theorem tstr_60 : tstr Try.prog 60 = false := by kernel_rfl
theorem tbool_60 : tbool Try.prog 60 = false := by kernel_rfl
theorem tslc_60 : tslc Try.prog 60 = none := by kernel_rfl
theorem tarr_60 : tarr Try.prog 60 = none := by kernel_rfl
theorem tby_60 : tby Try.prog 60 = some 56 := by kernel_rfl
theorem tzr_60 : tzr Try.prog 60 = some [.d (.str ⟨#[]⟩), .d (.int .i64 0), .d (.int .i64 0), .clip []] := by kernel_rfl
theorem tfld_60_0 : tfld Try.prog 60 0 = some (0, 1, 9) := by kernel_rfl
theorem place_60_0 : place Try.prog 60 0 = some (0, 1) := by kernel_rfl
theorem tfld_60_1 : tfld Try.prog 60 1 = some (1, 3, 26) := by kernel_rfl
theorem place_60_1 : place Try.prog 60 1 = some (1, 3) := by kernel_rfl
theorem tbld_60 : tbld Try.prog 60 = true := by kernel_rfl
theorem tsz_61 : tsz Try.prog 61 = some 4 := by kernel_rfl
theorem tag_61 : tag Try.prog 61 = some true := by kernel_rfl
theorem tcon_61 : tcon Try.prog 61 = true := by kernel_rfl
theorem tstr_61 : tstr Try.prog 61 = false := by kernel_rfl
theorem tbool_61 : tbool Try.prog 61 = false := by kernel_rfl
theorem tslc_61 : tslc Try.prog 61 = none := by kernel_rfl
theorem tarr_61 : tarr Try.prog 61 = none := by kernel_rfl
theorem tby_61 : tby Try.prog 61 = some 56 := by kernel_rfl
theorem tzr_61 : tzr Try.prog 61 = some [.d (.str ⟨#[]⟩), .d (.int .i64 0), .d (.int .i64 0), .clip []] := by kernel_rfl
theorem tfld_61_0 : tfld Try.prog 61 0 = some (0, 1, 9) := by kernel_rfl
theorem place_61_0 : place Try.prog 61 0 = some (0, 1) := by kernel_rfl
theorem tfld_61_1 : tfld Try.prog 61 1 = some (1, 3, 26) := by kernel_rfl
theorem place_61_1 : place Try.prog 61 1 = some (1, 3) := by kernel_rfl
theorem tbld_61 : tbld Try.prog 61 = true := by kernel_rfl
theorem tsz_62 : tsz Try.prog 62 = some 1 := by kernel_rfl
theorem tag_62 : tag Try.prog 62 = some false := by kernel_rfl
theorem tcon_62 : tcon Try.prog 62 = true := by kernel_rfl
theorem tstr_62 : tstr Try.prog 62 = false := by kernel_rfl
theorem tbool_62 : tbool Try.prog 62 = false := by kernel_rfl
theorem tslc_62 : tslc Try.prog 62 = none := by kernel_rfl
theorem tarr_62 : tarr Try.prog 62 = none := by kernel_rfl
theorem tby_62 : tby Try.prog 62 = some 8 := by kernel_rfl
theorem tzr_62 : tzr Try.prog 62 = some [.raw .nilFunc] := by kernel_rfl
theorem tsz_63 : tsz Try.prog 63 = some 1 := by kernel_rfl
theorem tag_63 : tag Try.prog 63 = some false := by kernel_rfl
theorem tcon_63 : tcon Try.prog 63 = true := by kernel_rfl
theorem tstr_63 : tstr Try.prog 63 = false := by kernel_rfl
theorem tbool_63 : tbool Try.prog 63 = false := by kernel_rfl
theorem tslc_63 : tslc Try.prog 63 = none := by kernel_rfl
theorem tarr_63 : tarr Try.prog 63 = none := by kernel_rfl
theorem tby_63 : tby Try.prog 63 = some 8 := by kernel_rfl
theorem tzr_63 : tzr Try.prog 63 = some [.raw .nilFunc] := by kernel_rfl
theorem tsz_64 : tsz Try.prog 64 = some 1 := by kernel_rfl
theorem tag_64 : tag Try.prog 64 = some false := by kernel_rfl
theorem tcon_64 : tcon Try.prog 64 = true := by kernel_rfl
theorem tstr_64 : tstr Try.prog 64 = false := by kernel_rfl
theorem tbool_64 : tbool Try.prog 64 = false := by kernel_rfl
theorem tslc_64 : tslc Try.prog 64 = none := by kernel_rfl
theorem tarr_64 : tarr Try.prog 64 = none := by kernel_rfl
theorem tby_64 : tby Try.prog 64 = some 8 := by kernel_rfl
theorem tzr_64 : tzr Try.prog 64 = some [.raw .nilFunc] := by kernel_rfl
theorem tsz_65 : tsz Try.prog 65 = some 1 := by kernel_rfl
theorem tag_65 : tag Try.prog 65 = some false := by kernel_rfl
theorem tcon_65 : tcon Try.prog 65 = true := by kernel_rfl
theorem tstr_65 : tstr Try.prog 65 = false := by kernel_rfl
theorem tbool_65 : tbool Try.prog 65 = false := by kernel_rfl
theorem tslc_65 : tslc Try.prog 65 = none := by kernel_rfl
theorem tarr_65 : tarr Try.prog 65 = none := by kernel_rfl
theorem tby_65 : tby Try.prog 65 = some 8 := by kernel_rfl
theorem tzr_65 : tzr Try.prog 65 = some [.raw .nilFunc] := by kernel_rfl
theorem tsz_66 : tsz Try.prog 66 = some 1 := by kernel_rfl
theorem tag_66 : tag Try.prog 66 = some false := by kernel_rfl
theorem tcon_66 : tcon Try.prog 66 = true := by kernel_rfl
theorem tstr_66 : tstr Try.prog 66 = false := by kernel_rfl
theorem tbool_66 : tbool Try.prog 66 = false := by kernel_rfl
theorem tslc_66 : tslc Try.prog 66 = none := by kernel_rfl
theorem tarr_66 : tarr Try.prog 66 = none := by kernel_rfl
theorem tby_66 : tby Try.prog 66 = some 8 := by kernel_rfl
theorem tzr_66 : tzr Try.prog 66 = some [.raw .nilFunc] := by kernel_rfl
theorem tsz_67 : tsz Try.prog 67 = some 1 := by kernel_rfl
theorem tag_67 : tag Try.prog 67 = some false := by kernel_rfl
theorem tcon_67 : tcon Try.prog 67 = true := by kernel_rfl
theorem tstr_67 : tstr Try.prog 67 = false := by kernel_rfl
theorem tbool_67 : tbool Try.prog 67 = false := by kernel_rfl
theorem tslc_67 : tslc Try.prog 67 = none := by kernel_rfl
theorem tarr_67 : tarr Try.prog 67 = none := by kernel_rfl
theorem tby_67 : tby Try.prog 67 = some 8 := by kernel_rfl
theorem tzr_67 : tzr Try.prog 67 = some [.raw .nilFunc] := by kernel_rfl
theorem tsz_68 : tsz Try.prog 68 = some 1 := by kernel_rfl
theorem tag_68 : tag Try.prog 68 = some false := by kernel_rfl
theorem tcon_68 : tcon Try.prog 68 = true := by kernel_rfl
theorem tstr_68 : tstr Try.prog 68 = false := by kernel_rfl
theorem tbool_68 : tbool Try.prog 68 = false := by kernel_rfl
theorem tslc_68 : tslc Try.prog 68 = none := by kernel_rfl
theorem tarr_68 : tarr Try.prog 68 = none := by kernel_rfl
theorem tby_68 : tby Try.prog 68 = some 8 := by kernel_rfl
theorem tzr_68 : tzr Try.prog 68 = some [.raw .nilFunc] := by kernel_rfl
theorem tsz_69 : tsz Try.prog 69 = some 1 := by kernel_rfl
theorem tag_69 : tag Try.prog 69 = some false := by kernel_rfl
theorem tcon_69 : tcon Try.prog 69 = true := by kernel_rfl
theorem tstr_69 : tstr Try.prog 69 = false := by kernel_rfl
theorem tbool_69 : tbool Try.prog 69 = false := by kernel_rfl
theorem tslc_69 : tslc Try.prog 69 = none := by kernel_rfl
theorem tarr_69 : tarr Try.prog 69 = none := by kernel_rfl
theorem tby_69 : tby Try.prog 69 = some 8 := by kernel_rfl
theorem tzr_69 : tzr Try.prog 69 = some [.raw .nilFunc] := by kernel_rfl
theorem tsz_70 : tsz Try.prog 70 = some 3 := by kernel_rfl
theorem tag_70 : tag Try.prog 70 = some true := by kernel_rfl
theorem tcon_70 : tcon Try.prog 70 = true := by kernel_rfl
theorem tstr_70 : tstr Try.prog 70 = false := by kernel_rfl
theorem tbool_70 : tbool Try.prog 70 = false := by kernel_rfl
theorem tslc_70 : tslc Try.prog 70 = none := by kernel_rfl
theorem tarr_70 : tarr Try.prog 70 = none := by kernel_rfl
theorem tby_70 : tby Try.prog 70 = some 72 := by kernel_rfl
theorem tzr_70 : tzr Try.prog 70 = some [.clip [], .clip [], .clip []] := by kernel_rfl
theorem tfld_70_0 : tfld Try.prog 70 0 = some (0, 1, 22) := by kernel_rfl
theorem place_70_0 : place Try.prog 70 0 = some (0, 1) := by kernel_rfl
theorem tfld_70_1 : tfld Try.prog 70 1 = some (1, 1, 23) := by kernel_rfl
theorem place_70_1 : place Try.prog 70 1 = some (1, 1) := by kernel_rfl
theorem tfld_70_2 : tfld Try.prog 70 2 = some (2, 1, 24) := by kernel_rfl
theorem place_70_2 : place Try.prog 70 2 = some (2, 1) := by kernel_rfl
theorem tbld_70 : tbld Try.prog 70 = true := by kernel_rfl
theorem tsz_71 : tsz Try.prog 71 = some 3 := by kernel_rfl
theorem tag_71 : tag Try.prog 71 = some true := by kernel_rfl
theorem tcon_71 : tcon Try.prog 71 = true := by kernel_rfl
theorem tstr_71 : tstr Try.prog 71 = false := by kernel_rfl
theorem tbool_71 : tbool Try.prog 71 = false := by kernel_rfl
theorem tslc_71 : tslc Try.prog 71 = none := by kernel_rfl
theorem tarr_71 : tarr Try.prog 71 = none := by kernel_rfl
theorem tby_71 : tby Try.prog 71 = some 72 := by kernel_rfl
theorem tzr_71 : tzr Try.prog 71 = some [.clip [], .clip [], .clip []] := by kernel_rfl
theorem tfld_71_0 : tfld Try.prog 71 0 = some (0, 1, 22) := by kernel_rfl
theorem place_71_0 : place Try.prog 71 0 = some (0, 1) := by kernel_rfl
theorem tfld_71_1 : tfld Try.prog 71 1 = some (1, 1, 23) := by kernel_rfl
theorem place_71_1 : place Try.prog 71 1 = some (1, 1) := by kernel_rfl
theorem tfld_71_2 : tfld Try.prog 71 2 = some (2, 1, 24) := by kernel_rfl
theorem place_71_2 : place Try.prog 71 2 = some (2, 1) := by kernel_rfl
theorem tbld_71 : tbld Try.prog 71 = true := by kernel_rfl
theorem tsz_72 : tsz Try.prog 72 = some 1 := by kernel_rfl
theorem tag_72 : tag Try.prog 72 = some false := by kernel_rfl
theorem tcon_72 : tcon Try.prog 72 = true := by kernel_rfl
theorem tstr_72 : tstr Try.prog 72 = false := by kernel_rfl
theorem tbool_72 : tbool Try.prog 72 = false := by kernel_rfl
theorem tslc_72 : tslc Try.prog 72 = none := by kernel_rfl
theorem tarr_72 : tarr Try.prog 72 = none := by kernel_rfl
theorem tby_72 : tby Try.prog 72 = some 8 := by kernel_rfl
theorem tzr_72 : tzr Try.prog 72 = some [.raw .nilFunc] := by kernel_rfl
theorem tsz_73 : tsz Try.prog 73 = some 1 := by kernel_rfl
theorem tag_73 : tag Try.prog 73 = some false := by kernel_rfl
theorem tcon_73 : tcon Try.prog 73 = true := by kernel_rfl
theorem tstr_73 : tstr Try.prog 73 = false := by kernel_rfl
theorem tbool_73 : tbool Try.prog 73 = false := by kernel_rfl
theorem tslc_73 : tslc Try.prog 73 = none := by kernel_rfl
theorem tarr_73 : tarr Try.prog 73 = none := by kernel_rfl
theorem tby_73 : tby Try.prog 73 = some 8 := by kernel_rfl
theorem tzr_73 : tzr Try.prog 73 = some [.raw .nilFunc] := by kernel_rfl
theorem tsz_74 : tsz Try.prog 74 = some 1 := by kernel_rfl
theorem tag_74 : tag Try.prog 74 = some false := by kernel_rfl
theorem tcon_74 : tcon Try.prog 74 = true := by kernel_rfl
theorem tstr_74 : tstr Try.prog 74 = false := by kernel_rfl
theorem tbool_74 : tbool Try.prog 74 = false := by kernel_rfl
theorem tslc_74 : tslc Try.prog 74 = none := by kernel_rfl
theorem tarr_74 : tarr Try.prog 74 = none := by kernel_rfl
theorem tby_74 : tby Try.prog 74 = some 8 := by kernel_rfl
theorem tzr_74 : tzr Try.prog 74 = some [.raw .nilFunc] := by kernel_rfl
theorem tsz_75 : tsz Try.prog 75 = some 1 := by kernel_rfl
theorem tag_75 : tag Try.prog 75 = some false := by kernel_rfl
theorem tcon_75 : tcon Try.prog 75 = true := by kernel_rfl
theorem tstr_75 : tstr Try.prog 75 = false := by kernel_rfl
theorem tbool_75 : tbool Try.prog 75 = false := by kernel_rfl
theorem tslc_75 : tslc Try.prog 75 = none := by kernel_rfl
theorem tarr_75 : tarr Try.prog 75 = none := by kernel_rfl
theorem tby_75 : tby Try.prog 75 = some 8 := by kernel_rfl
theorem tzr_75 : tzr Try.prog 75 = some [.raw .nilFunc] := by kernel_rfl
theorem tsz_76 : tsz Try.prog 76 = some 1 := by kernel_rfl
theorem tag_76 : tag Try.prog 76 = some false := by kernel_rfl
theorem tcon_76 : tcon Try.prog 76 = true := by kernel_rfl
theorem tstr_76 : tstr Try.prog 76 = false := by kernel_rfl
theorem tbool_76 : tbool Try.prog 76 = false := by kernel_rfl
theorem tslc_76 : tslc Try.prog 76 = none := by kernel_rfl
theorem tarr_76 : tarr Try.prog 76 = none := by kernel_rfl
theorem tby_76 : tby Try.prog 76 = some 8 := by kernel_rfl
theorem tzr_76 : tzr Try.prog 76 = some [.raw .nilFunc] := by kernel_rfl
theorem tsz_77 : tsz Try.prog 77 = some 1 := by kernel_rfl
theorem tag_77 : tag Try.prog 77 = some false := by kernel_rfl
theorem tcon_77 : tcon Try.prog 77 = true := by kernel_rfl
theorem tstr_77 : tstr Try.prog 77 = false := by kernel_rfl
theorem tbool_77 : tbool Try.prog 77 = false := by kernel_rfl
theorem tslc_77 : tslc Try.prog 77 = none := by kernel_rfl
theorem tarr_77 : tarr Try.prog 77 = none := by kernel_rfl
theorem tby_77 : tby Try.prog 77 = some 8 := by kernel_rfl
theorem tzr_77 : tzr Try.prog 77 = some [.raw .nilFunc] := by kernel_rfl
theorem tsz_78 : tsz Try.prog 78 = some 1 := by kernel_rfl
theorem tag_78 : tag Try.prog 78 = some false := by kernel_rfl
theorem tcon_78 : tcon Try.prog 78 = true := by kernel_rfl
theorem tstr_78 : tstr Try.prog 78 = false := by kernel_rfl
theorem tbool_78 : tbool Try.prog 78 = false := by kernel_rfl
theorem tslc_78 : tslc Try.prog 78 = none := by kernel_rfl
theorem tarr_78 : tarr Try.prog 78 = none := by kernel_rfl
theorem tby_78 : tby Try.prog 78 = some 8 := by kernel_rfl
theorem tzr_78 : tzr Try.prog 78 = some [.raw .nilFunc] := by kernel_rfl
theorem tsz_79 : tsz Try.prog 79 = some 1 := by kernel_rfl
theorem tag_79 : tag Try.prog 79 = some false := by kernel_rfl
theorem tcon_79 : tcon Try.prog 79 = true := by kernel_rfl
theorem tstr_79 : tstr Try.prog 79 = false := by kernel_rfl
theorem tbool_79 : tbool Try.prog 79 = false := by kernel_rfl
theorem tslc_79 : tslc Try.prog 79 = none := by kernel_rfl
theorem tarr_79 : tarr Try.prog 79 = none := by kernel_rfl
theorem tby_79 : tby Try.prog 79 = some 8 := by kernel_rfl
theorem tzr_79 : tzr Try.prog 79 = some [.raw .nilFunc] := by kernel_rfl
theorem tsz_80 : tsz Try.prog 80 = some 1 := by kernel_rfl
theorem tag_80 : tag Try.prog 80 = some false := by kernel_rfl
theorem tcon_80 : tcon Try.prog 80 = true := by kernel_rfl
theorem tstr_80 : tstr Try.prog 80 = false := by kernel_rfl
theorem tbool_80 : tbool Try.prog 80 = false := by kernel_rfl
theorem tslc_80 : tslc Try.prog 80 = none := by kernel_rfl
theorem tarr_80 : tarr Try.prog 80 = none := by kernel_rfl
theorem tby_80 : tby Try.prog 80 = some 8 := by kernel_rfl
theorem tzr_80 : tzr Try.prog 80 = some [.raw .nilFunc] := by kernel_rfl
theorem tsz_81 : tsz Try.prog 81 = some 1 := by kernel_rfl
theorem tag_81 : tag Try.prog 81 = some false := by kernel_rfl
theorem tcon_81 : tcon Try.prog 81 = true := by kernel_rfl
theorem tstr_81 : tstr Try.prog 81 = false := by kernel_rfl
theorem tbool_81 : tbool Try.prog 81 = false := by kernel_rfl
theorem tslc_81 : tslc Try.prog 81 = none := by kernel_rfl
theorem tarr_81 : tarr Try.prog 81 = none := by kernel_rfl
theorem tby_81 : tby Try.prog 81 = some 8 := by kernel_rfl
theorem tzr_81 : tzr Try.prog 81 = some [.raw .nilFunc] := by kernel_rfl
theorem tsz_82 : tsz Try.prog 82 = some 2 := by kernel_rfl
theorem tag_82 : tag Try.prog 82 = some true := by kernel_rfl
theorem tcon_82 : tcon Try.prog 82 = true := by kernel_rfl
theorem tstr_82 : tstr Try.prog 82 = false := by kernel_rfl
theorem tbool_82 : tbool Try.prog 82 = false := by kernel_rfl
theorem tslc_82 : tslc Try.prog 82 = none := by kernel_rfl
theorem tarr_82 : tarr Try.prog 82 = none := by kernel_rfl
theorem tby_82 : tby Try.prog 82 = some 32 := by kernel_rfl
theorem tzr_82 : tzr Try.prog 82 = some [.clip [], .d (.int .i64 0)] := by kernel_rfl
theorem tfld_82_0 : tfld Try.prog 82 0 = some (0, 1, 24) := by kernel_rfl
theorem place_82_0 : place Try.prog 82 0 = some (0, 1) := by kernel_rfl
theorem tfld_82_1 : tfld Try.prog 82 1 = some (1, 1, 3) := by kernel_rfl
theorem place_82_1 : place Try.prog 82 1 = some (1, 1) := by kernel_rfl
theorem tbld_82 : tbld Try.prog 82 = true := by kernel_rfl
theorem tsz_83 : tsz Try.prog 83 = some 2 := by kernel_rfl
theorem tag_83 : tag Try.prog 83 = some true := by kernel_rfl
theorem tcon_83 : tcon Try.prog 83 = true := by kernel_rfl
theorem tstr_83 : tstr Try.prog 83 = false := by kernel_rfl
theorem tbool_83 : tbool Try.prog 83 = false := by kernel_rfl
theorem tslc_83 : tslc Try.prog 83 = none := by kernel_rfl
theorem tarr_83 : tarr Try.prog 83 = none := by kernel_rfl
theorem tby_83 : tby Try.prog 83 = some 32 := by kernel_rfl
theorem tzr_83 : tzr Try.prog 83 = some [.clip [], .d (.int .i64 0)] := by kernel_rfl
theorem tfld_83_0 : tfld Try.prog 83 0 = some (0, 1, 24) := by kernel_rfl
theorem place_83_0 : place Try.prog 83 0 = some (0, 1) := by kernel_rfl
theorem tfld_83_1 : tfld Try.prog 83 1 = some (1, 1, 3) := by kernel_rfl
theorem place_83_1 : place Try.prog 83 1 = some (1, 1) := by kernel_rfl
theorem tbld_83 : tbld Try.prog 83 = true := by kernel_rfl
theorem tsz_84 : tsz Try.prog 84 = some 1 := by kernel_rfl
theorem tag_84 : tag Try.prog 84 = some false := by kernel_rfl
theorem tcon_84 : tcon Try.prog 84 = true := by kernel_rfl
theorem tstr_84 : tstr Try.prog 84 = false := by kernel_rfl
theorem tbool_84 : tbool Try.prog 84 = false := by kernel_rfl
theorem tslc_84 : tslc Try.prog 84 = none := by kernel_rfl
theorem tarr_84 : tarr Try.prog 84 = none := by kernel_rfl
theorem tby_84 : tby Try.prog 84 = some 8 := by kernel_rfl
theorem tzr_84 : tzr Try.prog 84 = some [.raw .nilFunc] := by kernel_rfl
theorem tsz_85 : tsz Try.prog 85 = some 1 := by kernel_rfl
theorem tag_85 : tag Try.prog 85 = some false := by kernel_rfl
theorem tcon_85 : tcon Try.prog 85 = true := by kernel_rfl
theorem tstr_85 : tstr Try.prog 85 = false := by kernel_rfl
theorem tbool_85 : tbool Try.prog 85 = false := by kernel_rfl
theorem tslc_85 : tslc Try.prog 85 = none := by kernel_rfl
theorem tarr_85 : tarr Try.prog 85 = none := by kernel_rfl
theorem tby_85 : tby Try.prog 85 = some 8 := by kernel_rfl
theorem tzr_85 : tzr Try.prog 85 = some [.raw .nilFunc] := by kernel_rfl
theorem tsz_86 : tsz Try.prog 86 = some 1 := by kernel_rfl
theorem tag_86 : tag Try.prog 86 = some false := by kernel_rfl
theorem tcon_86 : tcon Try.prog 86 = true := by kernel_rfl
theorem tstr_86 : tstr Try.prog 86 = false := by kernel_rfl
theorem tbool_86 : tbool Try.prog 86 = false := by kernel_rfl
theorem tslc_86 : tslc Try.prog 86 = some 24 := by kernel_rfl
theorem tarr_86 : tarr Try.prog 86 = none := by kernel_rfl
theorem tby_86 : tby Try.prog 86 = some 24 := by kernel_rfl
theorem tzr_86 : tzr Try.prog 86 = some [.clip []] := by kernel_rfl
theorem tsz_87 : tsz Try.prog 87 = some 1 := by kernel_rfl
theorem tag_87 : tag Try.prog 87 = some false := by kernel_rfl
theorem tcon_87 : tcon Try.prog 87 = true := by kernel_rfl
theorem tstr_87 : tstr Try.prog 87 = false := by kernel_rfl
theorem tbool_87 : tbool Try.prog 87 = false := by kernel_rfl
theorem tslc_87 : tslc Try.prog 87 = none := by kernel_rfl
theorem tarr_87 : tarr Try.prog 87 = none := by kernel_rfl
theorem tby_87 : tby Try.prog 87 = some 8 := by kernel_rfl
theorem tzr_87 : tzr Try.prog 87 = some [.raw .nilFunc] := by kernel_rfl
theorem tsz_88 : tsz Try.prog 88 = some 1 := by kernel_rfl
theorem tag_88 : tag Try.prog 88 = some false := by kernel_rfl
theorem tcon_88 : tcon Try.prog 88 = true := by kernel_rfl
theorem tstr_88 : tstr Try.prog 88 = false := by kernel_rfl
theorem tbool_88 : tbool Try.prog 88 = false := by kernel_rfl
theorem tslc_88 : tslc Try.prog 88 = none := by kernel_rfl
theorem tarr_88 : tarr Try.prog 88 = none := by kernel_rfl
theorem tby_88 : tby Try.prog 88 = some 8 := by kernel_rfl
theorem tzr_88 : tzr Try.prog 88 = some [.raw .nilFunc] := by kernel_rfl
theorem tsz_89 : tsz Try.prog 89 = some 1 := by kernel_rfl
theorem tag_89 : tag Try.prog 89 = some false := by kernel_rfl
theorem tcon_89 : tcon Try.prog 89 = true := by kernel_rfl
theorem tstr_89 : tstr Try.prog 89 = false := by kernel_rfl
theorem tbool_89 : tbool Try.prog 89 = false := by kernel_rfl
theorem tslc_89 : tslc Try.prog 89 = none := by kernel_rfl
theorem tarr_89 : tarr Try.prog 89 = none := by kernel_rfl
theorem tby_89 : tby Try.prog 89 = some 8 := by kernel_rfl
theorem tzr_89 : tzr Try.prog 89 = some [.raw .nilFunc] := by kernel_rfl
theorem tsz_90 : tsz Try.prog 90 = some 1 := by kernel_rfl
theorem tag_90 : tag Try.prog 90 = some false := by kernel_rfl
theorem tcon_90 : tcon Try.prog 90 = true := by kernel_rfl
theorem tstr_90 : tstr Try.prog 90 = false := by kernel_rfl
theorem tbool_90 : tbool Try.prog 90 = false := by kernel_rfl
theorem tslc_90 : tslc Try.prog 90 = none := by kernel_rfl
theorem tarr_90 : tarr Try.prog 90 = none := by kernel_rfl
theorem tby_90 : tby Try.prog 90 = some 8 := by kernel_rfl
theorem tzr_90 : tzr Try.prog 90 = some [.raw .nilFunc] := by kernel_rfl
theorem tsz_91 : tsz Try.prog 91 = some 1 := by kernel_rfl
theorem tag_91 : tag Try.prog 91 = some false := by kernel_rfl
theorem tcon_91 : tcon Try.prog 91 = true := by kernel_rfl
theorem tstr_91 : tstr Try.prog 91 = false := by kernel_rfl
theorem tbool_91 : tbool Try.prog 91 = false := by kernel_rfl
theorem tslc_91 : tslc Try.prog 91 = none := by kernel_rfl
theorem tarr_91 : tarr Try.prog 91 = none := by kernel_rfl
theorem tby_91 : tby Try.prog 91 = some 8 := by kernel_rfl
theorem tzr_91 : tzr Try.prog 91 = some [.raw .nilFunc] := by kernel_rfl
theorem tsz_92 : tsz Try.prog 92 = some 1 := by kernel_rfl
theorem tag_92 : tag Try.prog 92 = some false := by kernel_rfl
theorem tcon_92 : tcon Try.prog 92 = true := by kernel_rfl
theorem tstr_92 : tstr Try.prog 92 = false := by kernel_rfl
theorem tbool_92 : tbool Try.prog 92 = false := by kernel_rfl
theorem tslc_92 : tslc Try.prog 92 = none := by kernel_rfl
theorem tarr_92 : tarr Try.prog 92 = none := by kernel_rfl
theorem tby_92 : tby Try.prog 92 = some 8 := by kernel_rfl
theorem tzr_92 : tzr Try.prog 92 = some [.raw .nilFunc] := by kernel_rfl
theorem tsz_93 : tsz Try.prog 93 = some 1 := by kernel_rfl
theorem tag_93 : tag Try.prog 93 = some false := by kernel_rfl
theorem tcon_93 : tcon Try.prog 93 = true := by kernel_rfl
theorem tstr_93 : tstr Try.prog 93 = false := by kernel_rfl
theorem tbool_93 : tbool Try.prog 93 = false := by kernel_rfl
theorem tslc_93 : tslc Try.prog 93 = none := by kernel_rfl
theorem tarr_93 : tarr Try.prog 93 = none := by kernel_rfl
theorem tby_93 : tby Try.prog 93 = some 8 := by kernel_rfl
theorem tzr_93 : tzr Try.prog 93 = some [.raw .nilFunc] := by kernel_rfl
theorem tsz_94 : tsz Try.prog 94 = some 1 := by kernel_rfl
theorem tag_94 : tag Try.prog 94 = some false := by kernel_rfl
theorem tcon_94 : tcon Try.prog 94 = true := by kernel_rfl
theorem tstr_94 : tstr Try.prog 94 = false := by kernel_rfl
theorem tbool_94 : tbool Try.prog 94 = false := by kernel_rfl
theorem tslc_94 : tslc Try.prog 94 = none := by kernel_rfl
theorem tarr_94 : tarr Try.prog 94 = none := by kernel_rfl
theorem tby_94 : tby Try.prog 94 = some 8 := by kernel_rfl
theorem tzr_94 : tzr Try.prog 94 = some [.raw .nilFunc] := by kernel_rfl
theorem tsz_95 : tsz Try.prog 95 = some 1 := by kernel_rfl
theorem tag_95 : tag Try.prog 95 = some false := by kernel_rfl
theorem tcon_95 : tcon Try.prog 95 = true := by kernel_rfl
theorem tstr_95 : tstr Try.prog 95 = false := by kernel_rfl
theorem tbool_95 : tbool Try.prog 95 = false := by kernel_rfl
theorem tslc_95 : tslc Try.prog 95 = none := by kernel_rfl
theorem tarr_95 : tarr Try.prog 95 = none := by kernel_rfl
theorem tby_95 : tby Try.prog 95 = some 8 := by kernel_rfl
theorem tzr_95 : tzr Try.prog 95 = some [.raw .nilFunc] := by kernel_rfl
theorem tsz_96 : tsz Try.prog 96 = some 1 := by kernel_rfl
theorem tag_96 : tag Try.prog 96 = some false := by kernel_rfl
theorem tcon_96 : tcon Try.prog 96 = true := by kernel_rfl
theorem tstr_96 : tstr Try.prog 96 = false := by kernel_rfl
theorem tbool_96 : tbool Try.prog 96 = false := by kernel_rfl
theorem tslc_96 : tslc Try.prog 96 = none := by kernel_rfl
theorem tarr_96 : tarr Try.prog 96 = none := by kernel_rfl
theorem tby_96 : tby Try.prog 96 = some 8 := by kernel_rfl
theorem tzr_96 : tzr Try.prog 96 = some [.raw .nilFunc] := by kernel_rfl
theorem tsz_97 : tsz Try.prog 97 = some 1 := by kernel_rfl
theorem tag_97 : tag Try.prog 97 = some false := by kernel_rfl
theorem tcon_97 : tcon Try.prog 97 = true := by kernel_rfl
theorem tstr_97 : tstr Try.prog 97 = false := by kernel_rfl
theorem tbool_97 : tbool Try.prog 97 = false := by kernel_rfl
theorem tslc_97 : tslc Try.prog 97 = none := by kernel_rfl
theorem tarr_97 : tarr Try.prog 97 = none := by kernel_rfl
theorem tby_97 : tby Try.prog 97 = some 8 := by kernel_rfl
theorem tzr_97 : tzr Try.prog 97 = some [.raw .nilFunc] := by kernel_rfl
theorem tsz_98 : tsz Try.prog 98 = some 1 := by kernel_rfl
theorem tag_98 : tag Try.prog 98 = some false := by kernel_rfl
theorem tcon_98 : tcon Try.prog 98 = true := by kernel_rfl
theorem tstr_98 : tstr Try.prog 98 = false := by kernel_rfl
theorem tbool_98 : tbool Try.prog 98 = false := by kernel_rfl
theorem tslc_98 : tslc Try.prog 98 = none := by kernel_rfl
theorem tarr_98 : tarr Try.prog 98 = none := by kernel_rfl
theorem tby_98 : tby Try.prog 98 = some 8 := by kernel_rfl
theorem tzr_98 : tzr Try.prog 98 = some [.raw .nilFunc] := by kernel_rfl
theorem tsz_99 : tsz Try.prog 99 = some 7 := by kernel_rfl
theorem tag_99 : tag Try.prog 99 = some true := by kernel_rfl
theorem tcon_99 : tcon Try.prog 99 = true := by kernel_rfl
theorem tstr_99 : tstr Try.prog 99 = false := by kernel_rfl
theorem tbool_99 : tbool Try.prog 99 = false := by kernel_rfl
theorem tslc_99 : tslc Try.prog 99 = none := by kernel_rfl
theorem tarr_99 : tarr Try.prog 99 = some (7, 97) := by kernel_rfl
theorem tby_99 : tby Try.prog 99 = some 56 := by kernel_rfl
theorem tzr_99 : tzr Try.prog 99 = some [.raw .nilFunc, .raw .nilFunc, .raw .nilFunc, .raw .nilFunc, .raw .nilFunc, .raw .nilFunc, .raw .nilFunc] := by kernel_rfl
theorem place_99_0 : place Try.prog 99 0 = some (0, 1) := by kernel_rfl
theorem place_99_1 : place Try.prog 99 1 = some (1, 1) := by kernel_rfl
theorem place_99_2 : place Try.prog 99 2 = some (2, 1) := by kernel_rfl
theorem place_99_3 : place Try.prog 99 3 = some (3, 1) := by kernel_rfl
theorem place_99_4 : place Try.prog 99 4 = some (4, 1) := by kernel_rfl
theorem place_99_5 : place Try.prog 99 5 = some (5, 1) := by kernel_rfl
theorem place_99_6 : place Try.prog 99 6 = some (6, 1) := by kernel_rfl
theorem tbld_99 : tbld Try.prog 99 = true := by kernel_rfl
theorem tsz_100 : tsz Try.prog 100 = some 1 := by kernel_rfl
theorem tag_100 : tag Try.prog 100 = some false := by kernel_rfl
theorem tcon_100 : tcon Try.prog 100 = true := by kernel_rfl
theorem tstr_100 : tstr Try.prog 100 = false := by kernel_rfl
theorem tbool_100 : tbool Try.prog 100 = false := by kernel_rfl
theorem tslc_100 : tslc Try.prog 100 = none := by kernel_rfl
theorem tarr_100 : tarr Try.prog 100 = none := by kernel_rfl
theorem tby_100 : tby Try.prog 100 = some 8 := by kernel_rfl
theorem tzr_100 : tzr Try.prog 100 = some [.raw .nilFunc] := by kernel_rfl
theorem tsz_101 : tsz Try.prog 101 = some 1 := by kernel_rfl
theorem tag_101 : tag Try.prog 101 = some false := by kernel_rfl
theorem tcon_101 : tcon Try.prog 101 = true := by kernel_rfl
theorem tstr_101 : tstr Try.prog 101 = false := by kernel_rfl
theorem tbool_101 : tbool Try.prog 101 = false := by kernel_rfl
theorem tslc_101 : tslc Try.prog 101 = none := by kernel_rfl
theorem tarr_101 : tarr Try.prog 101 = none := by kernel_rfl
theorem tby_101 : tby Try.prog 101 = some 8 := by kernel_rfl
theorem tzr_101 : tzr Try.prog 101 = some [.raw .nilFunc] := by kernel_rfl
theorem tsz_102 : tsz Try.prog 102 = some 1 := by kernel_rfl
theorem tag_102 : tag Try.prog 102 = some false := by kernel_rfl
theorem tcon_102 : tcon Try.prog 102 = true := by kernel_rfl
theorem tstr_102 : tstr Try.prog 102 = false := by kernel_rfl
theorem tbool_102 : tbool Try.prog 102 = false := by kernel_rfl
theorem tslc_102 : tslc Try.prog 102 = none := by kernel_rfl
theorem tarr_102 : tarr Try.prog 102 = none := by kernel_rfl
theorem tby_102 : tby Try.prog 102 = some 8 := by kernel_rfl
theorem tzr_102 : tzr Try.prog 102 = some [.raw .nilFunc] := by kernel_rfl
theorem tsz_103 : tsz Try.prog 103 = some 1 := by kernel_rfl
theorem tag_103 : tag Try.prog 103 = some false := by kernel_rfl
theorem tcon_103 : tcon Try.prog 103 = true := by kernel_rfl
theorem tstr_103 : tstr Try.prog 103 = false := by kernel_rfl
theorem tbool_103 : tbool Try.prog 103 = false := by kernel_rfl
theorem tslc_103 : tslc Try.prog 103 = none := by kernel_rfl
theorem tarr_103 : tarr Try.prog 103 = none := by kernel_rfl
theorem tby_103 : tby Try.prog 103 = some 8 := by kernel_rfl
theorem tzr_103 : tzr Try.prog 103 = some [.raw .nilFunc] := by kernel_rfl
theorem tsz_104 : tsz Try.prog 104 = some 1 := by kernel_rfl
theorem tag_104 : tag Try.prog 104 = some false := by kernel_rfl
theorem tcon_104 : tcon Try.prog 104 = true := by kernel_rfl
theorem tstr_104 : tstr Try.prog 104 = false := by kernel_rfl
theorem tbool_104 : tbool Try.prog 104 = false := by kernel_rfl
theorem tslc_104 : tslc Try.prog 104 = none := by kernel_rfl
theorem tarr_104 : tarr Try.prog 104 = none := by kernel_rfl
theorem tby_104 : tby Try.prog 104 = some 8 := by kernel_rfl
theorem tzr_104 : tzr Try.prog 104 = some [.raw .nilFunc] := by kernel_rfl
theorem tsz_105 : tsz Try.prog 105 = some 1 := by kernel_rfl
theorem tag_105 : tag Try.prog 105 = some false := by kernel_rfl
theorem tcon_105 : tcon Try.prog 105 = true := by kernel_rfl
theorem tstr_105 : tstr Try.prog 105 = false := by kernel_rfl
theorem tbool_105 : tbool Try.prog 105 = false := by kernel_rfl
theorem tslc_105 : tslc Try.prog 105 = none := by kernel_rfl
theorem tarr_105 : tarr Try.prog 105 = none := by kernel_rfl
theorem tby_105 : tby Try.prog 105 = some 8 := by kernel_rfl
theorem tzr_105 : tzr Try.prog 105 = some [.raw .nilFunc] := by kernel_rfl
theorem tsz_106 : tsz Try.prog 106 = some 1 := by kernel_rfl
theorem tag_106 : tag Try.prog 106 = some false := by kernel_rfl
theorem tcon_106 : tcon Try.prog 106 = true := by kernel_rfl
theorem tstr_106 : tstr Try.prog 106 = false := by kernel_rfl
theorem tbool_106 : tbool Try.prog 106 = false := by kernel_rfl
theorem tslc_106 : tslc Try.prog 106 = none := by kernel_rfl
theorem tarr_106 : tarr Try.prog 106 = none := by kernel_rfl
theorem tby_106 : tby Try.prog 106 = some 8 := by kernel_rfl
theorem tzr_106 : tzr Try.prog 106 = some [.raw .nilFunc] := by kernel_rfl
theorem tsz_107 : tsz Try.prog 107 = some 1 := by kernel_rfl
theorem tag_107 : tag Try.prog 107 = some false := by kernel_rfl
theorem tcon_107 : tcon Try.prog 107 = true := by kernel_rfl
theorem tstr_107 : tstr Try.prog 107 = false := by kernel_rfl
theorem tbool_107 : tbool Try.prog 107 = false := by kernel_rfl
theorem tslc_107 : tslc Try.prog 107 = none := by kernel_rfl
theorem tarr_107 : tarr Try.prog 107 = none := by kernel_rfl
theorem tby_107 : tby Try.prog 107 = some 8 := by kernel_rfl
theorem tzr_107 : tzr Try.prog 107 = some [.raw .nilFunc] := by kernel_rfl
theorem tsz_108 : tsz Try.prog 108 = some 1 := by kernel_rfl
theorem tag_108 : tag Try.prog 108 = some false := by kernel_rfl
theorem tcon_108 : tcon Try.prog 108 = true := by kernel_rfl
theorem tstr_108 : tstr Try.prog 108 = false := by kernel_rfl
theorem tbool_108 : tbool Try.prog 108 = false := by kernel_rfl
theorem tslc_108 : tslc Try.prog 108 = none := by kernel_rfl
theorem tarr_108 : tarr Try.prog 108 = none := by kernel_rfl
theorem tby_108 : tby Try.prog 108 = some 8 := by kernel_rfl
theorem tzr_108 : tzr Try.prog 108 = some [.raw .nilFunc] := by kernel_rfl
theorem tsz_109 : tsz Try.prog 109 = some 1 := by kernel_rfl
theorem tag_109 : tag Try.prog 109 = some false := by kernel_rfl
theorem tcon_109 : tcon Try.prog 109 = true := by kernel_rfl
theorem tstr_109 : tstr Try.prog 109 = false := by kernel_rfl
theorem tbool_109 : tbool Try.prog 109 = false := by kernel_rfl
theorem tslc_109 : tslc Try.prog 109 = none := by kernel_rfl
theorem tarr_109 : tarr Try.prog 109 = none := by kernel_rfl
theorem tby_109 : tby Try.prog 109 = some 8 := by kernel_rfl
theorem tzr_109 : tzr Try.prog 109 = some [.raw .nilFunc] := by kernel_rfl
theorem tsz_110 : tsz Try.prog 110 = some 1 := by kernel_rfl
theorem tag_110 : tag Try.prog 110 = some false := by kernel_rfl
theorem tcon_110 : tcon Try.prog 110 = true := by kernel_rfl
theorem tstr_110 : tstr Try.prog 110 = false := by kernel_rfl
theorem tbool_110 : tbool Try.prog 110 = false := by kernel_rfl
theorem tslc_110 : tslc Try.prog 110 = none := by kernel_rfl
theorem tarr_110 : tarr Try.prog 110 = none := by kernel_rfl
theorem tby_110 : tby Try.prog 110 = some 8 := by kernel_rfl
theorem tzr_110 : tzr Try.prog 110 = some [.raw .nilFunc] := by kernel_rfl
theorem tsz_111 : tsz Try.prog 111 = some 1 := by kernel_rfl
theorem tag_111 : tag Try.prog 111 = some false := by kernel_rfl
theorem tcon_111 : tcon Try.prog 111 = true := by kernel_rfl
theorem tstr_111 : tstr Try.prog 111 = false := by kernel_rfl
theorem tbool_111 : tbool Try.prog 111 = false := by kernel_rfl
theorem tslc_111 : tslc Try.prog 111 = none := by kernel_rfl
theorem tarr_111 : tarr Try.prog 111 = none := by kernel_rfl
theorem tby_111 : tby Try.prog 111 = some 8 := by kernel_rfl
theorem tzr_111 : tzr Try.prog 111 = some [.raw .nilFunc] := by kernel_rfl
theorem tsz_112 : tsz Try.prog 112 = some 1 := by kernel_rfl
theorem tag_112 : tag Try.prog 112 = some false := by kernel_rfl
theorem tcon_112 : tcon Try.prog 112 = true := by kernel_rfl
theorem tstr_112 : tstr Try.prog 112 = false := by kernel_rfl
theorem tbool_112 : tbool Try.prog 112 = false := by kernel_rfl
theorem tslc_112 : tslc Try.prog 112 = none := by kernel_rfl
theorem tarr_112 : tarr Try.prog 112 = none := by kernel_rfl
theorem tby_112 : tby Try.prog 112 = some 8 := by kernel_rfl
theorem tzr_112 : tzr Try.prog 112 = some [.raw .nilFunc] := by kernel_rfl
theorem tsz_113 : tsz Try.prog 113 = some 1 := by kernel_rfl
theorem tag_113 : tag Try.prog 113 = some false := by kernel_rfl
theorem tcon_113 : tcon Try.prog 113 = true := by kernel_rfl
theorem tstr_113 : tstr Try.prog 113 = false := by kernel_rfl
theorem tbool_113 : tbool Try.prog 113 = false := by kernel_rfl
theorem tslc_113 : tslc Try.prog 113 = none := by kernel_rfl
theorem tarr_113 : tarr Try.prog 113 = none := by kernel_rfl
theorem tby_113 : tby Try.prog 113 = some 8 := by kernel_rfl
theorem tzr_113 : tzr Try.prog 113 = some [.raw .nilFunc] := by kernel_rfl
theorem tsz_114 : tsz Try.prog 114 = some 1 := by kernel_rfl
theorem tag_114 : tag Try.prog 114 = some false := by kernel_rfl
theorem tcon_114 : tcon Try.prog 114 = true := by kernel_rfl
theorem tstr_114 : tstr Try.prog 114 = false := by kernel_rfl
theorem tbool_114 : tbool Try.prog 114 = false := by kernel_rfl
theorem tslc_114 : tslc Try.prog 114 = none := by kernel_rfl
theorem tarr_114 : tarr Try.prog 114 = none := by kernel_rfl
theorem tby_114 : tby Try.prog 114 = some 8 := by kernel_rfl
theorem tzr_114 : tzr Try.prog 114 = some [.raw (.pointer none)] := by kernel_rfl
theorem tsz_115 : tsz Try.prog 115 = some 1 := by kernel_rfl
theorem tag_115 : tag Try.prog 115 = some false := by kernel_rfl
theorem tcon_115 : tcon Try.prog 115 = true := by kernel_rfl
theorem tstr_115 : tstr Try.prog 115 = false := by kernel_rfl
theorem tbool_115 : tbool Try.prog 115 = false := by kernel_rfl
theorem tslc_115 : tslc Try.prog 115 = none := by kernel_rfl
theorem tarr_115 : tarr Try.prog 115 = none := by kernel_rfl
theorem tby_115 : tby Try.prog 115 = some 8 := by kernel_rfl
theorem tzr_115 : tzr Try.prog 115 = some [.raw .nilFunc] := by kernel_rfl
theorem tsz_116 : tsz Try.prog 116 = some 1 := by kernel_rfl
theorem tag_116 : tag Try.prog 116 = some false := by kernel_rfl
theorem tcon_116 : tcon Try.prog 116 = true := by kernel_rfl
theorem tstr_116 : tstr Try.prog 116 = false := by kernel_rfl
theorem tbool_116 : tbool Try.prog 116 = false := by kernel_rfl
theorem tslc_116 : tslc Try.prog 116 = none := by kernel_rfl
theorem tarr_116 : tarr Try.prog 116 = none := by kernel_rfl
theorem tby_116 : tby Try.prog 116 = some 8 := by kernel_rfl
theorem tzr_116 : tzr Try.prog 116 = some [.raw .nilFunc] := by kernel_rfl
theorem tsz_117 : tsz Try.prog 117 = some 1 := by kernel_rfl
theorem tag_117 : tag Try.prog 117 = some false := by kernel_rfl
theorem tcon_117 : tcon Try.prog 117 = true := by kernel_rfl
theorem tstr_117 : tstr Try.prog 117 = false := by kernel_rfl
theorem tbool_117 : tbool Try.prog 117 = false := by kernel_rfl
theorem tslc_117 : tslc Try.prog 117 = none := by kernel_rfl
theorem tarr_117 : tarr Try.prog 117 = none := by kernel_rfl
theorem tby_117 : tby Try.prog 117 = some 8 := by kernel_rfl
theorem tzr_117 : tzr Try.prog 117 = some [.raw .nilFunc] := by kernel_rfl
theorem tsz_118 : tsz Try.prog 118 = some 1 := by kernel_rfl
theorem tag_118 : tag Try.prog 118 = some false := by kernel_rfl
theorem tcon_118 : tcon Try.prog 118 = true := by kernel_rfl
theorem tstr_118 : tstr Try.prog 118 = false := by kernel_rfl
theorem tbool_118 : tbool Try.prog 118 = false := by kernel_rfl
theorem tslc_118 : tslc Try.prog 118 = none := by kernel_rfl
theorem tarr_118 : tarr Try.prog 118 = none := by kernel_rfl
theorem tby_118 : tby Try.prog 118 = some 8 := by kernel_rfl
theorem tzr_118 : tzr Try.prog 118 = some [.raw .nilFunc] := by kernel_rfl
theorem tsz_119 : tsz Try.prog 119 = some 1 := by kernel_rfl
theorem tag_119 : tag Try.prog 119 = some false := by kernel_rfl
theorem tcon_119 : tcon Try.prog 119 = true := by kernel_rfl
theorem tstr_119 : tstr Try.prog 119 = false := by kernel_rfl
theorem tbool_119 : tbool Try.prog 119 = false := by kernel_rfl
theorem tslc_119 : tslc Try.prog 119 = none := by kernel_rfl
theorem tarr_119 : tarr Try.prog 119 = none := by kernel_rfl
theorem tby_119 : tby Try.prog 119 = some 8 := by kernel_rfl
theorem tzr_119 : tzr Try.prog 119 = some [.raw .nilFunc] := by kernel_rfl
theorem tsz_121 : tsz Try.prog 121 = some 1 := by kernel_rfl
theorem tag_121 : tag Try.prog 121 = some false := by kernel_rfl
theorem tcon_121 : tcon Try.prog 121 = true := by kernel_rfl
theorem tstr_121 : tstr Try.prog 121 = false := by kernel_rfl
theorem tbool_121 : tbool Try.prog 121 = false := by kernel_rfl
theorem tslc_121 : tslc Try.prog 121 = none := by kernel_rfl
theorem tarr_121 : tarr Try.prog 121 = none := by kernel_rfl
theorem tby_121 : tby Try.prog 121 = some 8 := by kernel_rfl
theorem tzr_121 : tzr Try.prog 121 = some [.raw .nilFunc] := by kernel_rfl
theorem tsz_122 : tsz Try.prog 122 = some 1 := by kernel_rfl
theorem tag_122 : tag Try.prog 122 = some false := by kernel_rfl
theorem tcon_122 : tcon Try.prog 122 = true := by kernel_rfl
theorem tstr_122 : tstr Try.prog 122 = false := by kernel_rfl
theorem tbool_122 : tbool Try.prog 122 = false := by kernel_rfl
theorem tslc_122 : tslc Try.prog 122 = none := by kernel_rfl
theorem tarr_122 : tarr Try.prog 122 = none := by kernel_rfl
theorem tby_122 : tby Try.prog 122 = some 8 := by kernel_rfl
theorem tzr_122 : tzr Try.prog 122 = some [.raw .nilFunc] := by kernel_rfl
theorem tsz_123 : tsz Try.prog 123 = some 2 := by kernel_rfl
theorem tag_123 : tag Try.prog 123 = some true := by kernel_rfl
theorem tcon_123 : tcon Try.prog 123 = true := by kernel_rfl
theorem tstr_123 : tstr Try.prog 123 = false := by kernel_rfl
theorem tbool_123 : tbool Try.prog 123 = false := by kernel_rfl
theorem tslc_123 : tslc Try.prog 123 = none := by kernel_rfl
theorem tarr_123 : tarr Try.prog 123 = none := by kernel_rfl
theorem tby_123 : tby Try.prog 123 = some 16 := by kernel_rfl
theorem tzr_123 : tzr Try.prog 123 = some [.d (.int .i64 0), .d (.int .i64 0)] := by kernel_rfl
theorem tfld_123_0 : tfld Try.prog 123 0 = some (0, 1, 3) := by kernel_rfl
theorem place_123_0 : place Try.prog 123 0 = some (0, 1) := by kernel_rfl
theorem tfld_123_1 : tfld Try.prog 123 1 = some (1, 1, 3) := by kernel_rfl
theorem place_123_1 : place Try.prog 123 1 = some (1, 1) := by kernel_rfl
theorem tbld_123 : tbld Try.prog 123 = true := by kernel_rfl
theorem tsz_124 : tsz Try.prog 124 = some 2 := by kernel_rfl
theorem tag_124 : tag Try.prog 124 = some true := by kernel_rfl
theorem tcon_124 : tcon Try.prog 124 = true := by kernel_rfl
theorem tstr_124 : tstr Try.prog 124 = false := by kernel_rfl
theorem tbool_124 : tbool Try.prog 124 = false := by kernel_rfl
theorem tslc_124 : tslc Try.prog 124 = none := by kernel_rfl
theorem tarr_124 : tarr Try.prog 124 = none := by kernel_rfl
theorem tby_124 : tby Try.prog 124 = some 16 := by kernel_rfl
theorem tzr_124 : tzr Try.prog 124 = some [.d (.int .i64 0), .d (.int .i64 0)] := by kernel_rfl
theorem tfld_124_0 : tfld Try.prog 124 0 = some (0, 1, 3) := by kernel_rfl
theorem place_124_0 : place Try.prog 124 0 = some (0, 1) := by kernel_rfl
theorem tfld_124_1 : tfld Try.prog 124 1 = some (1, 1, 3) := by kernel_rfl
theorem place_124_1 : place Try.prog 124 1 = some (1, 1) := by kernel_rfl
theorem tbld_124 : tbld Try.prog 124 = true := by kernel_rfl
theorem tsz_126 : tsz Try.prog 126 = some 1 := by kernel_rfl
theorem tag_126 : tag Try.prog 126 = some true := by kernel_rfl
theorem tcon_126 : tcon Try.prog 126 = true := by kernel_rfl
theorem tstr_126 : tstr Try.prog 126 = false := by kernel_rfl
theorem tbool_126 : tbool Try.prog 126 = false := by kernel_rfl
theorem tslc_126 : tslc Try.prog 126 = none := by kernel_rfl
theorem tarr_126 : tarr Try.prog 126 = none := by kernel_rfl
theorem tby_126 : tby Try.prog 126 = some 8 := by kernel_rfl
theorem tzr_126 : tzr Try.prog 126 = some [.d (.int .i64 0)] := by kernel_rfl
theorem tfld_126_0 : tfld Try.prog 126 0 = some (0, 1, 3) := by kernel_rfl
theorem place_126_0 : place Try.prog 126 0 = some (0, 1) := by kernel_rfl
theorem tbld_126 : tbld Try.prog 126 = true := by kernel_rfl
theorem tsz_127 : tsz Try.prog 127 = some 1 := by kernel_rfl
theorem tag_127 : tag Try.prog 127 = some true := by kernel_rfl
theorem tcon_127 : tcon Try.prog 127 = true := by kernel_rfl
theorem tstr_127 : tstr Try.prog 127 = false := by kernel_rfl
theorem tbool_127 : tbool Try.prog 127 = false := by kernel_rfl
theorem tslc_127 : tslc Try.prog 127 = none := by kernel_rfl
theorem tarr_127 : tarr Try.prog 127 = none := by kernel_rfl
theorem tby_127 : tby Try.prog 127 = some 8 := by kernel_rfl
theorem tzr_127 : tzr Try.prog 127 = some [.d (.int .i64 0)] := by kernel_rfl
theorem tfld_127_0 : tfld Try.prog 127 0 = some (0, 1, 3) := by kernel_rfl
theorem place_127_0 : place Try.prog 127 0 = some (0, 1) := by kernel_rfl
theorem tbld_127 : tbld Try.prog 127 = true := by kernel_rfl
theorem tsz_128 : tsz Try.prog 128 = some 1 := by kernel_rfl
theorem tag_128 : tag Try.prog 128 = some false := by kernel_rfl
theorem tcon_128 : tcon Try.prog 128 = true := by kernel_rfl
theorem tstr_128 : tstr Try.prog 128 = false := by kernel_rfl
theorem tbool_128 : tbool Try.prog 128 = false := by kernel_rfl
theorem tslc_128 : tslc Try.prog 128 = none := by kernel_rfl
theorem tarr_128 : tarr Try.prog 128 = none := by kernel_rfl
theorem tby_128 : tby Try.prog 128 = some 8 := by kernel_rfl
theorem tzr_128 : tzr Try.prog 128 = some [.raw .nilFunc] := by kernel_rfl
theorem tsz_129 : tsz Try.prog 129 = some 1 := by kernel_rfl
theorem tag_129 : tag Try.prog 129 = some false := by kernel_rfl
theorem tcon_129 : tcon Try.prog 129 = true := by kernel_rfl
theorem tstr_129 : tstr Try.prog 129 = false := by kernel_rfl
theorem tbool_129 : tbool Try.prog 129 = false := by kernel_rfl
theorem tslc_129 : tslc Try.prog 129 = none := by kernel_rfl
theorem tarr_129 : tarr Try.prog 129 = none := by kernel_rfl
theorem tby_129 : tby Try.prog 129 = some 8 := by kernel_rfl
theorem tzr_129 : tzr Try.prog 129 = some [.raw .nilFunc] := by kernel_rfl
theorem tsz_130 : tsz Try.prog 130 = some 1 := by kernel_rfl
theorem tag_130 : tag Try.prog 130 = some false := by kernel_rfl
theorem tcon_130 : tcon Try.prog 130 = true := by kernel_rfl
theorem tstr_130 : tstr Try.prog 130 = false := by kernel_rfl
theorem tbool_130 : tbool Try.prog 130 = false := by kernel_rfl
theorem tslc_130 : tslc Try.prog 130 = none := by kernel_rfl
theorem tarr_130 : tarr Try.prog 130 = none := by kernel_rfl
theorem tby_130 : tby Try.prog 130 = some 8 := by kernel_rfl
theorem tzr_130 : tzr Try.prog 130 = some [.raw .nilFunc] := by kernel_rfl
theorem tsz_131 : tsz Try.prog 131 = some 1 := by kernel_rfl
theorem tag_131 : tag Try.prog 131 = some false := by kernel_rfl
theorem tcon_131 : tcon Try.prog 131 = true := by kernel_rfl
theorem tstr_131 : tstr Try.prog 131 = false := by kernel_rfl
theorem tbool_131 : tbool Try.prog 131 = false := by kernel_rfl
theorem tslc_131 : tslc Try.prog 131 = none := by kernel_rfl
theorem tarr_131 : tarr Try.prog 131 = none := by kernel_rfl
theorem tby_131 : tby Try.prog 131 = some 8 := by kernel_rfl
theorem tzr_131 : tzr Try.prog 131 = some [.raw .nilFunc] := by kernel_rfl
theorem tsz_132 : tsz Try.prog 132 = some 1 := by kernel_rfl
theorem tag_132 : tag Try.prog 132 = some false := by kernel_rfl
theorem tcon_132 : tcon Try.prog 132 = true := by kernel_rfl
theorem tstr_132 : tstr Try.prog 132 = false := by kernel_rfl
theorem tbool_132 : tbool Try.prog 132 = false := by kernel_rfl
theorem tslc_132 : tslc Try.prog 132 = none := by kernel_rfl
theorem tarr_132 : tarr Try.prog 132 = none := by kernel_rfl
theorem tby_132 : tby Try.prog 132 = some 8 := by kernel_rfl
theorem tzr_132 : tzr Try.prog 132 = some [.raw .nilFunc] := by kernel_rfl
theorem tsz_135 : tsz Try.prog 135 = some 1 := by kernel_rfl
theorem tag_135 : tag Try.prog 135 = some false := by kernel_rfl
theorem tcon_135 : tcon Try.prog 135 = true := by kernel_rfl
theorem tstr_135 : tstr Try.prog 135 = false := by kernel_rfl
theorem tbool_135 : tbool Try.prog 135 = false := by kernel_rfl
theorem tslc_135 : tslc Try.prog 135 = none := by kernel_rfl
theorem tarr_135 : tarr Try.prog 135 = none := by kernel_rfl
theorem tby_135 : tby Try.prog 135 = some 8 := by kernel_rfl
theorem tzr_135 : tzr Try.prog 135 = some [.raw .nilFunc] := by kernel_rfl
theorem tsz_136 : tsz Try.prog 136 = some 1 := by kernel_rfl
theorem tag_136 : tag Try.prog 136 = some false := by kernel_rfl
theorem tcon_136 : tcon Try.prog 136 = true := by kernel_rfl
theorem tstr_136 : tstr Try.prog 136 = false := by kernel_rfl
theorem tbool_136 : tbool Try.prog 136 = false := by kernel_rfl
theorem tslc_136 : tslc Try.prog 136 = none := by kernel_rfl
theorem tarr_136 : tarr Try.prog 136 = none := by kernel_rfl
theorem tby_136 : tby Try.prog 136 = some 8 := by kernel_rfl
theorem tzr_136 : tzr Try.prog 136 = some [.raw .nilFunc] := by kernel_rfl
theorem tsz_137 : tsz Try.prog 137 = some 1 := by kernel_rfl
theorem tag_137 : tag Try.prog 137 = some false := by kernel_rfl
theorem tcon_137 : tcon Try.prog 137 = true := by kernel_rfl
theorem tstr_137 : tstr Try.prog 137 = false := by kernel_rfl
theorem tbool_137 : tbool Try.prog 137 = false := by kernel_rfl
theorem tslc_137 : tslc Try.prog 137 = none := by kernel_rfl
theorem tarr_137 : tarr Try.prog 137 = none := by kernel_rfl
theorem tby_137 : tby Try.prog 137 = some 8 := by kernel_rfl
theorem tzr_137 : tzr Try.prog 137 = some [.raw .nilFunc] := by kernel_rfl
theorem tsz_143 : tsz Try.prog 143 = some 1 := by kernel_rfl
theorem tag_143 : tag Try.prog 143 = some false := by kernel_rfl
theorem tcon_143 : tcon Try.prog 143 = true := by kernel_rfl
theorem tstr_143 : tstr Try.prog 143 = false := by kernel_rfl
theorem tbool_143 : tbool Try.prog 143 = false := by kernel_rfl
theorem tslc_143 : tslc Try.prog 143 = none := by kernel_rfl
theorem tarr_143 : tarr Try.prog 143 = none := by kernel_rfl
theorem tby_143 : tby Try.prog 143 = some 8 := by kernel_rfl
theorem tzr_143 : tzr Try.prog 143 = some [.raw .nilFunc] := by kernel_rfl
theorem tsz_144 : tsz Try.prog 144 = some 1 := by kernel_rfl
theorem tag_144 : tag Try.prog 144 = some false := by kernel_rfl
theorem tcon_144 : tcon Try.prog 144 = true := by kernel_rfl
theorem tstr_144 : tstr Try.prog 144 = false := by kernel_rfl
theorem tbool_144 : tbool Try.prog 144 = false := by kernel_rfl
theorem tslc_144 : tslc Try.prog 144 = none := by kernel_rfl
theorem tarr_144 : tarr Try.prog 144 = none := by kernel_rfl
theorem tby_144 : tby Try.prog 144 = some 4 := by kernel_rfl
theorem tzr_144 : tzr Try.prog 144 = some [.d (.int .u32 0)] := by kernel_rfl
theorem tsz_147 : tsz Try.prog 147 = some 1 := by kernel_rfl
theorem tag_147 : tag Try.prog 147 = some false := by kernel_rfl
theorem tcon_147 : tcon Try.prog 147 = true := by kernel_rfl
theorem tstr_147 : tstr Try.prog 147 = false := by kernel_rfl
theorem tbool_147 : tbool Try.prog 147 = false := by kernel_rfl
theorem tslc_147 : tslc Try.prog 147 = none := by kernel_rfl
theorem tarr_147 : tarr Try.prog 147 = none := by kernel_rfl
theorem tby_147 : tby Try.prog 147 = some 8 := by kernel_rfl
theorem tzr_147 : tzr Try.prog 147 = some [.raw .nilFunc] := by kernel_rfl
theorem tsz_148 : tsz Try.prog 148 = some 1 := by kernel_rfl
theorem tag_148 : tag Try.prog 148 = some false := by kernel_rfl
theorem tcon_148 : tcon Try.prog 148 = true := by kernel_rfl
theorem tstr_148 : tstr Try.prog 148 = false := by kernel_rfl
theorem tbool_148 : tbool Try.prog 148 = false := by kernel_rfl
theorem tslc_148 : tslc Try.prog 148 = none := by kernel_rfl
theorem tarr_148 : tarr Try.prog 148 = none := by kernel_rfl
theorem tby_148 : tby Try.prog 148 = some 8 := by kernel_rfl
theorem tzr_148 : tzr Try.prog 148 = some [.raw (.pointer none)] := by kernel_rfl
def escT : Nat → List Nat
  | 12 => [1]
  | 13 => [2, 4, 5]
  | 14 => [4, 5, 6, 9]
  | 17 => [5, 6, 7, 8, 10]
  | 18 => [4, 5]
  | 32 => [1]
  | 37 => [5]
  | 40 => [1]
  | 46 => [3, 4, 5, 8]
  | 48 => [1]
  | 70 => [2, 3]
  | 71 => [1]
  | 73 => [3]
  | 74 => [3, 4]
  | 81 => [2, 3, 7]
  | 85 => [1]
  | 88 => [3, 4, 5]
  | _ => []
def clrT' : Nat → Nat → List Nat
  | 3, 0 => [5, 6, 14]
  | 3, 1 => [34]
  | 3, 2 => [35, 36, 37, 38]
  | 3, 3 => [39, 40]
  | 3, 4 => [41, 42]
  | 3, 5 => [43, 44]
  | 3, 6 => [45, 46]
  | 3, 7 => [16, 17, 18, 19, 20, 47, 48, 49, 50, 51, 52, 53, 54, 55, 56, 57, 58, 59, 60, 61, 62, 63, 64, 65, 66, 67, 68, 69, 70, 71, 72]
  | 3, 8 => [0, 1, 2, 3, 4, 12, 13, 15, 73, 74]
  | 3, 9 => [15, 21, 73, 75, 76, 77, 78, 79]
  | 3, 10 => [23, 80, 81, 82, 83, 84, 85]
  | 3, 11 => [25, 86, 87, 88, 89, 90, 91]
  | 3, 12 => [1, 22, 24, 26, 92, 93, 94, 95, 96, 97, 98, 99, 100, 101, 102, 103, 104, 105, 106, 107, 108, 109, 110, 111, 112, 113, 114, 115, 116, 117, 118, 119, 120, 121, 122, 123, 124, 125, 126, 127, 128, 129, 130, 131, 132]
  | 3, 13 => [0, 2, 3, 4, 12, 13, 133]
  | 3, 14 => [133, 134, 135, 136, 137, 138, 139]
  | 3, 15 => [12, 140, 141, 142, 143, 144, 145, 146, 147]
  | 3, 16 => [3, 4, 13, 148, 149, 150, 151, 152, 153, 154, 155]
  | 3, 17 => [156, 157, 158, 159, 160, 161, 162, 163, 164]
  | 3, 18 => [0, 2, 27, 28, 29, 30, 31, 32, 165, 166, 167, 168, 169, 170, 171, 172, 173, 174, 175]
  | 3, 19 => [0, 2, 27, 28, 29, 30, 31, 32, 165, 176, 177, 178, 179, 180, 181]
  | 3, 20 => [33, 182, 183, 184, 185, 186, 187]
  | 4, 0 => [4]
  | 4, 1 => [13]
  | 4, 2 => [14, 15, 16]
  | 4, 3 => [6, 17, 18, 19, 20, 21]
  | 4, 4 => [0, 1, 5, 22, 23]
  | 4, 5 => [5, 7, 22, 24, 25, 26, 27, 28]
  | 4, 6 => [9, 29, 30, 31, 32, 33, 34]
  | 4, 7 => [8, 10, 35, 36, 37, 38, 39]
  | 4, 8 => [0, 1, 40]
  | 4, 9 => [40]
  | 4, 10 => [41, 42, 43]
  | 4, 12 => [44]
  | 4, 13 => [47, 48, 49, 50, 51, 52, 53]
  | 4, 15 => [54, 57, 58, 59, 60, 61, 62, 63, 64, 65]
  | 4, 16 => [0, 1, 11, 12, 66]
  | 4, 14 => [55, 56, 66]
  | 4, 11 => [12, 45, 46, 54]
  | 4, 17 => [0, 1, 11, 44, 67, 68, 69, 70, 71, 72, 73]
  | 5, 0 => [8]
  | 5, 1 => [16]
  | 5, 2 => [17, 18, 19]
  | 5, 3 => [20, 21]
  | 5, 4 => [10, 11, 22, 23, 24, 25, 26, 27, 28, 29, 30, 31, 32, 33, 34, 35, 36, 37, 38, 39, 40]
  | 5, 5 => [0, 1, 2, 3, 9, 41, 42]
  | 5, 6 => [9, 12, 41, 43, 44, 45, 46, 47, 48]
  | 5, 7 => [14, 49, 50, 51, 52, 53, 54, 55, 56]
  | 5, 8 => [13, 15, 57, 58, 59, 60, 61]
  | 5, 9 => [0, 1, 2, 3, 62]
  | 5, 10 => [62, 63, 64, 65, 66]
  | 5, 11 => [0, 1, 2, 3, 67]
  | 5, 12 => [0, 1, 2, 3, 67, 68, 69, 70, 71, 72, 73, 74, 75, 76, 77, 78, 79, 80, 81, 82, 83]
  | 6, 0 => [1, 4]
  | 6, 1 => [11]
  | 6, 2 => [12, 13]
  | 6, 3 => [6, 14, 15, 16, 17, 18]
  | 6, 4 => [0, 3, 5, 19, 20]
  | 6, 5 => [5, 19, 21, 22, 23, 24, 25, 26]
  | 6, 6 => [27, 28, 29, 30, 31, 32]
  | 6, 7 => [33, 34]
  | 6, 8 => [3, 35, 36, 37, 38, 39, 40, 41, 42, 43, 44, 45, 46, 47, 48, 49, 50, 51, 52, 53, 54, 55, 56, 57, 58, 59, 60, 61, 62, 63, 64, 65, 66, 67, 68, 69, 70, 71, 72, 73, 74]
  | 6, 9 => [0, 7, 8, 9, 75]
  | 6, 10 => [75]
  | 6, 11 => [76, 77, 78]
  | 6, 13 => [79, 82, 83, 84, 85, 86, 87, 88, 89, 90, 91, 92, 93, 94, 95, 96, 97, 98, 99, 100, 101, 102, 103, 104, 105, 106, 107, 108, 109, 110, 111, 112, 113, 114]
  | 6, 14 => [0, 7, 8, 9, 10, 115]
  | 6, 12 => [80, 81, 115]
  | 6, 15 => [0, 7, 8, 9, 10, 79]
  | 7, 0 => [0]
  | 7, 1 => [7, 8, 9]
  | 7, 2 => [10, 11, 12]
  | 7, 3 => [13, 14, 15, 16, 17]
  | 7, 4 => [2, 18, 19, 20, 21, 22, 23, 24]
  | 7, 5 => [5, 25, 26, 27, 28, 29, 30]
  | 7, 6 => [1, 3, 4, 6, 31, 32, 33, 34, 35, 36, 37, 38, 39, 40, 41, 42, 43, 44, 45, 46]
  | 8, 0 => [6]
  | 8, 1 => [0, 12, 13]
  | 8, 2 => [7, 14, 15, 16, 17, 18, 19]
  | 8, 3 => [1, 2, 20]
  | 8, 4 => [20]
  | 8, 5 => [21, 22, 23]
  | 8, 7 => [24, 27, 28, 29, 30, 31, 32]
  | 8, 8 => [33, 34, 35, 36, 37, 38]
  | 8, 9 => [9, 10, 39, 40, 41, 42, 43]
  | 8, 10 => [1, 2, 8, 44]
  | 8, 6 => [25, 26, 44]
  | 8, 11 => [1, 2, 8, 24, 45, 46]
  | 8, 12 => [11, 47]
  | 9, 0 => [2]
  | 9, 1 => [0, 4, 5]
  | 9, 2 => [3, 6]
  | 10, 0 => [6]
  | 10, 1 => [9, 10]
  | 10, 2 => [0, 1, 2, 11]
  | 10, 3 => [11]
  | 10, 4 => [12, 13, 14]
  | 10, 6 => [15, 18, 19, 20, 21, 22, 23, 24]
  | 10, 7 => [8, 25]
  | 10, 8 => [0, 1, 2, 7, 26]
  | 10, 5 => [16, 17, 26]
  | 10, 9 => [0, 1, 2, 7, 15]
  | 11, 0 => [0, 6]
  | 11, 1 => [8, 9]
  | 11, 2 => [1, 2, 3, 7, 10, 11, 12, 13, 14, 15, 16, 17, 18, 19, 20, 21, 22]
  | 12, 0 => [0, 2, 3]
  | 12, 1 => [1, 4, 5, 6, 7, 8]
  | 13, 0 => [0]
  | 13, 1 => [9, 10]
  | 13, 2 => [1, 2, 11]
  | 13, 3 => [1, 11, 12]
  | 13, 4 => [13, 14]
  | 13, 5 => [15]
  | 13, 6 => [2, 7, 16, 17, 18, 19]
  | 13, 7 => [20]
  | 13, 8 => [6, 8, 21, 22, 23, 24]
  | 13, 9 => [2, 13]
  | 14, 0 => [0, 1, 2, 8]
  | 14, 1 => [12, 13, 14, 15]
  | 14, 2 => [3, 4, 5, 6, 9, 10, 16, 17, 18, 19, 20, 21]
  | 14, 3 => [11, 22]
  | 15, 0 => [3, 8]
  | 15, 1 => [0, 1, 2, 10, 11, 12, 13]
  | 15, 2 => [14, 15, 16, 17]
  | 15, 3 => [7, 9, 18]
  | 15, 4 => [7, 9, 18, 19, 20, 21]
  | 16, 0 => [3, 4, 10]
  | 16, 1 => [0, 1, 2, 12, 13, 14, 15]
  | 16, 2 => [16, 17, 18, 19, 20]
  | 16, 3 => [8, 9, 11, 21]
  | 16, 4 => [8, 9, 11, 21, 22, 23, 24, 25]
  | 17, 0 => [0, 1, 2, 3]
  | 17, 1 => [18, 19, 20]
  | 17, 2 => [4, 5, 6, 7, 8, 17]
  | 17, 3 => [17, 22, 23, 24, 25, 26]
  | 17, 4 => [4, 5, 6, 7, 8, 21]
  | 17, 5 => [4, 21, 27]
  | 17, 6 => [28, 29]
  | 17, 7 => [30]
  | 17, 8 => [8, 31, 32, 33, 34, 35]
  | 17, 9 => [36, 37, 38, 39, 40, 41, 42]
  | 17, 10 => [43]
  | 17, 11 => [5, 6, 7, 11, 12, 13, 14, 15, 44, 45]
  | 17, 12 => [11, 44, 46, 47, 48, 49, 50, 51, 52, 53, 54, 55]
  | 17, 13 => [56]
  | 17, 14 => [5, 7, 14, 16, 57, 58, 59, 60, 61, 62, 63, 64, 65, 66]
  | 17, 15 => [5, 6, 7, 12, 13, 14, 16, 57, 67, 68, 69, 70, 71, 72, 73, 74, 75, 76, 77]
  | 17, 16 => [78]
  | 17, 17 => [78, 79]
  | 17, 18 => [15, 80, 81]
  | 17, 19 => [5, 6, 7, 8, 28]
  | 18, 0 => [1, 2, 6, 7]
  | 18, 1 => [0, 4, 5, 8, 9, 10, 11, 12]
  | 19, 0 => [0, 7]
  | 19, 1 => [10, 11, 12, 13, 14, 15, 16, 17, 18, 19, 20, 21, 22, 23, 24, 25, 26, 27]
  | 19, 2 => [1, 2, 3, 28, 29]
  | 19, 3 => [1, 2, 3, 28, 30, 31, 32, 33, 34, 35, 36]
  | 19, 4 => [38, 39]
  | 19, 5 => [8, 9, 37, 40, 41]
  | 19, 6 => [9, 37, 43, 44]
  | 19, 7 => [8, 42, 45]
  | 19, 8 => [8, 42, 46]
  | 20, 0 => [2]
  | 20, 3 => [5, 6, 7]
  | 20, 5 => [8, 11, 12, 13, 14, 15, 16, 17, 18, 19, 20, 21, 22, 23]
  | 20, 4 => [9, 10]
  | 20, 6 => [0, 3, 4, 8, 24]
  | 21, 0 => [2]
  | 21, 2 => [0]
  | 21, 4 => [9, 10, 11]
  | 21, 5 => [5, 12, 13, 14, 15, 16, 17]
  | 21, 6 => [18]
  | 21, 7 => [3, 6, 7, 8, 9, 19]
  | 22, 0 => [2]
  | 22, 2 => [0]
  | 22, 4 => [9, 10, 11]
  | 22, 5 => [5, 12, 13, 14, 15, 16]
  | 22, 6 => [17]
  | 22, 7 => [3, 6, 7, 8, 9, 18]
  | 23, 0 => [0]
  | 23, 1 => [2]
  | 23, 2 => [1, 3, 4, 5, 6, 7, 8, 9, 10, 11]
  | 24, 0 => [2]
  | 24, 1 => [5, 6]
  | 24, 2 => [0, 7]
  | 24, 3 => [7]
  | 24, 4 => [8, 9, 10]
  | 24, 6 => [11, 14, 15, 16, 17, 18, 19]
  | 24, 7 => [4, 20]
  | 24, 8 => [0, 3, 21]
  | 24, 5 => [12, 13, 21]
  | 24, 9 => [0, 3, 11]
  | 25, 0 => [0, 2]
  | 25, 1 => [5, 6]
  | 25, 2 => [1, 7]
  | 25, 3 => [7]
  | 25, 4 => [8, 9, 10, 11]
  | 25, 6 => [12, 15, 16, 17, 18, 19, 20]
  | 25, 7 => [4, 21]
  | 25, 8 => [1, 3, 22]
  | 25, 5 => [13, 14, 22]
  | 25, 9 => [1, 3, 12]
  | 26, 0 => [0, 2]
  | 26, 3 => [5, 6, 7, 8]
  | 26, 5 => [9, 12, 13, 14, 15, 16, 17, 18, 19]
  | 26, 4 => [10, 11]
  | 26, 6 => [1, 3, 4, 9, 20]
  | 27, 0 => [0, 2]
  | 27, 3 => [6, 7, 8, 9]
  | 27, 5 => [10, 13, 14, 15, 16, 17, 18]
  | 27, 6 => [19, 20]
  | 27, 7 => [5, 21, 22]
  | 27, 4 => [5, 11, 12, 21]
  | 27, 8 => [1, 3, 4, 10, 23, 24]
  | 28, 0 => [4, 5]
  | 28, 1 => [9, 10]
  | 28, 2 => [0, 1, 11]
  | 28, 3 => [0, 11]
  | 28, 5 => [15, 16, 17, 18]
  | 28, 6 => [7, 19, 20, 21, 22]
  | 28, 7 => [23]
  | 28, 8 => [1, 6, 8, 12, 13, 14, 24, 25, 26]
  | 28, 9 => [6, 8, 24, 27]
  | 28, 10 => [1, 12, 13, 14, 15]
  | 29, 0 => [1, 5]
  | 29, 1 => [6, 7]
  | 29, 2 => [0, 2, 4, 8, 9, 10, 11, 12, 13, 14]
  | 29, 3 => [0, 2, 4, 8, 15, 16, 17, 18, 19, 20]
  | 30, 0 => [0, 2]
  | 30, 1 => [1, 3, 4, 5, 6]
  | 31, 0 => [3, 8]
  | 31, 1 => [0, 1, 2, 10, 11, 12, 13]
  | 31, 2 => [14, 15, 16, 17]
  | 31, 3 => [7, 9, 18]
  | 31, 4 => [7, 9, 18, 19, 20, 21]
  | 32, 0 => [0, 2]
  | 32, 1 => [1, 3]
  | 33, 0 => [2, 6]
  | 33, 1 => [8, 9, 10, 11, 12]
  | 33, 2 => [13]
  | 33, 3 => [0, 1, 5, 7, 14, 15]
  | 33, 4 => [7, 14, 16, 17, 18, 19, 20, 21, 22, 23, 24, 25, 26, 27, 28]
  | 33, 5 => [0, 1, 5, 29]
  | 33, 6 => [0, 1, 5, 29, 30, 31, 32, 33, 34, 35, 36]
  | 34, 0 => [2]
  | 34, 4 => [12, 13, 14]
  | 34, 5 => [5, 15, 16, 17, 18]
  | 34, 6 => [19]
  | 34, 7 => [20, 21]
  | 34, 8 => [20, 22]
  | 34, 9 => [3, 9, 10, 11, 12, 23, 24]
  | 34, 10 => [0]
  | 34, 12 => [28, 29, 30]
  | 34, 13 => [8, 31, 32, 33]
  | 34, 14 => [34]
  | 34, 15 => [6, 25, 26, 27, 28, 35]
  | 35, 0 => [4, 5]
  | 35, 1 => [9, 10]
  | 35, 2 => [0, 1, 11]
  | 35, 3 => [0, 11]
  | 35, 5 => [15, 16, 17, 18]
  | 35, 6 => [7, 19, 20, 21, 22]
  | 35, 7 => [23]
  | 35, 8 => [1, 6, 8, 12, 13, 14, 24, 25, 26]
  | 35, 9 => [6, 8, 24, 27]
  | 35, 10 => [1, 12, 13, 14, 15]
  | 36, 0 => [1, 8]
  | 36, 1 => [0, 2, 3, 4, 5, 7, 9, 10, 11, 12, 13, 14, 15, 16, 17, 18]
  | 37, 0 => [0, 4]
  | 37, 2 => [1, 7, 8, 9, 10, 11, 12, 13, 14, 15, 16, 17, 18, 19, 20]
  | 37, 3 => [2, 5, 21]
  | 37, 4 => [21, 22]
  | 37, 5 => [2, 5, 6, 23, 24, 25, 26, 27, 28, 29, 30, 31, 32, 33, 34]
  | 38, 0 => [0, 1, 4]
  | 38, 1 => [7]
  | 38, 2 => [10]
  | 38, 3 => [2, 3, 8, 9, 11, 12, 13]
  | 38, 4 => [8, 9, 15]
  | 38, 5 => [14, 16, 17, 18, 19, 20, 21, 22]
  | 38, 6 => [23]
  | 38, 7 => [2, 3, 24, 25, 26, 27, 28, 29, 30, 31, 32]
  | 38, 8 => [2, 3, 5, 24, 33, 34, 35, 36, 37, 38]
  | 38, 9 => [39]
  | 38, 10 => [6, 39, 40]
  | 38, 11 => [2, 3, 14]
  | 39, 0 => [0, 1, 2, 6]
  | 39, 1 => [11, 12, 13, 14, 15, 16, 17, 18]
  | 39, 2 => [3, 4, 5, 10, 19, 20, 21, 22, 23, 24, 25, 26, 27, 28, 29, 30, 31, 32, 33]
  | 39, 3 => [10, 35, 36, 37, 38, 39, 40, 41, 42]
  | 39, 4 => [3, 4, 5, 34]
  | 39, 5 => [34, 43]
  | 39, 6 => [3, 4, 7, 44, 45, 46, 47, 48, 49, 50, 51, 52, 53]
  | 39, 7 => [5, 8, 54, 55, 56, 57, 58, 59, 60]
  | 39, 8 => [61]
  | 39, 9 => [9, 61, 62]
  | 40, 0 => [0, 2]
  | 40, 1 => [1, 3]
  | 41, 0 => [0, 4]
  | 41, 1 => [5, 6]
  | 41, 2 => [1, 2, 7, 8, 9, 10, 11, 12, 13, 14, 15, 16, 17, 18, 19, 20]
  | 41, 3 => [1, 2, 7, 21, 22, 23, 24, 25, 26, 27, 28, 29]
  | 42, 0 => [4, 5]
  | 42, 2 => [0]
  | 42, 4 => [14, 15, 16, 17]
  | 42, 5 => [7, 8, 18, 19, 20, 21, 22, 23, 24]
  | 42, 6 => [25]
  | 42, 7 => [1, 6, 9, 10, 11, 12, 13, 26, 27]
  | 42, 8 => [9, 10, 26, 28, 29, 30, 31]
  | 42, 9 => [32]
  | 42, 10 => [1, 6, 11, 12, 13, 14, 33]
  | 43, 0 => [1, 7]
  | 43, 1 => [0, 2, 3, 5, 8, 9, 10, 11, 12, 13, 14, 15]
  | 44, 0 => [0, 2]
  | 44, 1 => [1, 3, 4, 5]
  | 45, 0 => [4]
  | 45, 1 => [0, 1, 5, 6, 7, 8]
  | 46, 0 => [0, 1, 2, 7]
  | 46, 1 => [11, 12, 13, 14, 15, 16, 17, 18]
  | 46, 2 => [8, 19, 20, 21, 22, 23, 24, 25]
  | 46, 3 => [27, 28]
  | 46, 4 => [3, 4, 5, 9, 10, 26, 29, 30]
  | 46, 5 => [10, 26, 32, 33, 34]
  | 46, 6 => [3, 4, 5, 9, 31, 35, 36, 37, 38, 39, 40]
  | 46, 7 => [31, 42, 43, 44, 45, 46]
  | 46, 8 => [3, 4, 5, 9, 41, 47]
  | 46, 9 => [41, 49, 50]
  | 46, 10 => [3, 4, 5, 9, 48, 51]
  | 46, 11 => [3, 4, 5, 9, 48, 52, 53, 54, 55, 56, 57, 58, 59, 60, 61, 62]
  | 47, 1 => [5, 6, 7]
  | 47, 2 => [8, 9]
  | 47, 5 => [12, 13]
  | 47, 6 => [4, 14, 15, 16, 17, 18, 19, 20, 21, 22, 23]
  | 47, 7 => [24]
  | 47, 8 => [0, 3, 10, 11, 12, 25]
  | 48, 0 => [0]
  | 48, 1 => [5]
  | 48, 2 => [2, 6, 7, 8]
  | 48, 3 => [1, 4, 9]
  | 48, 4 => [1, 6, 10]
  | 49, 0 => [0, 1, 4]
  | 49, 1 => [5]
  | 49, 2 => [8]
  | 49, 3 => [2, 3, 6, 7]
  | 49, 4 => [6, 7, 10]
  | 49, 5 => [2, 3, 9, 11, 12, 13]
  | 49, 6 => [2, 3, 9]
  | 50, 2 => [8, 9, 10, 11]
  | 50, 3 => [3, 4, 12, 13, 14, 15, 16, 17, 18]
  | 50, 4 => [19, 20]
  | 51, 0 => [4]
  | 51, 1 => [5]
  | 51, 2 => [6, 7]
  | 51, 3 => [6, 8, 9, 10, 11, 12, 13, 14]
  | 51, 4 => [15]
  | 51, 5 => [1, 16, 17, 18, 19, 20, 21, 22, 23, 24, 25]
  | 51, 6 => [0, 1, 16, 26]
  | 52, 0 => [0, 2]
  | 52, 1 => [1, 3, 4, 5]
  | 53, 0 => [0, 2]
  | 53, 1 => [1, 3, 4, 5, 6, 7, 8, 9, 10, 11, 12, 13, 14]
  | 54, 0 => [0, 3]
  | 54, 1 => [1, 2, 4, 5, 6, 7, 8, 9, 10, 11, 12, 13]
  | 55, 0 => [4]
  | 55, 1 => [0, 1, 5, 6, 7, 8]
  | 56, 0 => [0, 3]
  | 56, 1 => [1, 2, 4, 5, 6, 7]
  | 57, 0 => [4]
  | 57, 1 => [0, 1, 5, 6, 7, 8]
  | 58, 0 => [0, 1, 6]
  | 58, 1 => [8, 9, 10, 11, 12, 13]
  | 58, 2 => [14]
  | 58, 3 => [2, 3, 4, 7, 15, 16]
  | 58, 4 => [2, 3, 4, 7, 15, 17, 18, 19, 20, 21, 22, 23, 24, 25, 26, 27, 28]
  | 59, 0 => [0, 7]
  | 59, 1 => [2, 8, 9, 10, 11, 12, 13, 14, 15, 16, 17, 18, 19, 20, 21, 22]
  | 59, 2 => [1, 3, 23, 24]
  | 59, 3 => [1, 3, 23, 25, 26, 27, 28, 29, 30]
  | 60, 0 => [0, 1, 7]
  | 60, 1 => [2]
  | 60, 3 => [16, 17, 18]
  | 60, 4 => [19, 20]
  | 60, 5 => [3, 4, 9, 13, 14, 15, 21, 22]
  | 60, 6 => [21, 23, 24, 25, 26, 27, 28, 29]
  | 60, 7 => [30]
  | 60, 8 => [3, 4, 9, 10, 13, 14, 15, 31, 32, 33]
  | 60, 9 => [9, 10, 31, 34, 35, 36, 37, 38, 39, 40, 41, 42, 43, 44]
  | 60, 10 => [45]
  | 60, 11 => [3, 4, 11, 12, 13, 14, 15, 46, 47, 48]
  | 60, 12 => [11, 12, 46, 49]
  | 60, 13 => [50]
  | 60, 14 => [3, 4, 13, 14, 15, 16, 51]
  | 61, 0 => [0, 1]
  | 61, 1 => [3, 5, 6, 7, 8, 9, 10, 11, 12, 13, 14, 15, 16, 17]
  | 61, 2 => [2, 18]
  | 62, 0 => [0, 1, 2, 3, 5]
  | 62, 1 => [6]
  | 63, 0 => [0, 1, 5]
  | 63, 1 => [6, 7, 8, 9, 10]
  | 63, 2 => [2, 3, 11, 12]
  | 63, 3 => [2, 3, 11, 13, 14, 15, 16, 17, 18, 19, 20, 21, 22, 23, 24, 25, 26, 27, 28, 29, 30, 31, 32, 33]
  | 64, 0 => [0, 1, 5]
  | 64, 1 => [8, 9, 10, 11, 12, 13, 14]
  | 64, 2 => [15]
  | 64, 3 => [2, 3, 6, 7, 16, 17, 18]
  | 64, 4 => [2, 3, 6, 7, 16, 19, 20, 21, 22, 23, 24, 25]
  | 65, 0 => [0, 1, 5]
  | 65, 1 => [11, 12, 13, 14, 15]
  | 65, 2 => [2, 3, 16, 17]
  | 65, 3 => [16, 18, 19, 20, 21, 22, 23]
  | 65, 4 => [24, 25, 26, 27, 28, 29]
  | 65, 5 => [2, 3, 6, 30, 31]
  | 65, 6 => [30, 32]
  | 65, 8 => [36, 37, 38, 39]
  | 65, 9 => [8, 40, 41, 42, 43, 44, 45, 46, 47, 48, 49, 50, 51, 52]
  | 65, 10 => [53]
  | 65, 11 => [7, 9, 54, 55, 56, 57, 58, 59, 60, 61, 62]
  | 65, 12 => [7, 9, 54, 63]
  | 65, 13 => [2, 3, 6, 10, 33, 34, 35, 64, 65, 66]
  | 65, 14 => [10, 64, 67]
  | 65, 15 => [2, 3, 6, 33, 34, 35, 36, 68, 69, 70, 71, 72, 73, 74, 75, 76, 77, 78]
  | 66, 0 => [0, 1, 4]
  | 66, 1 => [7, 8, 9, 10, 11, 12, 13, 14, 15, 16, 17, 18, 19, 20, 21, 22, 23, 24, 25, 26]
  | 66, 2 => [2, 3, 27]
  | 66, 3 => [2, 27, 28]
  | 66, 5 => [32, 33, 34, 35]
  | 66, 6 => [5, 6, 36, 37, 38, 39, 40, 41, 42]
  | 66, 7 => [3, 29, 30, 31, 43]
  | 66, 8 => [43, 44]
  | 66, 9 => [3, 29, 30, 31, 32]
  | 67, 2 => [8, 9, 10, 11]
  | 67, 3 => [3, 4, 12, 13, 14, 15, 16, 17, 18]
  | 67, 4 => [19, 20]
  | 68, 0 => [4]
  | 68, 1 => [6]
  | 68, 3 => [9, 10]
  | 68, 4 => [11, 12, 13, 14, 15]
  | 68, 5 => [0, 1, 5, 7, 8, 16, 17]
  | 68, 6 => [5, 16, 18]
  | 68, 7 => [0, 1, 7, 8, 9]
  | 69, 0 => [1, 9]
  | 69, 1 => [0, 2, 3, 10, 11, 12, 13, 14, 15, 16, 17]
  | 69, 2 => [4, 5, 7, 18, 19, 20, 21, 22, 23, 24, 25]
  | 69, 3 => [4, 5, 7, 18, 26, 27, 28, 29, 30, 31]
  | 70, 0 => [0, 1, 5]
  | 70, 1 => [6, 7, 8, 9, 10, 11, 12]
  | 70, 2 => [2, 3, 13, 14]
  | 70, 3 => [2, 3, 13, 15, 16, 17, 18]
  | 71, 0 => [0, 2]
  | 71, 1 => [1, 3]
  | 72, 0 => [0, 2]
  | 72, 2 => [1, 6]
  | 72, 4 => [10, 11, 12]
  | 72, 5 => [5, 13, 14, 15, 16]
  | 72, 6 => [17]
  | 72, 7 => [3, 7, 8, 9, 10, 18, 19]
  | 73, 0 => [0]
  | 73, 2 => [1, 4]
  | 73, 3 => [2, 3, 5, 6, 7, 8, 9]
  | 73, 4 => [3, 5, 10]
  | 74, 0 => [0, 1]
  | 74, 1 => [2, 7]
  | 74, 2 => [8, 9]
  | 74, 3 => [10]
  | 74, 4 => [3, 5, 6, 11, 12, 13, 14]
  | 74, 5 => [15]
  | 74, 6 => [3, 8]
  | 75, 0 => [0, 1, 4]
  | 75, 1 => [3, 5, 6]
  | 76, 0 => [0, 2]
  | 76, 1 => [3]
  | 76, 2 => [6]
  | 76, 3 => [1, 4, 5, 7, 8, 9, 10, 11, 12, 13, 14, 15]
  | 76, 4 => [5, 17]
  | 76, 5 => [1, 4, 16, 18, 19, 20, 21, 22, 23, 24, 25, 26]
  | 76, 6 => [4, 16, 28]
  | 76, 7 => [1, 27, 29, 30, 31, 32, 33, 34, 35, 36, 37]
  | 76, 8 => [1, 27, 38, 39, 40, 41, 42, 43, 44, 45, 46, 47, 48, 49, 50]
  | 77, 0 => [4]
  | 77, 1 => [6]
  | 77, 3 => [9, 10]
  | 77, 4 => [11, 12, 13, 14, 15]
  | 77, 5 => [0, 1, 5, 7, 8, 16, 17]
  | 77, 6 => [5, 16, 18]
  | 77, 7 => [0, 1, 7, 8, 9]
  | 78, 0 => [4]
  | 78, 1 => [6]
  | 78, 3 => [9, 10]
  | 78, 4 => [11, 12, 13, 14, 15]
  | 78, 5 => [0, 1, 5, 7, 8, 16, 17]
  | 78, 6 => [5, 16, 18]
  | 78, 7 => [0, 1, 7, 8, 9]
  | 79, 0 => [0]
  | 79, 1 => [9, 10, 11, 12]
  | 79, 2 => [1, 2, 3, 13, 14, 15]
  | 79, 3 => [1, 2, 3, 8, 13, 16, 17, 18, 19, 20, 21, 22, 23, 24]
  | 79, 4 => [7, 25]
  | 80, 0 => [0, 2]
  | 80, 2 => [1, 3, 4, 5, 6, 7, 8, 9, 10, 11, 12, 13, 14, 15, 16, 17, 18, 19, 20, 21, 22, 23, 24]
  | 81, 1 => [4]
  | 81, 2 => [0, 5, 6, 7, 8]
  | 81, 3 => [9, 10]
  | 81, 4 => [11, 12]
  | 81, 5 => [11, 13]
  | 82, 1 => [0, 1, 2, 5, 6, 7, 8]
  | 83, 0 => [1, 2]
  | 83, 1 => [11, 12, 13, 14, 15, 16, 17]
  | 83, 2 => [18, 19, 20, 21]
  | 83, 3 => [22, 23]
  | 83, 4 => [22, 24, 25, 26, 27, 28]
  | 83, 5 => [29]
  | 83, 7 => [33, 34, 35, 36]
  | 83, 8 => [37]
  | 83, 9 => [8, 38, 39, 40, 41, 42, 43, 44, 45, 46, 47, 48, 49, 50, 51, 52]
  | 83, 10 => [53, 54, 55]
  | 83, 11 => [9, 10, 53, 56, 57, 58, 59, 60, 61, 62, 63, 64]
  | 83, 12 => [65]
  | 83, 13 => [30, 31, 32, 33, 66, 67]
  | 83, 14 => [0, 4, 5, 7, 68, 69]
  | 83, 15 => [0, 4, 5, 7, 68, 70, 71, 72, 73, 74, 75, 76, 77]
  | 84, 0 => [3, 4, 5, 6, 7, 8, 9, 10]
  | 84, 1 => [11, 12, 13, 14, 15, 16, 17, 18, 19, 20, 21]
  | 84, 2 => [22, 23, 24, 25, 26]
  | 85, 0 => [0, 2]
  | 85, 1 => [1, 3]
  | 86, 0 => [0, 6]
  | 86, 1 => [1, 2, 3, 7, 8, 9, 10, 11, 12, 13, 14, 15, 16, 17, 18, 19, 20, 21, 22, 23, 24]
  | 87, 0 => [0]
  | 87, 2 => [6]
  | 87, 4 => [10, 11, 12]
  | 87, 5 => [5, 13, 14, 15, 16, 17]
  | 87, 6 => [18]
  | 87, 7 => [1, 3, 7, 8, 9, 10, 19, 20, 21, 22, 23, 24]
  | 88, 0 => [0, 1, 2, 7]
  | 88, 1 => [11, 12]
  | 88, 2 => [13, 14]
  | 88, 3 => [15, 16, 17, 18, 19, 20, 21, 22, 23]
  | 88, 4 => [9, 15, 24]
  | 88, 5 => [3, 4, 5, 8, 25, 26]
  | 88, 6 => [4, 5, 25, 27, 28, 29, 30, 31, 32, 33]
  | 88, 7 => [9, 34]
  | 88, 8 => [3, 8, 10, 35, 36]
  | 88, 9 => [3, 8, 10, 35, 37, 38, 39, 40, 41]
  | 89, 0 => [0, 6, 7]
  | 89, 1 => [2, 8, 9, 10, 11, 12]
  | 89, 2 => [1, 3, 13, 14, 15, 16, 17]
  | 89, 3 => [1, 3, 13, 18]
  | 90, 0 => [0, 2]
  | 90, 1 => [1, 3, 4, 5]
  | 91, 0 => [5]
  | 91, 1 => [6, 7, 8, 9, 10]
  | 91, 2 => [4]
  | 91, 3 => [0, 1, 2, 3, 11, 12, 13]
  | 91, 4 => [0, 1, 3, 11, 14]
  | 91, 5 => [2, 15, 16]
  | 92, 0 => [0, 2, 3]
  | 93, 0 => [0]
  | 93, 1 => [6, 7, 8, 9]
  | 93, 2 => [1, 10]
  | 93, 4 => [14, 15, 16]
  | 93, 5 => [5, 17, 18, 19, 20, 21, 22, 23]
  | 93, 6 => [24]
  | 93, 7 => [11, 12, 13, 14, 25, 26, 27, 28, 29, 30]
  | 93, 8 => [3, 31]
  | 94, 0 => [1]
  | 94, 1 => [7, 8]
  | 94, 2 => [0, 2, 4, 9, 10]
  | 94, 3 => [9, 11]
  | 94, 4 => [14]
  | 94, 5 => [12, 13, 15, 16, 17, 18]
  | 94, 6 => [19, 20]
  | 94, 7 => [0, 2, 4, 19, 21, 22, 23, 24, 25, 26, 27, 28, 29, 30, 31, 32, 33]
  | 94, 8 => [0, 13, 35]
  | 94, 9 => [36]
  | 94, 10 => [12, 37]
  | 94, 11 => [2, 4, 12, 34, 38, 39, 40, 41, 42, 43, 44, 45, 46, 47]
  | 94, 12 => [2, 12, 34, 48]
  | 94, 13 => [4, 49]
  | 95, 0 => [0]
  | 95, 1 => [5, 6, 7, 8]
  | 95, 2 => [1, 2, 9, 10, 11, 12, 13, 14, 15, 16, 17, 18, 19, 20]
  | 95, 3 => [1, 2, 9, 21, 22, 23, 24, 25, 26, 27, 28, 29]
  | 96, 0 => [0, 1, 3, 4, 5]
  | 97, 0 => [0, 6]
  | 97, 1 => [10, 11, 12, 13]
  | 97, 2 => [1, 2, 3, 14]
  | 97, 3 => [14, 15]
  | 97, 5 => [19, 20, 21, 22]
  | 97, 6 => [23]
  | 97, 7 => [7, 24, 25, 26, 27, 28, 29, 30, 31, 32]
  | 97, 8 => [33, 34, 35]
  | 97, 9 => [8, 9, 33, 36, 37, 38, 39]
  | 97, 10 => [1, 2, 3, 16, 17, 18, 40]
  | 97, 11 => [40, 41]
  | 97, 12 => [1, 2, 3, 16, 17, 18, 19]
  | 98, 0 => [4, 5]
  | 98, 2 => [0]
  | 98, 4 => [14, 15, 16, 17]
  | 98, 5 => [7, 8, 18, 19, 20, 21, 22, 23, 24]
  | 98, 6 => [10, 25]
  | 98, 7 => [1, 6, 9, 11, 12, 13, 26]
  | 98, 8 => [9, 26, 27, 28, 29, 30]
  | 98, 9 => [31]
  | 98, 10 => [1, 6, 11, 12, 13, 14, 32]
  | 99, 0 => [1, 8]
  | 99, 1 => [2, 10]
  | 99, 2 => [0, 3, 11, 12, 13, 14, 15, 16, 17, 18, 19, 20, 21, 22, 23, 24, 25]
  | 99, 3 => [26, 27, 28]
  | 99, 4 => [4, 6, 9, 26, 29, 30, 31, 32, 33, 34]
  | 100, 0 => [0, 2]
  | 100, 1 => [1, 3, 4, 5, 6, 7, 8, 9, 10]
  | _, _ => []
def ordT : Nat → Nat → List Nat
  | 5, 12 => [0, 1, 2, 3, 4, 5, 6, 7, 8, 9, 10, 11, 12, 13, 14, 15, 16]
  | 6, 5 => [0, 1, 2, 3, 4, 5, 6]
  | 6, 6 => [0, 1, 2, 3, 4, 5, 6]
  | 6, 8 => [0, 1, 2, 3, 4, 5, 6, 7, 8, 9, 10, 11, 12, 13, 14, 15, 16, 17, 18, 19, 20, 21, 22, 23, 24, 25, 26, 27, 28, 29, 30, 31, 32, 33, 34, 35, 36, 37, 38, 39, 40]
  | 6, 13 => [0, 1, 2, 3, 4, 5, 6, 7, 8, 9, 10, 11, 12, 13, 14, 15, 16, 17, 18, 19, 20, 21, 22, 23, 24, 25, 26, 27, 28, 29, 30, 31, 32, 33]
  | 7, 3 => [1, 2, 3, 0, 4, 5]
  | 7, 4 => [1, 2, 3, 4, 5, 0, 6, 7]
  | 17, 14 => [0, 1, 2, 3, 4, 6, 7, 5, 8, 9]
  | 29, 2 => [0, 1, 2, 3, 4, 5, 6]
  | 29, 3 => [0, 1, 2, 3, 4, 5, 6]
  | 36, 1 => [0, 1, 2, 3, 4, 5, 6, 7, 8, 9, 10]
  | 39, 2 => [0, 1, 2, 3, 4, 6, 7, 8, 9, 10, 11, 12, 13, 5, 14, 15]
  | 39, 6 => [0, 1, 2, 3, 4, 5, 10, 6, 7, 8, 9, 11, 12]
  | 46, 11 => [0, 1, 2, 3, 4, 5, 6, 7, 8, 9, 10, 11, 12]
  | 50, 3 => [0, 1, 2, 3, 4, 5, 6, 7]
  | 58, 1 => [0, 1, 2, 3, 4, 5, 6]
  | 58, 4 => [0, 1, 2, 3, 4, 5, 7, 8, 9, 10, 6, 11, 12]
  | 60, 6 => [0, 1, 2, 3, 4, 5, 6, 7]
  | 60, 9 => [0, 1, 2, 3, 4, 5, 6, 11, 7, 8, 9, 10, 12, 13]
  | 61, 1 => [0, 1, 2, 3, 4, 5, 6, 7, 8, 9, 10, 11, 12, 13]
  | 63, 3 => [0, 1, 2, 3, 4, 5, 6, 7, 8, 9, 10, 11, 12, 13, 14, 16, 17, 15, 18, 19, 20, 21, 22]
  | 65, 9 => [0, 1, 2, 3, 4, 5, 6, 7, 8, 13, 9, 10, 11, 12, 14, 15]
  | 65, 11 => [0, 1, 2, 3, 4, 5, 6, 7, 8]
  | 66, 6 => [0, 1, 2, 3, 4, 5, 6, 7]
  | 67, 3 => [0, 1, 2, 3, 4, 5, 6, 7]
  | 83, 11 => [0, 1, 2, 3, 4, 5, 6, 7, 8, 9]
  | 83, 15 => [0, 1, 2, 3, 5, 6, 4, 7, 8]
  | 84, 1 => [0, 1, 2, 3, 4, 5, 6, 7, 8, 9, 10]
  | 93, 5 => [0, 1, 2, 3, 4, 5, 6, 7]
  | 94, 7 => [0, 1, 2, 3, 4, 5, 6, 7, 8, 10, 11, 9, 12, 13]
  | 94, 11 => [0, 1, 2, 3, 4, 5, 6, 7, 8, 9, 10]
  | _, _ => []
def roT : Nat → Nat → Bool
  | 5, 12 => true
  | 6, 8 => true
  | 6, 13 => true
  | 7, 3 => true
  | 7, 4 => true
  | 17, 14 => true
  | 29, 2 => true
  | 29, 3 => true
  | 36, 1 => true
  | 39, 2 => true
  | 58, 1 => true
  | 60, 6 => true
  | 65, 11 => true
  | 66, 6 => true
  | _, _ => false
noncomputable def C : Cfg := { P := Try.prog, esc := escT, thr := [32, 40, 71, 85], clr := clrT', ord := ordT, ro := roT, ext := extT }
theorem C_P : C.P = Try.prog := rfl
theorem C_thr : C.thr = [32, 40, 71, 85] := rfl
theorem res_3 : Try.f3.results.toList = [.tmp 14] := rfl
theorem esc_3 : C.esc 3 = [] := rfl
theorem clr_3_0 : C.clr 3 0 = [5, 6, 14] := rfl
theorem clr_3_1 : C.clr 3 1 = [34] := rfl
theorem clr_3_2 : C.clr 3 2 = [35, 36, 37, 38] := rfl
theorem clr_3_3 : C.clr 3 3 = [39, 40] := rfl
theorem clr_3_4 : C.clr 3 4 = [41, 42] := rfl
theorem clr_3_5 : C.clr 3 5 = [43, 44] := rfl
theorem clr_3_6 : C.clr 3 6 = [45, 46] := rfl
theorem clr_3_7 : C.clr 3 7 = [16, 17, 18, 19, 20, 47, 48, 49, 50, 51, 52, 53, 54, 55, 56, 57, 58, 59, 60, 61, 62, 63, 64, 65, 66, 67, 68, 69, 70, 71, 72] := rfl
theorem clr_3_8 : C.clr 3 8 = [0, 1, 2, 3, 4, 12, 13, 15, 73, 74] := rfl
theorem clr_3_9 : C.clr 3 9 = [15, 21, 73, 75, 76, 77, 78, 79] := rfl
theorem clr_3_10 : C.clr 3 10 = [23, 80, 81, 82, 83, 84, 85] := rfl
theorem clr_3_11 : C.clr 3 11 = [25, 86, 87, 88, 89, 90, 91] := rfl
theorem clr_3_12 : C.clr 3 12 = [1, 22, 24, 26, 92, 93, 94, 95, 96, 97, 98, 99, 100, 101, 102, 103, 104, 105, 106, 107, 108, 109, 110, 111, 112, 113, 114, 115, 116, 117, 118, 119, 120, 121, 122, 123, 124, 125, 126, 127, 128, 129, 130, 131, 132] := rfl
theorem clr_3_13 : C.clr 3 13 = [0, 2, 3, 4, 12, 13, 133] := rfl
theorem clr_3_14 : C.clr 3 14 = [133, 134, 135, 136, 137, 138, 139] := rfl
theorem clr_3_15 : C.clr 3 15 = [12, 140, 141, 142, 143, 144, 145, 146, 147] := rfl
theorem clr_3_16 : C.clr 3 16 = [3, 4, 13, 148, 149, 150, 151, 152, 153, 154, 155] := rfl
theorem clr_3_17 : C.clr 3 17 = [156, 157, 158, 159, 160, 161, 162, 163, 164] := rfl
theorem clr_3_18 : C.clr 3 18 = [0, 2, 27, 28, 29, 30, 31, 32, 165, 166, 167, 168, 169, 170, 171, 172, 173, 174, 175] := rfl
theorem clr_3_19 : C.clr 3 19 = [0, 2, 27, 28, 29, 30, 31, 32, 165, 176, 177, 178, 179, 180, 181] := rfl
theorem clr_3_20 : C.clr 3 20 = [33, 182, 183, 184, 185, 186, 187] := rfl
theorem res_4 : Try.f4.results.toList = [.tmp 4] := rfl
theorem esc_4 : C.esc 4 = [] := rfl
theorem clr_4_0 : C.clr 4 0 = [4] := rfl
theorem clr_4_1 : C.clr 4 1 = [13] := rfl
theorem clr_4_2 : C.clr 4 2 = [14, 15, 16] := rfl
theorem clr_4_3 : C.clr 4 3 = [6, 17, 18, 19, 20, 21] := rfl
theorem clr_4_4 : C.clr 4 4 = [0, 1, 5, 22, 23] := rfl
theorem clr_4_5 : C.clr 4 5 = [5, 7, 22, 24, 25, 26, 27, 28] := rfl
theorem clr_4_6 : C.clr 4 6 = [9, 29, 30, 31, 32, 33, 34] := rfl
theorem clr_4_7 : C.clr 4 7 = [8, 10, 35, 36, 37, 38, 39] := rfl
theorem clr_4_8 : C.clr 4 8 = [0, 1, 40] := rfl
theorem clr_4_9 : C.clr 4 9 = [40] := rfl
theorem clr_4_10 : C.clr 4 10 = [41, 42, 43] := rfl
theorem clr_4_12 : C.clr 4 12 = [44] := rfl
theorem clr_4_13 : C.clr 4 13 = [47, 48, 49, 50, 51, 52, 53] := rfl
theorem clr_4_15 : C.clr 4 15 = [54, 57, 58, 59, 60, 61, 62, 63, 64, 65] := rfl
theorem clr_4_16 : C.clr 4 16 = [0, 1, 11, 12, 66] := rfl
theorem clr_4_14 : C.clr 4 14 = [55, 56, 66] := rfl
theorem clr_4_11 : C.clr 4 11 = [12, 45, 46, 54] := rfl
theorem clr_4_17 : C.clr 4 17 = [0, 1, 11, 44, 67, 68, 69, 70, 71, 72, 73] := rfl
theorem res_5 : Try.f5.results.toList = [.tmp 8] := rfl
theorem esc_5 : C.esc 5 = [] := rfl
theorem clr_5_0 : C.clr 5 0 = [8] := rfl
theorem clr_5_1 : C.clr 5 1 = [16] := rfl
theorem clr_5_2 : C.clr 5 2 = [17, 18, 19] := rfl
theorem clr_5_3 : C.clr 5 3 = [20, 21] := rfl
theorem clr_5_4 : C.clr 5 4 = [10, 11, 22, 23, 24, 25, 26, 27, 28, 29, 30, 31, 32, 33, 34, 35, 36, 37, 38, 39, 40] := rfl
theorem clr_5_5 : C.clr 5 5 = [0, 1, 2, 3, 9, 41, 42] := rfl
theorem clr_5_6 : C.clr 5 6 = [9, 12, 41, 43, 44, 45, 46, 47, 48] := rfl
theorem clr_5_7 : C.clr 5 7 = [14, 49, 50, 51, 52, 53, 54, 55, 56] := rfl
theorem clr_5_8 : C.clr 5 8 = [13, 15, 57, 58, 59, 60, 61] := rfl
theorem clr_5_9 : C.clr 5 9 = [0, 1, 2, 3, 62] := rfl
theorem clr_5_10 : C.clr 5 10 = [62, 63, 64, 65, 66] := rfl
theorem clr_5_11 : C.clr 5 11 = [0, 1, 2, 3, 67] := rfl
theorem clr_5_12 : C.clr 5 12 = [0, 1, 2, 3, 67, 68, 69, 70, 71, 72, 73, 74, 75, 76, 77, 78, 79, 80, 81, 82, 83] := rfl
theorem ord_5_12 : C.ord 5 12 = [0, 1, 2, 3, 4, 5, 6, 7, 8, 9, 10, 11, 12, 13, 14, 15, 16] := rfl
theorem ro_5_12 : C.ro 5 12 = true := rfl
theorem res_6 : Try.f6.results.toList = [.tmp 4] := rfl
theorem esc_6 : C.esc 6 = [] := rfl
theorem clr_6_0 : C.clr 6 0 = [1, 4] := rfl
theorem clr_6_1 : C.clr 6 1 = [11] := rfl
theorem clr_6_2 : C.clr 6 2 = [12, 13] := rfl
theorem clr_6_3 : C.clr 6 3 = [6, 14, 15, 16, 17, 18] := rfl
theorem clr_6_4 : C.clr 6 4 = [0, 3, 5, 19, 20] := rfl
theorem clr_6_5 : C.clr 6 5 = [5, 19, 21, 22, 23, 24, 25, 26] := rfl
theorem ord_6_5 : C.ord 6 5 = [0, 1, 2, 3, 4, 5, 6] := rfl
theorem ro_6_5 : C.ro 6 5 = false := rfl
theorem clr_6_6 : C.clr 6 6 = [27, 28, 29, 30, 31, 32] := rfl
theorem ord_6_6 : C.ord 6 6 = [0, 1, 2, 3, 4, 5, 6] := rfl
theorem ro_6_6 : C.ro 6 6 = false := rfl
theorem clr_6_7 : C.clr 6 7 = [33, 34] := rfl
theorem clr_6_8 : C.clr 6 8 = [3, 35, 36, 37, 38, 39, 40, 41, 42, 43, 44, 45, 46, 47, 48, 49, 50, 51, 52, 53, 54, 55, 56, 57, 58, 59, 60, 61, 62, 63, 64, 65, 66, 67, 68, 69, 70, 71, 72, 73, 74] := rfl
theorem ord_6_8 : C.ord 6 8 = [0, 1, 2, 3, 4, 5, 6, 7, 8, 9, 10, 11, 12, 13, 14, 15, 16, 17, 18, 19, 20, 21, 22, 23, 24, 25, 26, 27, 28, 29, 30, 31, 32, 33, 34, 35, 36, 37, 38, 39, 40] := rfl
theorem ro_6_8 : C.ro 6 8 = true := rfl
theorem clr_6_9 : C.clr 6 9 = [0, 7, 8, 9, 75] := rfl
theorem clr_6_10 : C.clr 6 10 = [75] := rfl
theorem clr_6_11 : C.clr 6 11 = [76, 77, 78] := rfl
theorem clr_6_13 : C.clr 6 13 = [79, 82, 83, 84, 85, 86, 87, 88, 89, 90, 91, 92, 93, 94, 95, 96, 97, 98, 99, 100, 101, 102, 103, 104, 105, 106, 107, 108, 109, 110, 111, 112, 113, 114] := rfl
theorem ord_6_13 : C.ord 6 13 = [0, 1, 2, 3, 4, 5, 6, 7, 8, 9, 10, 11, 12, 13, 14, 15, 16, 17, 18, 19, 20, 21, 22, 23, 24, 25, 26, 27, 28, 29, 30, 31, 32, 33] := rfl
theorem ro_6_13 : C.ro 6 13 = true := rfl
theorem clr_6_14 : C.clr 6 14 = [0, 7, 8, 9, 10, 115] := rfl
theorem clr_6_12 : C.clr 6 12 = [80, 81, 115] := rfl
theorem clr_6_15 : C.clr 6 15 = [0, 7, 8, 9, 10, 79] := rfl
theorem res_7 : Try.f7.results.toList = [.tmp 0] := rfl
theorem esc_7 : C.esc 7 = [] := rfl
theorem clr_7_0 : C.clr 7 0 = [0] := rfl
theorem clr_7_1 : C.clr 7 1 = [7, 8, 9] := rfl
theorem clr_7_2 : C.clr 7 2 = [10, 11, 12] := rfl
theorem clr_7_3 : C.clr 7 3 = [13, 14, 15, 16, 17] := rfl
theorem ord_7_3 : C.ord 7 3 = [1, 2, 3, 0, 4, 5] := rfl
theorem ro_7_3 : C.ro 7 3 = true := rfl
theorem clr_7_4 : C.clr 7 4 = [2, 18, 19, 20, 21, 22, 23, 24] := rfl
theorem ord_7_4 : C.ord 7 4 = [1, 2, 3, 4, 5, 0, 6, 7] := rfl
theorem ro_7_4 : C.ro 7 4 = true := rfl
theorem clr_7_5 : C.clr 7 5 = [5, 25, 26, 27, 28, 29, 30] := rfl
theorem clr_7_6 : C.clr 7 6 = [1, 3, 4, 6, 31, 32, 33, 34, 35, 36, 37, 38, 39, 40, 41, 42, 43, 44, 45, 46] := rfl
theorem res_8 : Try.f8.results.toList = [.tmp 6] := rfl
theorem esc_8 : C.esc 8 = [] := rfl
theorem clr_8_0 : C.clr 8 0 = [6] := rfl
theorem clr_8_1 : C.clr 8 1 = [0, 12, 13] := rfl
theorem clr_8_2 : C.clr 8 2 = [7, 14, 15, 16, 17, 18, 19] := rfl
theorem clr_8_3 : C.clr 8 3 = [1, 2, 20] := rfl
theorem clr_8_4 : C.clr 8 4 = [20] := rfl
theorem clr_8_5 : C.clr 8 5 = [21, 22, 23] := rfl
theorem clr_8_7 : C.clr 8 7 = [24, 27, 28, 29, 30, 31, 32] := rfl
theorem clr_8_8 : C.clr 8 8 = [33, 34, 35, 36, 37, 38] := rfl
theorem clr_8_9 : C.clr 8 9 = [9, 10, 39, 40, 41, 42, 43] := rfl
theorem clr_8_10 : C.clr 8 10 = [1, 2, 8, 44] := rfl
theorem clr_8_6 : C.clr 8 6 = [25, 26, 44] := rfl
theorem clr_8_11 : C.clr 8 11 = [1, 2, 8, 24, 45, 46] := rfl
theorem clr_8_12 : C.clr 8 12 = [11, 47] := rfl
theorem res_9 : Try.f9.results.toList = [.tmp 2] := rfl
theorem esc_9 : C.esc 9 = [] := rfl
theorem clr_9_0 : C.clr 9 0 = [2] := rfl
theorem clr_9_1 : C.clr 9 1 = [0, 4, 5] := rfl
theorem clr_9_2 : C.clr 9 2 = [3, 6] := rfl
theorem res_10 : Try.f10.results.toList = [.tmp 6] := rfl
theorem esc_10 : C.esc 10 = [] := rfl
theorem clr_10_0 : C.clr 10 0 = [6] := rfl
theorem clr_10_1 : C.clr 10 1 = [9, 10] := rfl
theorem clr_10_2 : C.clr 10 2 = [0, 1, 2, 11] := rfl
theorem clr_10_3 : C.clr 10 3 = [11] := rfl
theorem clr_10_4 : C.clr 10 4 = [12, 13, 14] := rfl
theorem clr_10_6 : C.clr 10 6 = [15, 18, 19, 20, 21, 22, 23, 24] := rfl
theorem clr_10_7 : C.clr 10 7 = [8, 25] := rfl
theorem clr_10_8 : C.clr 10 8 = [0, 1, 2, 7, 26] := rfl
theorem clr_10_5 : C.clr 10 5 = [16, 17, 26] := rfl
theorem clr_10_9 : C.clr 10 9 = [0, 1, 2, 7, 15] := rfl
theorem res_11 : Try.f11.results.toList = [.tmp 6] := rfl
theorem esc_11 : C.esc 11 = [] := rfl
theorem clr_11_0 : C.clr 11 0 = [0, 6] := rfl
theorem clr_11_1 : C.clr 11 1 = [8, 9] := rfl
theorem clr_11_2 : C.clr 11 2 = [1, 2, 3, 7, 10, 11, 12, 13, 14, 15, 16, 17, 18, 19, 20, 21, 22] := rfl
theorem res_12 : Try.f12.results.toList = [.tmp 2, .tmp 3] := rfl
theorem esc_12 : C.esc 12 = [1] := rfl
theorem clr_12_0 : C.clr 12 0 = [0, 2, 3] := rfl
theorem clr_12_1 : C.clr 12 1 = [1, 4, 5, 6, 7, 8] := rfl
theorem res_13 : Try.f13.results.toList = [.cell 4 3, .cell 5 32] := rfl
theorem esc_13 : C.esc 13 = [2, 4, 5] := rfl
theorem clr_13_0 : C.clr 13 0 = [0] := rfl
theorem clr_13_1 : C.clr 13 1 = [9, 10] := rfl
theorem clr_13_2 : C.clr 13 2 = [1, 2, 11] := rfl
theorem clr_13_3 : C.clr 13 3 = [1, 11, 12] := rfl
theorem clr_13_4 : C.clr 13 4 = [13, 14] := rfl
theorem clr_13_5 : C.clr 13 5 = [15] := rfl
theorem clr_13_6 : C.clr 13 6 = [2, 7, 16, 17, 18, 19] := rfl
theorem clr_13_7 : C.clr 13 7 = [20] := rfl
theorem clr_13_8 : C.clr 13 8 = [6, 8, 21, 22, 23, 24] := rfl
theorem clr_13_9 : C.clr 13 9 = [2, 13] := rfl
theorem res_14 : Try.f14.results.toList = [.tmp 8] := rfl
theorem esc_14 : C.esc 14 = [4, 5, 6, 9] := rfl
theorem clr_14_0 : C.clr 14 0 = [0, 1, 2, 8] := rfl
theorem clr_14_1 : C.clr 14 1 = [12, 13, 14, 15] := rfl
theorem clr_14_2 : C.clr 14 2 = [3, 4, 5, 6, 9, 10, 16, 17, 18, 19, 20, 21] := rfl
theorem clr_14_3 : C.clr 14 3 = [11, 22] := rfl
theorem res_15 : Try.f15.results.toList = [.tmp 8] := rfl
theorem esc_15 : C.esc 15 = [] := rfl
theorem clr_15_0 : C.clr 15 0 = [3, 8] := rfl
theorem clr_15_1 : C.clr 15 1 = [0, 1, 2, 10, 11, 12, 13] := rfl
theorem clr_15_2 : C.clr 15 2 = [14, 15, 16, 17] := rfl
theorem clr_15_3 : C.clr 15 3 = [7, 9, 18] := rfl
theorem clr_15_4 : C.clr 15 4 = [7, 9, 18, 19, 20, 21] := rfl
theorem res_16 : Try.f16.results.toList = [.tmp 10] := rfl
theorem esc_16 : C.esc 16 = [] := rfl
theorem clr_16_0 : C.clr 16 0 = [3, 4, 10] := rfl
theorem clr_16_1 : C.clr 16 1 = [0, 1, 2, 12, 13, 14, 15] := rfl
theorem clr_16_2 : C.clr 16 2 = [16, 17, 18, 19, 20] := rfl
theorem clr_16_3 : C.clr 16 3 = [8, 9, 11, 21] := rfl
theorem clr_16_4 : C.clr 16 4 = [8, 9, 11, 21, 22, 23, 24, 25] := rfl
theorem res_17 : Try.f17.results.toList = [.cell 10 32] := rfl
theorem esc_17 : C.esc 17 = [5, 6, 7, 8, 10] := rfl
theorem clr_17_0 : C.clr 17 0 = [0, 1, 2, 3] := rfl
theorem clr_17_1 : C.clr 17 1 = [18, 19, 20] := rfl
theorem clr_17_2 : C.clr 17 2 = [4, 5, 6, 7, 8, 17] := rfl
theorem clr_17_3 : C.clr 17 3 = [17, 22, 23, 24, 25, 26] := rfl
theorem clr_17_4 : C.clr 17 4 = [4, 5, 6, 7, 8, 21] := rfl
theorem clr_17_5 : C.clr 17 5 = [4, 21, 27] := rfl
theorem clr_17_6 : C.clr 17 6 = [28, 29] := rfl
theorem clr_17_7 : C.clr 17 7 = [30] := rfl
theorem clr_17_8 : C.clr 17 8 = [8, 31, 32, 33, 34, 35] := rfl
theorem clr_17_9 : C.clr 17 9 = [36, 37, 38, 39, 40, 41, 42] := rfl
theorem clr_17_10 : C.clr 17 10 = [43] := rfl
theorem clr_17_11 : C.clr 17 11 = [5, 6, 7, 11, 12, 13, 14, 15, 44, 45] := rfl
theorem clr_17_12 : C.clr 17 12 = [11, 44, 46, 47, 48, 49, 50, 51, 52, 53, 54, 55] := rfl
theorem clr_17_13 : C.clr 17 13 = [56] := rfl
theorem clr_17_14 : C.clr 17 14 = [5, 7, 14, 16, 57, 58, 59, 60, 61, 62, 63, 64, 65, 66] := rfl
theorem ord_17_14 : C.ord 17 14 = [0, 1, 2, 3, 4, 6, 7, 5, 8, 9] := rfl
theorem ro_17_14 : C.ro 17 14 = true := rfl
theorem clr_17_15 : C.clr 17 15 = [5, 6, 7, 12, 13, 14, 16, 57, 67, 68, 69, 70, 71, 72, 73, 74, 75, 76, 77] := rfl
theorem clr_17_16 : C.clr 17 16 = [78] := rfl
theorem clr_17_17 : C.clr 17 17 = [78, 79] := rfl
theorem clr_17_18 : C.clr 17 18 = [15, 80, 81] := rfl
theorem clr_17_19 : C.clr 17 19 = [5, 6, 7, 8, 28] := rfl
theorem res_18 : Try.f18.results.toList = [.tmp 6, .tmp 7] := rfl
theorem esc_18 : C.esc 18 = [4, 5] := rfl
theorem clr_18_0 : C.clr 18 0 = [1, 2, 6, 7] := rfl
theorem clr_18_1 : C.clr 18 1 = [0, 4, 5, 8, 9, 10, 11, 12] := rfl
theorem res_19 : Try.f19.results.toList = [.cell 6 26, .tmp 7] := rfl
theorem esc_19 : C.esc 19 = [] := rfl
theorem clr_19_0 : C.clr 19 0 = [0, 7] := rfl
theorem clr_19_1 : C.clr 19 1 = [10, 11, 12, 13, 14, 15, 16, 17, 18, 19, 20, 21, 22, 23, 24, 25, 26, 27] := rfl
theorem clr_19_2 : C.clr 19 2 = [1, 2, 3, 28, 29] := rfl
theorem clr_19_3 : C.clr 19 3 = [1, 2, 3, 28, 30, 31, 32, 33, 34, 35, 36] := rfl
theorem clr_19_4 : C.clr 19 4 = [38, 39] := rfl
theorem clr_19_5 : C.clr 19 5 = [8, 9, 37, 40, 41] := rfl
theorem clr_19_6 : C.clr 19 6 = [9, 37, 43, 44] := rfl
theorem clr_19_7 : C.clr 19 7 = [8, 42, 45] := rfl
theorem clr_19_8 : C.clr 19 8 = [8, 42, 46] := rfl
theorem res_20 : Try.f20.results.toList = [.tmp 2] := rfl
theorem esc_20 : C.esc 20 = [] := rfl
theorem clr_20_0 : C.clr 20 0 = [2] := rfl
theorem clr_20_1 : C.clr 20 1 = [] := rfl
theorem clr_20_2 : C.clr 20 2 = [] := rfl
theorem clr_20_3 : C.clr 20 3 = [5, 6, 7] := rfl
theorem clr_20_5 : C.clr 20 5 = [8, 11, 12, 13, 14, 15, 16, 17, 18, 19, 20, 21, 22, 23] := rfl
theorem clr_20_4 : C.clr 20 4 = [9, 10] := rfl
theorem clr_20_6 : C.clr 20 6 = [0, 3, 4, 8, 24] := rfl
theorem res_21 : Try.f21.results.toList = [.tmp 2] := rfl
theorem esc_21 : C.esc 21 = [] := rfl
theorem clr_21_0 : C.clr 21 0 = [2] := rfl
theorem clr_21_1 : C.clr 21 1 = [] := rfl
theorem clr_21_2 : C.clr 21 2 = [0] := rfl
theorem clr_21_3 : C.clr 21 3 = [] := rfl
theorem clr_21_4 : C.clr 21 4 = [9, 10, 11] := rfl
theorem clr_21_5 : C.clr 21 5 = [5, 12, 13, 14, 15, 16, 17] := rfl
theorem clr_21_6 : C.clr 21 6 = [18] := rfl
theorem clr_21_7 : C.clr 21 7 = [3, 6, 7, 8, 9, 19] := rfl
theorem res_22 : Try.f22.results.toList = [.tmp 2] := rfl
theorem esc_22 : C.esc 22 = [] := rfl
theorem clr_22_0 : C.clr 22 0 = [2] := rfl
theorem clr_22_1 : C.clr 22 1 = [] := rfl
theorem clr_22_2 : C.clr 22 2 = [0] := rfl
theorem clr_22_3 : C.clr 22 3 = [] := rfl
theorem clr_22_4 : C.clr 22 4 = [9, 10, 11] := rfl
theorem clr_22_5 : C.clr 22 5 = [5, 12, 13, 14, 15, 16] := rfl
theorem clr_22_6 : C.clr 22 6 = [17] := rfl
theorem clr_22_7 : C.clr 22 7 = [3, 6, 7, 8, 9, 18] := rfl
theorem res_23 : Try.f23.results.toList = [.tmp 0] := rfl
theorem esc_23 : C.esc 23 = [] := rfl
theorem clr_23_0 : C.clr 23 0 = [0] := rfl
theorem clr_23_1 : C.clr 23 1 = [2] := rfl
theorem clr_23_2 : C.clr 23 2 = [1, 3, 4, 5, 6, 7, 8, 9, 10, 11] := rfl
theorem res_24 : Try.f24.results.toList = [.tmp 2] := rfl
theorem esc_24 : C.esc 24 = [] := rfl
theorem clr_24_0 : C.clr 24 0 = [2] := rfl
theorem clr_24_1 : C.clr 24 1 = [5, 6] := rfl
theorem clr_24_2 : C.clr 24 2 = [0, 7] := rfl
theorem clr_24_3 : C.clr 24 3 = [7] := rfl
theorem clr_24_4 : C.clr 24 4 = [8, 9, 10] := rfl
theorem clr_24_6 : C.clr 24 6 = [11, 14, 15, 16, 17, 18, 19] := rfl
theorem clr_24_7 : C.clr 24 7 = [4, 20] := rfl
theorem clr_24_8 : C.clr 24 8 = [0, 3, 21] := rfl
theorem clr_24_5 : C.clr 24 5 = [12, 13, 21] := rfl
theorem clr_24_9 : C.clr 24 9 = [0, 3, 11] := rfl
theorem res_25 : Try.f25.results.toList = [.tmp 2] := rfl
theorem esc_25 : C.esc 25 = [] := rfl
theorem clr_25_0 : C.clr 25 0 = [0, 2] := rfl
theorem clr_25_1 : C.clr 25 1 = [5, 6] := rfl
theorem clr_25_2 : C.clr 25 2 = [1, 7] := rfl
theorem clr_25_3 : C.clr 25 3 = [7] := rfl
theorem clr_25_4 : C.clr 25 4 = [8, 9, 10, 11] := rfl
theorem clr_25_6 : C.clr 25 6 = [12, 15, 16, 17, 18, 19, 20] := rfl
theorem clr_25_7 : C.clr 25 7 = [4, 21] := rfl
theorem clr_25_8 : C.clr 25 8 = [1, 3, 22] := rfl
theorem clr_25_5 : C.clr 25 5 = [13, 14, 22] := rfl
theorem clr_25_9 : C.clr 25 9 = [1, 3, 12] := rfl
theorem res_26 : Try.f26.results.toList = [.tmp 2] := rfl
theorem esc_26 : C.esc 26 = [] := rfl
theorem clr_26_0 : C.clr 26 0 = [0, 2] := rfl
theorem clr_26_1 : C.clr 26 1 = [] := rfl
theorem clr_26_2 : C.clr 26 2 = [] := rfl
theorem clr_26_3 : C.clr 26 3 = [5, 6, 7, 8] := rfl
theorem clr_26_5 : C.clr 26 5 = [9, 12, 13, 14, 15, 16, 17, 18, 19] := rfl
theorem clr_26_4 : C.clr 26 4 = [10, 11] := rfl
theorem clr_26_6 : C.clr 26 6 = [1, 3, 4, 9, 20] := rfl
theorem res_27 : Try.f27.results.toList = [.tmp 2] := rfl
theorem esc_27 : C.esc 27 = [] := rfl
theorem clr_27_0 : C.clr 27 0 = [0, 2] := rfl
theorem clr_27_1 : C.clr 27 1 = [] := rfl
theorem clr_27_2 : C.clr 27 2 = [] := rfl
theorem clr_27_3 : C.clr 27 3 = [6, 7, 8, 9] := rfl
theorem clr_27_5 : C.clr 27 5 = [10, 13, 14, 15, 16, 17, 18] := rfl
theorem clr_27_6 : C.clr 27 6 = [19, 20] := rfl
theorem clr_27_7 : C.clr 27 7 = [5, 21, 22] := rfl
theorem clr_27_4 : C.clr 27 4 = [5, 11, 12, 21] := rfl
theorem clr_27_8 : C.clr 27 8 = [1, 3, 4, 10, 23, 24] := rfl
theorem res_28 : Try.f28.results.toList = [.tmp 4, .tmp 5] := rfl
theorem esc_28 : C.esc 28 = [] := rfl
theorem clr_28_0 : C.clr 28 0 = [4, 5] := rfl
theorem clr_28_1 : C.clr 28 1 = [9, 10] := rfl
theorem clr_28_2 : C.clr 28 2 = [0, 1, 11] := rfl
theorem clr_28_3 : C.clr 28 3 = [0, 11] := rfl
theorem clr_28_4 : C.clr 28 4 = [] := rfl
theorem clr_28_5 : C.clr 28 5 = [15, 16, 17, 18] := rfl
theorem clr_28_6 : C.clr 28 6 = [7, 19, 20, 21, 22] := rfl
theorem clr_28_7 : C.clr 28 7 = [23] := rfl
theorem clr_28_8 : C.clr 28 8 = [1, 6, 8, 12, 13, 14, 24, 25, 26] := rfl
theorem clr_28_9 : C.clr 28 9 = [6, 8, 24, 27] := rfl
theorem clr_28_10 : C.clr 28 10 = [1, 12, 13, 14, 15] := rfl
theorem res_29 : Try.f29.results.toList = [.tmp 5] := rfl
theorem esc_29 : C.esc 29 = [] := rfl
theorem clr_29_0 : C.clr 29 0 = [1, 5] := rfl
theorem clr_29_1 : C.clr 29 1 = [6, 7] := rfl
theorem clr_29_2 : C.clr 29 2 = [0, 2, 4, 8, 9, 10, 11, 12, 13, 14] := rfl
theorem ord_29_2 : C.ord 29 2 = [0, 1, 2, 3, 4, 5, 6] := rfl
theorem ro_29_2 : C.ro 29 2 = true := rfl
theorem clr_29_3 : C.clr 29 3 = [0, 2, 4, 8, 15, 16, 17, 18, 19, 20] := rfl
theorem ord_29_3 : C.ord 29 3 = [0, 1, 2, 3, 4, 5, 6] := rfl
theorem ro_29_3 : C.ro 29 3 = true := rfl
theorem res_30 : Try.f30.results.toList = [.tmp 2] := rfl
theorem esc_30 : C.esc 30 = [] := rfl
theorem clr_30_0 : C.clr 30 0 = [0, 2] := rfl
theorem clr_30_1 : C.clr 30 1 = [1, 3, 4, 5, 6] := rfl
theorem res_31 : Try.f31.results.toList = [.tmp 8] := rfl
theorem esc_31 : C.esc 31 = [] := rfl
theorem clr_31_0 : C.clr 31 0 = [3, 8] := rfl
theorem clr_31_1 : C.clr 31 1 = [0, 1, 2, 10, 11, 12, 13] := rfl
theorem clr_31_2 : C.clr 31 2 = [14, 15, 16, 17] := rfl
theorem clr_31_3 : C.clr 31 3 = [7, 9, 18] := rfl
theorem clr_31_4 : C.clr 31 4 = [7, 9, 18, 19, 20, 21] := rfl
theorem res_32 : Try.f32.results.toList = [.tmp 2] := rfl
theorem esc_32 : C.esc 32 = [1] := rfl
theorem clr_32_0 : C.clr 32 0 = [0, 2] := rfl
theorem clr_32_1 : C.clr 32 1 = [1, 3] := rfl
theorem res_33 : Try.f33.results.toList = [.tmp 6] := rfl
theorem esc_33 : C.esc 33 = [] := rfl
theorem clr_33_0 : C.clr 33 0 = [2, 6] := rfl
theorem clr_33_1 : C.clr 33 1 = [8, 9, 10, 11, 12] := rfl
theorem clr_33_2 : C.clr 33 2 = [13] := rfl
theorem clr_33_3 : C.clr 33 3 = [0, 1, 5, 7, 14, 15] := rfl
theorem clr_33_4 : C.clr 33 4 = [7, 14, 16, 17, 18, 19, 20, 21, 22, 23, 24, 25, 26, 27, 28] := rfl
theorem clr_33_5 : C.clr 33 5 = [0, 1, 5, 29] := rfl
theorem clr_33_6 : C.clr 33 6 = [0, 1, 5, 29, 30, 31, 32, 33, 34, 35, 36] := rfl
theorem res_34 : Try.f34.results.toList = [.tmp 2] := rfl
theorem esc_34 : C.esc 34 = [] := rfl
theorem clr_34_0 : C.clr 34 0 = [2] := rfl
theorem clr_34_1 : C.clr 34 1 = [] := rfl
theorem clr_34_2 : C.clr 34 2 = [] := rfl
theorem clr_34_3 : C.clr 34 3 = [] := rfl
theorem clr_34_4 : C.clr 34 4 = [12, 13, 14] := rfl
theorem clr_34_5 : C.clr 34 5 = [5, 15, 16, 17, 18] := rfl
theorem clr_34_6 : C.clr 34 6 = [19] := rfl
theorem clr_34_7 : C.clr 34 7 = [20, 21] := rfl
theorem clr_34_8 : C.clr 34 8 = [20, 22] := rfl
theorem clr_34_9 : C.clr 34 9 = [3, 9, 10, 11, 12, 23, 24] := rfl
theorem clr_34_10 : C.clr 34 10 = [0] := rfl
theorem clr_34_11 : C.clr 34 11 = [] := rfl
theorem clr_34_12 : C.clr 34 12 = [28, 29, 30] := rfl
theorem clr_34_13 : C.clr 34 13 = [8, 31, 32, 33] := rfl
theorem clr_34_14 : C.clr 34 14 = [34] := rfl
theorem clr_34_15 : C.clr 34 15 = [6, 25, 26, 27, 28, 35] := rfl
theorem res_35 : Try.f35.results.toList = [.tmp 4, .tmp 5] := rfl
theorem esc_35 : C.esc 35 = [] := rfl
theorem clr_35_0 : C.clr 35 0 = [4, 5] := rfl
theorem clr_35_1 : C.clr 35 1 = [9, 10] := rfl
theorem clr_35_2 : C.clr 35 2 = [0, 1, 11] := rfl
theorem clr_35_3 : C.clr 35 3 = [0, 11] := rfl
theorem clr_35_4 : C.clr 35 4 = [] := rfl
theorem clr_35_5 : C.clr 35 5 = [15, 16, 17, 18] := rfl
theorem clr_35_6 : C.clr 35 6 = [7, 19, 20, 21, 22] := rfl
theorem clr_35_7 : C.clr 35 7 = [23] := rfl
theorem clr_35_8 : C.clr 35 8 = [1, 6, 8, 12, 13, 14, 24, 25, 26] := rfl
theorem clr_35_9 : C.clr 35 9 = [6, 8, 24, 27] := rfl
theorem clr_35_10 : C.clr 35 10 = [1, 12, 13, 14, 15] := rfl
theorem res_36 : Try.f36.results.toList = [.tmp 8] := rfl
theorem esc_36 : C.esc 36 = [] := rfl
theorem clr_36_0 : C.clr 36 0 = [1, 8] := rfl
theorem clr_36_1 : C.clr 36 1 = [0, 2, 3, 4, 5, 7, 9, 10, 11, 12, 13, 14, 15, 16, 17, 18] := rfl
theorem ord_36_1 : C.ord 36 1 = [0, 1, 2, 3, 4, 5, 6, 7, 8, 9, 10] := rfl
theorem ro_36_1 : C.ro 36 1 = true := rfl
theorem res_37 : Try.f37.results.toList = [.tmp 4] := rfl
theorem esc_37 : C.esc 37 = [5] := rfl
theorem clr_37_0 : C.clr 37 0 = [0, 4] := rfl
theorem clr_37_1 : C.clr 37 1 = [] := rfl
theorem clr_37_2 : C.clr 37 2 = [1, 7, 8, 9, 10, 11, 12, 13, 14, 15, 16, 17, 18, 19, 20] := rfl
theorem clr_37_3 : C.clr 37 3 = [2, 5, 21] := rfl
theorem clr_37_4 : C.clr 37 4 = [21, 22] := rfl
theorem clr_37_5 : C.clr 37 5 = [2, 5, 6, 23, 24, 25, 26, 27, 28, 29, 30, 31, 32, 33, 34] := rfl
theorem res_38 : Try.f38.results.toList = [.tmp 4] := rfl
theorem esc_38 : C.esc 38 = [] := rfl
theorem clr_38_0 : C.clr 38 0 = [0, 1, 4] := rfl
theorem clr_38_1 : C.clr 38 1 = [7] := rfl
theorem clr_38_2 : C.clr 38 2 = [10] := rfl
theorem clr_38_3 : C.clr 38 3 = [2, 3, 8, 9, 11, 12, 13] := rfl
theorem clr_38_4 : C.clr 38 4 = [8, 9, 15] := rfl
theorem clr_38_5 : C.clr 38 5 = [14, 16, 17, 18, 19, 20, 21, 22] := rfl
theorem clr_38_6 : C.clr 38 6 = [23] := rfl
theorem clr_38_7 : C.clr 38 7 = [2, 3, 24, 25, 26, 27, 28, 29, 30, 31, 32] := rfl
theorem clr_38_8 : C.clr 38 8 = [2, 3, 5, 24, 33, 34, 35, 36, 37, 38] := rfl
theorem clr_38_9 : C.clr 38 9 = [39] := rfl
theorem clr_38_10 : C.clr 38 10 = [6, 39, 40] := rfl
theorem clr_38_11 : C.clr 38 11 = [2, 3, 14] := rfl
theorem res_39 : Try.f39.results.toList = [.tmp 6] := rfl
theorem esc_39 : C.esc 39 = [] := rfl
theorem clr_39_0 : C.clr 39 0 = [0, 1, 2, 6] := rfl
theorem clr_39_1 : C.clr 39 1 = [11, 12, 13, 14, 15, 16, 17, 18] := rfl
theorem clr_39_2 : C.clr 39 2 = [3, 4, 5, 10, 19, 20, 21, 22, 23, 24, 25, 26, 27, 28, 29, 30, 31, 32, 33] := rfl
theorem ord_39_2 : C.ord 39 2 = [0, 1, 2, 3, 4, 6, 7, 8, 9, 10, 11, 12, 13, 5, 14, 15] := rfl
theorem ro_39_2 : C.ro 39 2 = true := rfl
theorem clr_39_3 : C.clr 39 3 = [10, 35, 36, 37, 38, 39, 40, 41, 42] := rfl
theorem clr_39_4 : C.clr 39 4 = [3, 4, 5, 34] := rfl
theorem clr_39_5 : C.clr 39 5 = [34, 43] := rfl
theorem clr_39_6 : C.clr 39 6 = [3, 4, 7, 44, 45, 46, 47, 48, 49, 50, 51, 52, 53] := rfl
theorem ord_39_6 : C.ord 39 6 = [0, 1, 2, 3, 4, 5, 10, 6, 7, 8, 9, 11, 12] := rfl
theorem ro_39_6 : C.ro 39 6 = false := rfl
theorem clr_39_7 : C.clr 39 7 = [5, 8, 54, 55, 56, 57, 58, 59, 60] := rfl
theorem clr_39_8 : C.clr 39 8 = [61] := rfl
theorem clr_39_9 : C.clr 39 9 = [9, 61, 62] := rfl
theorem res_40 : Try.f40.results.toList = [.tmp 2] := rfl
theorem esc_40 : C.esc 40 = [1] := rfl
theorem clr_40_0 : C.clr 40 0 = [0, 2] := rfl
theorem clr_40_1 : C.clr 40 1 = [1, 3] := rfl
theorem res_41 : Try.f41.results.toList = [.tmp 4] := rfl
theorem esc_41 : C.esc 41 = [] := rfl
theorem clr_41_0 : C.clr 41 0 = [0, 4] := rfl
theorem clr_41_1 : C.clr 41 1 = [5, 6] := rfl
theorem clr_41_2 : C.clr 41 2 = [1, 2, 7, 8, 9, 10, 11, 12, 13, 14, 15, 16, 17, 18, 19, 20] := rfl
theorem clr_41_3 : C.clr 41 3 = [1, 2, 7, 21, 22, 23, 24, 25, 26, 27, 28, 29] := rfl
theorem res_42 : Try.f42.results.toList = [.tmp 4, .tmp 5] := rfl
theorem esc_42 : C.esc 42 = [] := rfl
theorem clr_42_0 : C.clr 42 0 = [4, 5] := rfl
theorem clr_42_1 : C.clr 42 1 = [] := rfl
theorem clr_42_2 : C.clr 42 2 = [0] := rfl
theorem clr_42_3 : C.clr 42 3 = [] := rfl
theorem clr_42_4 : C.clr 42 4 = [14, 15, 16, 17] := rfl
theorem clr_42_5 : C.clr 42 5 = [7, 8, 18, 19, 20, 21, 22, 23, 24] := rfl
theorem clr_42_6 : C.clr 42 6 = [25] := rfl
theorem clr_42_7 : C.clr 42 7 = [1, 6, 9, 10, 11, 12, 13, 26, 27] := rfl
theorem clr_42_8 : C.clr 42 8 = [9, 10, 26, 28, 29, 30, 31] := rfl
theorem clr_42_9 : C.clr 42 9 = [32] := rfl
theorem clr_42_10 : C.clr 42 10 = [1, 6, 11, 12, 13, 14, 33] := rfl
theorem res_43 : Try.f43.results.toList = [.cell 6 26, .tmp 7] := rfl
theorem esc_43 : C.esc 43 = [] := rfl
theorem clr_43_0 : C.clr 43 0 = [1, 7] := rfl
theorem clr_43_1 : C.clr 43 1 = [0, 2, 3, 5, 8, 9, 10, 11, 12, 13, 14, 15] := rfl
theorem res_44 : Try.f44.results.toList = [.tmp 2] := rfl
theorem esc_44 : C.esc 44 = [] := rfl
theorem clr_44_0 : C.clr 44 0 = [0, 2] := rfl
theorem clr_44_1 : C.clr 44 1 = [1, 3, 4, 5] := rfl
theorem res_45 : Try.f45.results.toList = [.tmp 4] := rfl
theorem esc_45 : C.esc 45 = [] := rfl
theorem clr_45_0 : C.clr 45 0 = [4] := rfl
theorem clr_45_1 : C.clr 45 1 = [0, 1, 5, 6, 7, 8] := rfl
theorem res_46 : Try.f46.results.toList = [.cell 6 26, .tmp 7] := rfl
theorem esc_46 : C.esc 46 = [3, 4, 5, 8] := rfl
theorem clr_46_0 : C.clr 46 0 = [0, 1, 2, 7] := rfl
theorem clr_46_1 : C.clr 46 1 = [11, 12, 13, 14, 15, 16, 17, 18] := rfl
theorem clr_46_2 : C.clr 46 2 = [8, 19, 20, 21, 22, 23, 24, 25] := rfl
theorem clr_46_3 : C.clr 46 3 = [27, 28] := rfl
theorem clr_46_4 : C.clr 46 4 = [3, 4, 5, 9, 10, 26, 29, 30] := rfl
theorem clr_46_5 : C.clr 46 5 = [10, 26, 32, 33, 34] := rfl
theorem clr_46_6 : C.clr 46 6 = [3, 4, 5, 9, 31, 35, 36, 37, 38, 39, 40] := rfl
theorem clr_46_7 : C.clr 46 7 = [31, 42, 43, 44, 45, 46] := rfl
theorem clr_46_8 : C.clr 46 8 = [3, 4, 5, 9, 41, 47] := rfl
theorem clr_46_9 : C.clr 46 9 = [41, 49, 50] := rfl
theorem clr_46_10 : C.clr 46 10 = [3, 4, 5, 9, 48, 51] := rfl
theorem clr_46_11 : C.clr 46 11 = [3, 4, 5, 9, 48, 52, 53, 54, 55, 56, 57, 58, 59, 60, 61, 62] := rfl
theorem ord_46_11 : C.ord 46 11 = [0, 1, 2, 3, 4, 5, 6, 7, 8, 9, 10, 11, 12] := rfl
theorem ro_46_11 : C.ro 46 11 = false := rfl
theorem res_47 : Try.f47.results.toList = [.cell 2 83] := rfl
theorem esc_47 : C.esc 47 = [] := rfl
theorem clr_47_0 : C.clr 47 0 = [] := rfl
theorem clr_47_1 : C.clr 47 1 = [5, 6, 7] := rfl
theorem clr_47_2 : C.clr 47 2 = [8, 9] := rfl
theorem clr_47_3 : C.clr 47 3 = [] := rfl
theorem clr_47_4 : C.clr 47 4 = [] := rfl
theorem clr_47_5 : C.clr 47 5 = [12, 13] := rfl
theorem clr_47_6 : C.clr 47 6 = [4, 14, 15, 16, 17, 18, 19, 20, 21, 22, 23] := rfl
theorem clr_47_7 : C.clr 47 7 = [24] := rfl
theorem clr_47_8 : C.clr 47 8 = [0, 3, 10, 11, 12, 25] := rfl
theorem res_48 : Try.f48.results.toList = [.cell 2 26] := rfl
theorem esc_48 : C.esc 48 = [1] := rfl
theorem clr_48_0 : C.clr 48 0 = [0] := rfl
theorem clr_48_1 : C.clr 48 1 = [5] := rfl
theorem clr_48_2 : C.clr 48 2 = [2, 6, 7, 8] := rfl
theorem clr_48_3 : C.clr 48 3 = [1, 4, 9] := rfl
theorem clr_48_4 : C.clr 48 4 = [1, 6, 10] := rfl
theorem res_49 : Try.f49.results.toList = [.tmp 4] := rfl
theorem esc_49 : C.esc 49 = [] := rfl
theorem clr_49_0 : C.clr 49 0 = [0, 1, 4] := rfl
theorem clr_49_1 : C.clr 49 1 = [5] := rfl
theorem clr_49_2 : C.clr 49 2 = [8] := rfl
theorem clr_49_3 : C.clr 49 3 = [2, 3, 6, 7] := rfl
theorem clr_49_4 : C.clr 49 4 = [6, 7, 10] := rfl
theorem clr_49_5 : C.clr 49 5 = [2, 3, 9, 11, 12, 13] := rfl
theorem clr_49_6 : C.clr 49 6 = [2, 3, 9] := rfl
theorem res_50 : Try.f50.results.toList = [] := rfl
theorem esc_50 : C.esc 50 = [] := rfl
theorem clr_50_0 : C.clr 50 0 = [] := rfl
theorem clr_50_1 : C.clr 50 1 = [] := rfl
theorem clr_50_2 : C.clr 50 2 = [8, 9, 10, 11] := rfl
theorem clr_50_3 : C.clr 50 3 = [3, 4, 12, 13, 14, 15, 16, 17, 18] := rfl
theorem ord_50_3 : C.ord 50 3 = [0, 1, 2, 3, 4, 5, 6, 7] := rfl
theorem ro_50_3 : C.ro 50 3 = false := rfl
theorem clr_50_4 : C.clr 50 4 = [19, 20] := rfl
theorem res_51 : Try.f51.results.toList = [.tmp 4] := rfl
theorem esc_51 : C.esc 51 = [] := rfl
theorem clr_51_0 : C.clr 51 0 = [4] := rfl
theorem clr_51_1 : C.clr 51 1 = [5] := rfl
theorem clr_51_2 : C.clr 51 2 = [6, 7] := rfl
theorem clr_51_3 : C.clr 51 3 = [6, 8, 9, 10, 11, 12, 13, 14] := rfl
theorem clr_51_4 : C.clr 51 4 = [15] := rfl
theorem clr_51_5 : C.clr 51 5 = [1, 16, 17, 18, 19, 20, 21, 22, 23, 24, 25] := rfl
theorem clr_51_6 : C.clr 51 6 = [0, 1, 16, 26] := rfl
theorem res_52 : Try.f52.results.toList = [.tmp 2] := rfl
theorem esc_52 : C.esc 52 = [] := rfl
theorem clr_52_0 : C.clr 52 0 = [0, 2] := rfl
theorem clr_52_1 : C.clr 52 1 = [1, 3, 4, 5] := rfl
theorem res_53 : Try.f53.results.toList = [.tmp 2] := rfl
theorem esc_53 : C.esc 53 = [] := rfl
theorem clr_53_0 : C.clr 53 0 = [0, 2] := rfl
theorem clr_53_1 : C.clr 53 1 = [1, 3, 4, 5, 6, 7, 8, 9, 10, 11, 12, 13, 14] := rfl
theorem res_54 : Try.f54.results.toList = [.tmp 3] := rfl
theorem esc_54 : C.esc 54 = [] := rfl
theorem clr_54_0 : C.clr 54 0 = [0, 3] := rfl
theorem clr_54_1 : C.clr 54 1 = [1, 2, 4, 5, 6, 7, 8, 9, 10, 11, 12, 13] := rfl
theorem res_55 : Try.f55.results.toList = [.tmp 4] := rfl
theorem esc_55 : C.esc 55 = [] := rfl
theorem clr_55_0 : C.clr 55 0 = [4] := rfl
theorem clr_55_1 : C.clr 55 1 = [0, 1, 5, 6, 7, 8] := rfl
theorem res_56 : Try.f56.results.toList = [.tmp 3] := rfl
theorem esc_56 : C.esc 56 = [] := rfl
theorem clr_56_0 : C.clr 56 0 = [0, 3] := rfl
theorem clr_56_1 : C.clr 56 1 = [1, 2, 4, 5, 6, 7] := rfl
theorem res_57 : Try.f57.results.toList = [.tmp 4] := rfl
theorem esc_57 : C.esc 57 = [] := rfl
theorem clr_57_0 : C.clr 57 0 = [4] := rfl
theorem clr_57_1 : C.clr 57 1 = [0, 1, 5, 6, 7, 8] := rfl
theorem res_58 : Try.f58.results.toList = [.tmp 6] := rfl
theorem esc_58 : C.esc 58 = [] := rfl
theorem clr_58_0 : C.clr 58 0 = [0, 1, 6] := rfl
theorem clr_58_1 : C.clr 58 1 = [8, 9, 10, 11, 12, 13] := rfl
theorem ord_58_1 : C.ord 58 1 = [0, 1, 2, 3, 4, 5, 6] := rfl
theorem ro_58_1 : C.ro 58 1 = true := rfl
theorem clr_58_2 : C.clr 58 2 = [14] := rfl
theorem clr_58_3 : C.clr 58 3 = [2, 3, 4, 7, 15, 16] := rfl
theorem clr_58_4 : C.clr 58 4 = [2, 3, 4, 7, 15, 17, 18, 19, 20, 21, 22, 23, 24, 25, 26, 27, 28] := rfl
theorem ord_58_4 : C.ord 58 4 = [0, 1, 2, 3, 4, 5, 7, 8, 9, 10, 6, 11, 12] := rfl
theorem ro_58_4 : C.ro 58 4 = false := rfl
theorem res_59 : Try.f59.results.toList = [.cell 6 26, .tmp 7] := rfl
theorem esc_59 : C.esc 59 = [] := rfl
theorem clr_59_0 : C.clr 59 0 = [0, 7] := rfl
theorem clr_59_1 : C.clr 59 1 = [2, 8, 9, 10, 11, 12, 13, 14, 15, 16, 17, 18, 19, 20, 21, 22] := rfl
theorem clr_59_2 : C.clr 59 2 = [1, 3, 23, 24] := rfl
theorem clr_59_3 : C.clr 59 3 = [1, 3, 23, 25, 26, 27, 28, 29, 30] := rfl
theorem res_60 : Try.f60.results.toList = [.cell 6 26, .tmp 7] := rfl
theorem esc_60 : C.esc 60 = [] := rfl
theorem clr_60_0 : C.clr 60 0 = [0, 1, 7] := rfl
theorem clr_60_1 : C.clr 60 1 = [2] := rfl
theorem clr_60_2 : C.clr 60 2 = [] := rfl
theorem clr_60_3 : C.clr 60 3 = [16, 17, 18] := rfl
theorem clr_60_4 : C.clr 60 4 = [19, 20] := rfl
theorem clr_60_5 : C.clr 60 5 = [3, 4, 9, 13, 14, 15, 21, 22] := rfl
theorem clr_60_6 : C.clr 60 6 = [21, 23, 24, 25, 26, 27, 28, 29] := rfl
theorem ord_60_6 : C.ord 60 6 = [0, 1, 2, 3, 4, 5, 6, 7] := rfl
theorem ro_60_6 : C.ro 60 6 = true := rfl
theorem clr_60_7 : C.clr 60 7 = [30] := rfl
theorem clr_60_8 : C.clr 60 8 = [3, 4, 9, 10, 13, 14, 15, 31, 32, 33] := rfl
theorem clr_60_9 : C.clr 60 9 = [9, 10, 31, 34, 35, 36, 37, 38, 39, 40, 41, 42, 43, 44] := rfl
theorem ord_60_9 : C.ord 60 9 = [0, 1, 2, 3, 4, 5, 6, 11, 7, 8, 9, 10, 12, 13] := rfl
theorem ro_60_9 : C.ro 60 9 = false := rfl
theorem clr_60_10 : C.clr 60 10 = [45] := rfl
theorem clr_60_11 : C.clr 60 11 = [3, 4, 11, 12, 13, 14, 15, 46, 47, 48] := rfl
theorem clr_60_12 : C.clr 60 12 = [11, 12, 46, 49] := rfl
theorem clr_60_13 : C.clr 60 13 = [50] := rfl
theorem clr_60_14 : C.clr 60 14 = [3, 4, 13, 14, 15, 16, 51] := rfl
theorem res_61 : Try.f61.results.toList = [.cell 4 71] := rfl
theorem esc_61 : C.esc 61 = [] := rfl
theorem clr_61_0 : C.clr 61 0 = [0, 1] := rfl
theorem clr_61_1 : C.clr 61 1 = [3, 5, 6, 7, 8, 9, 10, 11, 12, 13, 14, 15, 16, 17] := rfl
theorem ord_61_1 : C.ord 61 1 = [0, 1, 2, 3, 4, 5, 6, 7, 8, 9, 10, 11, 12, 13] := rfl
theorem ro_61_1 : C.ro 61 1 = false := rfl
theorem clr_61_2 : C.clr 61 2 = [2, 18] := rfl
theorem res_62 : Try.f62.results.toList = [.cell 4 26, .tmp 5] := rfl
theorem esc_62 : C.esc 62 = [] := rfl
theorem clr_62_0 : C.clr 62 0 = [0, 1, 2, 3, 5] := rfl
theorem clr_62_1 : C.clr 62 1 = [6] := rfl
theorem res_63 : Try.f63.results.toList = [.cell 4 26, .tmp 5] := rfl
theorem esc_63 : C.esc 63 = [] := rfl
theorem clr_63_0 : C.clr 63 0 = [0, 1, 5] := rfl
theorem clr_63_1 : C.clr 63 1 = [6, 7, 8, 9, 10] := rfl
theorem clr_63_2 : C.clr 63 2 = [2, 3, 11, 12] := rfl
theorem clr_63_3 : C.clr 63 3 = [2, 3, 11, 13, 14, 15, 16, 17, 18, 19, 20, 21, 22, 23, 24, 25, 26, 27, 28, 29, 30, 31, 32, 33] := rfl
theorem ord_63_3 : C.ord 63 3 = [0, 1, 2, 3, 4, 5, 6, 7, 8, 9, 10, 11, 12, 13, 14, 16, 17, 15, 18, 19, 20, 21, 22] := rfl
theorem ro_63_3 : C.ro 63 3 = false := rfl
theorem res_64 : Try.f64.results.toList = [.cell 4 26, .tmp 5] := rfl
theorem esc_64 : C.esc 64 = [] := rfl
theorem clr_64_0 : C.clr 64 0 = [0, 1, 5] := rfl
theorem clr_64_1 : C.clr 64 1 = [8, 9, 10, 11, 12, 13, 14] := rfl
theorem clr_64_2 : C.clr 64 2 = [15] := rfl
theorem clr_64_3 : C.clr 64 3 = [2, 3, 6, 7, 16, 17, 18] := rfl
theorem clr_64_4 : C.clr 64 4 = [2, 3, 6, 7, 16, 19, 20, 21, 22, 23, 24, 25] := rfl
theorem res_65 : Try.f65.results.toList = [.cell 4 26, .tmp 5] := rfl
theorem esc_65 : C.esc 65 = [] := rfl
theorem clr_65_0 : C.clr 65 0 = [0, 1, 5] := rfl
theorem clr_65_1 : C.clr 65 1 = [11, 12, 13, 14, 15] := rfl
theorem clr_65_2 : C.clr 65 2 = [2, 3, 16, 17] := rfl
theorem clr_65_3 : C.clr 65 3 = [16, 18, 19, 20, 21, 22, 23] := rfl
theorem clr_65_4 : C.clr 65 4 = [24, 25, 26, 27, 28, 29] := rfl
theorem clr_65_5 : C.clr 65 5 = [2, 3, 6, 30, 31] := rfl
theorem clr_65_6 : C.clr 65 6 = [30, 32] := rfl
theorem clr_65_7 : C.clr 65 7 = [] := rfl
theorem clr_65_8 : C.clr 65 8 = [36, 37, 38, 39] := rfl
theorem clr_65_9 : C.clr 65 9 = [8, 40, 41, 42, 43, 44, 45, 46, 47, 48, 49, 50, 51, 52] := rfl
theorem ord_65_9 : C.ord 65 9 = [0, 1, 2, 3, 4, 5, 6, 7, 8, 13, 9, 10, 11, 12, 14, 15] := rfl
theorem ro_65_9 : C.ro 65 9 = false := rfl
theorem clr_65_10 : C.clr 65 10 = [53] := rfl
theorem clr_65_11 : C.clr 65 11 = [7, 9, 54, 55, 56, 57, 58, 59, 60, 61, 62] := rfl
theorem ord_65_11 : C.ord 65 11 = [0, 1, 2, 3, 4, 5, 6, 7, 8] := rfl
theorem ro_65_11 : C.ro 65 11 = true := rfl
theorem clr_65_12 : C.clr 65 12 = [7, 9, 54, 63] := rfl
theorem clr_65_13 : C.clr 65 13 = [2, 3, 6, 10, 33, 34, 35, 64, 65, 66] := rfl
theorem clr_65_14 : C.clr 65 14 = [10, 64, 67] := rfl
theorem clr_65_15 : C.clr 65 15 = [2, 3, 6, 33, 34, 35, 36, 68, 69, 70, 71, 72, 73, 74, 75, 76, 77, 78] := rfl
theorem res_66 : Try.f66.results.toList = [.tmp 4] := rfl
theorem esc_66 : C.esc 66 = [] := rfl
theorem clr_66_0 : C.clr 66 0 = [0, 1, 4] := rfl
theorem clr_66_1 : C.clr 66 1 = [7, 8, 9, 10, 11, 12, 13, 14, 15, 16, 17, 18, 19, 20, 21, 22, 23, 24, 25, 26] := rfl
theorem clr_66_2 : C.clr 66 2 = [2, 3, 27] := rfl
theorem clr_66_3 : C.clr 66 3 = [2, 27, 28] := rfl
theorem clr_66_4 : C.clr 66 4 = [] := rfl
theorem clr_66_5 : C.clr 66 5 = [32, 33, 34, 35] := rfl
theorem clr_66_6 : C.clr 66 6 = [5, 6, 36, 37, 38, 39, 40, 41, 42] := rfl
theorem ord_66_6 : C.ord 66 6 = [0, 1, 2, 3, 4, 5, 6, 7] := rfl
theorem ro_66_6 : C.ro 66 6 = true := rfl
theorem clr_66_7 : C.clr 66 7 = [3, 29, 30, 31, 43] := rfl
theorem clr_66_8 : C.clr 66 8 = [43, 44] := rfl
theorem clr_66_9 : C.clr 66 9 = [3, 29, 30, 31, 32] := rfl
theorem res_67 : Try.f67.results.toList = [] := rfl
theorem esc_67 : C.esc 67 = [] := rfl
theorem clr_67_0 : C.clr 67 0 = [] := rfl
theorem clr_67_1 : C.clr 67 1 = [] := rfl
theorem clr_67_2 : C.clr 67 2 = [8, 9, 10, 11] := rfl
theorem clr_67_3 : C.clr 67 3 = [3, 4, 12, 13, 14, 15, 16, 17, 18] := rfl
theorem ord_67_3 : C.ord 67 3 = [0, 1, 2, 3, 4, 5, 6, 7] := rfl
theorem ro_67_3 : C.ro 67 3 = false := rfl
theorem clr_67_4 : C.clr 67 4 = [19, 20] := rfl
theorem res_68 : Try.f68.results.toList = [.tmp 4] := rfl
theorem esc_68 : C.esc 68 = [] := rfl
theorem clr_68_0 : C.clr 68 0 = [4] := rfl
theorem clr_68_1 : C.clr 68 1 = [6] := rfl
theorem clr_68_2 : C.clr 68 2 = [] := rfl
theorem clr_68_3 : C.clr 68 3 = [9, 10] := rfl
theorem clr_68_4 : C.clr 68 4 = [11, 12, 13, 14, 15] := rfl
theorem clr_68_5 : C.clr 68 5 = [0, 1, 5, 7, 8, 16, 17] := rfl
theorem clr_68_6 : C.clr 68 6 = [5, 16, 18] := rfl
theorem clr_68_7 : C.clr 68 7 = [0, 1, 7, 8, 9] := rfl
theorem res_69 : Try.f69.results.toList = [.cell 8 26, .tmp 9] := rfl
theorem esc_69 : C.esc 69 = [] := rfl
theorem clr_69_0 : C.clr 69 0 = [1, 9] := rfl
theorem clr_69_1 : C.clr 69 1 = [0, 2, 3, 10, 11, 12, 13, 14, 15, 16, 17] := rfl
theorem clr_69_2 : C.clr 69 2 = [4, 5, 7, 18, 19, 20, 21, 22, 23, 24, 25] := rfl
theorem clr_69_3 : C.clr 69 3 = [4, 5, 7, 18, 26, 27, 28, 29, 30, 31] := rfl
theorem res_70 : Try.f70.results.toList = [.cell 4 26, .tmp 5] := rfl
theorem esc_70 : C.esc 70 = [2, 3] := rfl
theorem clr_70_0 : C.clr 70 0 = [0, 1, 5] := rfl
theorem clr_70_1 : C.clr 70 1 = [6, 7, 8, 9, 10, 11, 12] := rfl
theorem clr_70_2 : C.clr 70 2 = [2, 3, 13, 14] := rfl
theorem clr_70_3 : C.clr 70 3 = [2, 3, 13, 15, 16, 17, 18] := rfl
theorem res_71 : Try.f71.results.toList = [.tmp 2] := rfl
theorem esc_71 : C.esc 71 = [1] := rfl
theorem clr_71_0 : C.clr 71 0 = [0, 2] := rfl
theorem clr_71_1 : C.clr 71 1 = [1, 3] := rfl
theorem res_72 : Try.f72.results.toList = [.tmp 2] := rfl
theorem esc_72 : C.esc 72 = [] := rfl
theorem clr_72_0 : C.clr 72 0 = [0, 2] := rfl
theorem clr_72_1 : C.clr 72 1 = [] := rfl
theorem clr_72_2 : C.clr 72 2 = [1, 6] := rfl
theorem clr_72_3 : C.clr 72 3 = [] := rfl
theorem clr_72_4 : C.clr 72 4 = [10, 11, 12] := rfl
theorem clr_72_5 : C.clr 72 5 = [5, 13, 14, 15, 16] := rfl
theorem clr_72_6 : C.clr 72 6 = [17] := rfl
theorem clr_72_7 : C.clr 72 7 = [3, 7, 8, 9, 10, 18, 19] := rfl
theorem res_73 : Try.f73.results.toList = [.tmp 2] := rfl
theorem esc_73 : C.esc 73 = [3] := rfl
theorem clr_73_0 : C.clr 73 0 = [0] := rfl
theorem clr_73_1 : C.clr 73 1 = [] := rfl
theorem clr_73_2 : C.clr 73 2 = [1, 4] := rfl
theorem clr_73_3 : C.clr 73 3 = [2, 3, 5, 6, 7, 8, 9] := rfl
theorem clr_73_4 : C.clr 73 4 = [3, 5, 10] := rfl
theorem res_74 : Try.f74.results.toList = [.cell 4 4] := rfl
theorem esc_74 : C.esc 74 = [3, 4] := rfl
theorem clr_74_0 : C.clr 74 0 = [0, 1] := rfl
theorem clr_74_1 : C.clr 74 1 = [2, 7] := rfl
theorem clr_74_2 : C.clr 74 2 = [8, 9] := rfl
theorem clr_74_3 : C.clr 74 3 = [10] := rfl
theorem clr_74_4 : C.clr 74 4 = [3, 5, 6, 11, 12, 13, 14] := rfl
theorem clr_74_5 : C.clr 74 5 = [15] := rfl
theorem clr_74_6 : C.clr 74 6 = [3, 8] := rfl
theorem res_75 : Try.f75.results.toList = [.tmp 4] := rfl
theorem esc_75 : C.esc 75 = [] := rfl
theorem clr_75_0 : C.clr 75 0 = [0, 1, 4] := rfl
theorem clr_75_1 : C.clr 75 1 = [3, 5, 6] := rfl
theorem res_76 : Try.f76.results.toList = [.tmp 2] := rfl
theorem esc_76 : C.esc 76 = [] := rfl
theorem clr_76_0 : C.clr 76 0 = [0, 2] := rfl
theorem clr_76_1 : C.clr 76 1 = [3] := rfl
theorem clr_76_2 : C.clr 76 2 = [6] := rfl
theorem clr_76_3 : C.clr 76 3 = [1, 4, 5, 7, 8, 9, 10, 11, 12, 13, 14, 15] := rfl
theorem clr_76_4 : C.clr 76 4 = [5, 17] := rfl
theorem clr_76_5 : C.clr 76 5 = [1, 4, 16, 18, 19, 20, 21, 22, 23, 24, 25, 26] := rfl
theorem clr_76_6 : C.clr 76 6 = [4, 16, 28] := rfl
theorem clr_76_7 : C.clr 76 7 = [1, 27, 29, 30, 31, 32, 33, 34, 35, 36, 37] := rfl
theorem clr_76_8 : C.clr 76 8 = [1, 27, 38, 39, 40, 41, 42, 43, 44, 45, 46, 47, 48, 49, 50] := rfl
theorem res_77 : Try.f77.results.toList = [.tmp 4] := rfl
theorem esc_77 : C.esc 77 = [] := rfl
theorem clr_77_0 : C.clr 77 0 = [4] := rfl
theorem clr_77_1 : C.clr 77 1 = [6] := rfl
theorem clr_77_2 : C.clr 77 2 = [] := rfl
theorem clr_77_3 : C.clr 77 3 = [9, 10] := rfl
theorem clr_77_4 : C.clr 77 4 = [11, 12, 13, 14, 15] := rfl
theorem clr_77_5 : C.clr 77 5 = [0, 1, 5, 7, 8, 16, 17] := rfl
theorem clr_77_6 : C.clr 77 6 = [5, 16, 18] := rfl
theorem clr_77_7 : C.clr 77 7 = [0, 1, 7, 8, 9] := rfl
theorem res_78 : Try.f78.results.toList = [.tmp 4] := rfl
theorem esc_78 : C.esc 78 = [] := rfl
theorem clr_78_0 : C.clr 78 0 = [4] := rfl
theorem clr_78_1 : C.clr 78 1 = [6] := rfl
theorem clr_78_2 : C.clr 78 2 = [] := rfl
theorem clr_78_3 : C.clr 78 3 = [9, 10] := rfl
theorem clr_78_4 : C.clr 78 4 = [11, 12, 13, 14, 15] := rfl
theorem clr_78_5 : C.clr 78 5 = [0, 1, 5, 7, 8, 16, 17] := rfl
theorem clr_78_6 : C.clr 78 6 = [5, 16, 18] := rfl
theorem clr_78_7 : C.clr 78 7 = [0, 1, 7, 8, 9] := rfl
theorem res_79 : Try.f79.results.toList = [.cell 6 26] := rfl
theorem esc_79 : C.esc 79 = [] := rfl
theorem clr_79_0 : C.clr 79 0 = [0] := rfl
theorem clr_79_1 : C.clr 79 1 = [9, 10, 11, 12] := rfl
theorem clr_79_2 : C.clr 79 2 = [1, 2, 3, 13, 14, 15] := rfl
theorem clr_79_3 : C.clr 79 3 = [1, 2, 3, 8, 13, 16, 17, 18, 19, 20, 21, 22, 23, 24] := rfl
theorem clr_79_4 : C.clr 79 4 = [7, 25] := rfl
theorem res_80 : Try.f80.results.toList = [.tmp 2] := rfl
theorem esc_80 : C.esc 80 = [] := rfl
theorem clr_80_0 : C.clr 80 0 = [0, 2] := rfl
theorem clr_80_1 : C.clr 80 1 = [] := rfl
theorem clr_80_2 : C.clr 80 2 = [1, 3, 4, 5, 6, 7, 8, 9, 10, 11, 12, 13, 14, 15, 16, 17, 18, 19, 20, 21, 22, 23, 24] := rfl
theorem res_81 : Try.f81.results.toList = [.cell 2 26, .cell 3 32] := rfl
theorem esc_81 : C.esc 81 = [2, 3, 7] := rfl
theorem clr_81_0 : C.clr 81 0 = [] := rfl
theorem clr_81_1 : C.clr 81 1 = [4] := rfl
theorem clr_81_2 : C.clr 81 2 = [0, 5, 6, 7, 8] := rfl
theorem clr_81_3 : C.clr 81 3 = [9, 10] := rfl
theorem clr_81_4 : C.clr 81 4 = [11, 12] := rfl
theorem clr_81_5 : C.clr 81 5 = [11, 13] := rfl
theorem res_82 : Try.f82.results.toList = [.cell 4 26] := rfl
theorem esc_82 : C.esc 82 = [] := rfl
theorem clr_82_0 : C.clr 82 0 = [] := rfl
theorem clr_82_1 : C.clr 82 1 = [0, 1, 2, 5, 6, 7, 8] := rfl
theorem res_83 : Try.f83.results.toList = [.cell 6 26] := rfl
theorem esc_83 : C.esc 83 = [] := rfl
theorem clr_83_0 : C.clr 83 0 = [1, 2] := rfl
theorem clr_83_1 : C.clr 83 1 = [11, 12, 13, 14, 15, 16, 17] := rfl
theorem clr_83_2 : C.clr 83 2 = [18, 19, 20, 21] := rfl
theorem clr_83_3 : C.clr 83 3 = [22, 23] := rfl
theorem clr_83_4 : C.clr 83 4 = [22, 24, 25, 26, 27, 28] := rfl
theorem clr_83_5 : C.clr 83 5 = [29] := rfl
theorem clr_83_6 : C.clr 83 6 = [] := rfl
theorem clr_83_7 : C.clr 83 7 = [33, 34, 35, 36] := rfl
theorem clr_83_8 : C.clr 83 8 = [37] := rfl
theorem clr_83_9 : C.clr 83 9 = [8, 38, 39, 40, 41, 42, 43, 44, 45, 46, 47, 48, 49, 50, 51, 52] := rfl
theorem clr_83_10 : C.clr 83 10 = [53, 54, 55] := rfl
theorem clr_83_11 : C.clr 83 11 = [9, 10, 53, 56, 57, 58, 59, 60, 61, 62, 63, 64] := rfl
theorem ord_83_11 : C.ord 83 11 = [0, 1, 2, 3, 4, 5, 6, 7, 8, 9] := rfl
theorem ro_83_11 : C.ro 83 11 = false := rfl
theorem clr_83_12 : C.clr 83 12 = [65] := rfl
theorem clr_83_13 : C.clr 83 13 = [30, 31, 32, 33, 66, 67] := rfl
theorem clr_83_14 : C.clr 83 14 = [0, 4, 5, 7, 68, 69] := rfl
theorem clr_83_15 : C.clr 83 15 = [0, 4, 5, 7, 68, 70, 71, 72, 73, 74, 75, 76, 77] := rfl
theorem ord_83_15 : C.ord 83 15 = [0, 1, 2, 3, 5, 6, 4, 7, 8] := rfl
theorem ro_83_15 : C.ro 83 15 = false := rfl
theorem res_84 : Try.f84.results.toList = [] := rfl
theorem esc_84 : C.esc 84 = [] := rfl
theorem clr_84_0 : C.clr 84 0 = [3, 4, 5, 6, 7, 8, 9, 10] := rfl
theorem clr_84_1 : C.clr 84 1 = [11, 12, 13, 14, 15, 16, 17, 18, 19, 20, 21] := rfl
theorem ord_84_1 : C.ord 84 1 = [0, 1, 2, 3, 4, 5, 6, 7, 8, 9, 10] := rfl
theorem ro_84_1 : C.ro 84 1 = false := rfl
theorem clr_84_2 : C.clr 84 2 = [22, 23, 24, 25, 26] := rfl
theorem res_85 : Try.f85.results.toList = [.tmp 2] := rfl
theorem esc_85 : C.esc 85 = [1] := rfl
theorem clr_85_0 : C.clr 85 0 = [0, 2] := rfl
theorem clr_85_1 : C.clr 85 1 = [1, 3] := rfl
theorem res_86 : Try.f86.results.toList = [.tmp 6] := rfl
theorem esc_86 : C.esc 86 = [] := rfl
theorem clr_86_0 : C.clr 86 0 = [0, 6] := rfl
theorem clr_86_1 : C.clr 86 1 = [1, 2, 3, 7, 8, 9, 10, 11, 12, 13, 14, 15, 16, 17, 18, 19, 20, 21, 22, 23, 24] := rfl
theorem res_87 : Try.f87.results.toList = [.cell 2 26] := rfl
theorem esc_87 : C.esc 87 = [] := rfl
theorem clr_87_0 : C.clr 87 0 = [0] := rfl
theorem clr_87_1 : C.clr 87 1 = [] := rfl
theorem clr_87_2 : C.clr 87 2 = [6] := rfl
theorem clr_87_3 : C.clr 87 3 = [] := rfl
theorem clr_87_4 : C.clr 87 4 = [10, 11, 12] := rfl
theorem clr_87_5 : C.clr 87 5 = [5, 13, 14, 15, 16, 17] := rfl
theorem clr_87_6 : C.clr 87 6 = [18] := rfl
theorem clr_87_7 : C.clr 87 7 = [1, 3, 7, 8, 9, 10, 19, 20, 21, 22, 23, 24] := rfl
theorem res_88 : Try.f88.results.toList = [.cell 6 26, .tmp 7] := rfl
theorem esc_88 : C.esc 88 = [3, 4, 5] := rfl
theorem clr_88_0 : C.clr 88 0 = [0, 1, 2, 7] := rfl
theorem clr_88_1 : C.clr 88 1 = [11, 12] := rfl
theorem clr_88_2 : C.clr 88 2 = [13, 14] := rfl
theorem clr_88_3 : C.clr 88 3 = [15, 16, 17, 18, 19, 20, 21, 22, 23] := rfl
theorem clr_88_4 : C.clr 88 4 = [9, 15, 24] := rfl
theorem clr_88_5 : C.clr 88 5 = [3, 4, 5, 8, 25, 26] := rfl
theorem clr_88_6 : C.clr 88 6 = [4, 5, 25, 27, 28, 29, 30, 31, 32, 33] := rfl
theorem clr_88_7 : C.clr 88 7 = [9, 34] := rfl
theorem clr_88_8 : C.clr 88 8 = [3, 8, 10, 35, 36] := rfl
theorem clr_88_9 : C.clr 88 9 = [3, 8, 10, 35, 37, 38, 39, 40, 41] := rfl
theorem res_89 : Try.f89.results.toList = [.tmp 6, .tmp 7] := rfl
theorem esc_89 : C.esc 89 = [] := rfl
theorem clr_89_0 : C.clr 89 0 = [0, 6, 7] := rfl
theorem clr_89_1 : C.clr 89 1 = [2, 8, 9, 10, 11, 12] := rfl
theorem clr_89_2 : C.clr 89 2 = [1, 3, 13, 14, 15, 16, 17] := rfl
theorem clr_89_3 : C.clr 89 3 = [1, 3, 13, 18] := rfl
theorem res_90 : Try.f90.results.toList = [.tmp 2] := rfl
theorem esc_90 : C.esc 90 = [] := rfl
theorem clr_90_0 : C.clr 90 0 = [0, 2] := rfl
theorem clr_90_1 : C.clr 90 1 = [1, 3, 4, 5] := rfl
theorem res_91 : Try.f91.results.toList = [] := rfl
theorem esc_91 : C.esc 91 = [] := rfl
theorem clr_91_0 : C.clr 91 0 = [5] := rfl
theorem clr_91_1 : C.clr 91 1 = [6, 7, 8, 9, 10] := rfl
theorem clr_91_2 : C.clr 91 2 = [4] := rfl
theorem clr_91_3 : C.clr 91 3 = [0, 1, 2, 3, 11, 12, 13] := rfl
theorem clr_91_4 : C.clr 91 4 = [0, 1, 3, 11, 14] := rfl
theorem clr_91_5 : C.clr 91 5 = [2, 15, 16] := rfl
theorem res_92 : Try.f92.results.toList = [] := rfl
theorem esc_92 : C.esc 92 = [] := rfl
theorem clr_92_0 : C.clr 92 0 = [0, 2, 3] := rfl
theorem res_93 : Try.f93.results.toList = [.cell 2 83] := rfl
theorem esc_93 : C.esc 93 = [] := rfl
theorem clr_93_0 : C.clr 93 0 = [0] := rfl
theorem clr_93_1 : C.clr 93 1 = [6, 7, 8, 9] := rfl
theorem clr_93_2 : C.clr 93 2 = [1, 10] := rfl
theorem clr_93_3 : C.clr 93 3 = [] := rfl
theorem clr_93_4 : C.clr 93 4 = [14, 15, 16] := rfl
theorem clr_93_5 : C.clr 93 5 = [5, 17, 18, 19, 20, 21, 22, 23] := rfl
theorem ord_93_5 : C.ord 93 5 = [0, 1, 2, 3, 4, 5, 6, 7] := rfl
theorem ro_93_5 : C.ro 93 5 = false := rfl
theorem clr_93_6 : C.clr 93 6 = [24] := rfl
theorem clr_93_7 : C.clr 93 7 = [11, 12, 13, 14, 25, 26, 27, 28, 29, 30] := rfl
theorem clr_93_8 : C.clr 93 8 = [3, 31] := rfl
theorem res_94 : Try.f94.results.toList = [.cell 6 26] := rfl
theorem esc_94 : C.esc 94 = [] := rfl
theorem clr_94_0 : C.clr 94 0 = [1] := rfl
theorem clr_94_1 : C.clr 94 1 = [7, 8] := rfl
theorem clr_94_2 : C.clr 94 2 = [0, 2, 4, 9, 10] := rfl
theorem clr_94_3 : C.clr 94 3 = [9, 11] := rfl
theorem clr_94_4 : C.clr 94 4 = [14] := rfl
theorem clr_94_5 : C.clr 94 5 = [12, 13, 15, 16, 17, 18] := rfl
theorem clr_94_6 : C.clr 94 6 = [19, 20] := rfl
theorem clr_94_7 : C.clr 94 7 = [0, 2, 4, 19, 21, 22, 23, 24, 25, 26, 27, 28, 29, 30, 31, 32, 33] := rfl
theorem ord_94_7 : C.ord 94 7 = [0, 1, 2, 3, 4, 5, 6, 7, 8, 10, 11, 9, 12, 13] := rfl
theorem ro_94_7 : C.ro 94 7 = false := rfl
theorem clr_94_8 : C.clr 94 8 = [0, 13, 35] := rfl
theorem clr_94_9 : C.clr 94 9 = [36] := rfl
theorem clr_94_10 : C.clr 94 10 = [12, 37] := rfl
theorem clr_94_11 : C.clr 94 11 = [2, 4, 12, 34, 38, 39, 40, 41, 42, 43, 44, 45, 46, 47] := rfl
theorem ord_94_11 : C.ord 94 11 = [0, 1, 2, 3, 4, 5, 6, 7, 8, 9, 10] := rfl
theorem ro_94_11 : C.ro 94 11 = false := rfl
theorem clr_94_12 : C.clr 94 12 = [2, 12, 34, 48] := rfl
theorem clr_94_13 : C.clr 94 13 = [4, 49] := rfl
theorem res_95 : Try.f95.results.toList = [.cell 4 26] := rfl
theorem esc_95 : C.esc 95 = [] := rfl
theorem clr_95_0 : C.clr 95 0 = [0] := rfl
theorem clr_95_1 : C.clr 95 1 = [5, 6, 7, 8] := rfl
theorem clr_95_2 : C.clr 95 2 = [1, 2, 9, 10, 11, 12, 13, 14, 15, 16, 17, 18, 19, 20] := rfl
theorem clr_95_3 : C.clr 95 3 = [1, 2, 9, 21, 22, 23, 24, 25, 26, 27, 28, 29] := rfl
theorem res_96 : Try.f96.results.toList = [] := rfl
theorem esc_96 : C.esc 96 = [] := rfl
theorem clr_96_0 : C.clr 96 0 = [0, 1, 3, 4, 5] := rfl
theorem res_97 : Try.f97.results.toList = [.tmp 6] := rfl
theorem esc_97 : C.esc 97 = [] := rfl
theorem clr_97_0 : C.clr 97 0 = [0, 6] := rfl
theorem clr_97_1 : C.clr 97 1 = [10, 11, 12, 13] := rfl
theorem clr_97_2 : C.clr 97 2 = [1, 2, 3, 14] := rfl
theorem clr_97_3 : C.clr 97 3 = [14, 15] := rfl
theorem clr_97_4 : C.clr 97 4 = [] := rfl
theorem clr_97_5 : C.clr 97 5 = [19, 20, 21, 22] := rfl
theorem clr_97_6 : C.clr 97 6 = [23] := rfl
theorem clr_97_7 : C.clr 97 7 = [7, 24, 25, 26, 27, 28, 29, 30, 31, 32] := rfl
theorem clr_97_8 : C.clr 97 8 = [33, 34, 35] := rfl
theorem clr_97_9 : C.clr 97 9 = [8, 9, 33, 36, 37, 38, 39] := rfl
theorem clr_97_10 : C.clr 97 10 = [1, 2, 3, 16, 17, 18, 40] := rfl
theorem clr_97_11 : C.clr 97 11 = [40, 41] := rfl
theorem clr_97_12 : C.clr 97 12 = [1, 2, 3, 16, 17, 18, 19] := rfl
theorem res_98 : Try.f98.results.toList = [.tmp 4, .tmp 5] := rfl
theorem esc_98 : C.esc 98 = [] := rfl
theorem clr_98_0 : C.clr 98 0 = [4, 5] := rfl
theorem clr_98_1 : C.clr 98 1 = [] := rfl
theorem clr_98_2 : C.clr 98 2 = [0] := rfl
theorem clr_98_3 : C.clr 98 3 = [] := rfl
theorem clr_98_4 : C.clr 98 4 = [14, 15, 16, 17] := rfl
theorem clr_98_5 : C.clr 98 5 = [7, 8, 18, 19, 20, 21, 22, 23, 24] := rfl
theorem clr_98_6 : C.clr 98 6 = [10, 25] := rfl
theorem clr_98_7 : C.clr 98 7 = [1, 6, 9, 11, 12, 13, 26] := rfl
theorem clr_98_8 : C.clr 98 8 = [9, 26, 27, 28, 29, 30] := rfl
theorem clr_98_9 : C.clr 98 9 = [31] := rfl
theorem clr_98_10 : C.clr 98 10 = [1, 6, 11, 12, 13, 14, 32] := rfl
theorem res_99 : Try.f99.results.toList = [.cell 7 26, .tmp 8] := rfl
theorem esc_99 : C.esc 99 = [] := rfl
theorem clr_99_0 : C.clr 99 0 = [1, 8] := rfl
theorem clr_99_1 : C.clr 99 1 = [2, 10] := rfl
theorem clr_99_2 : C.clr 99 2 = [0, 3, 11, 12, 13, 14, 15, 16, 17, 18, 19, 20, 21, 22, 23, 24, 25] := rfl
theorem clr_99_3 : C.clr 99 3 = [26, 27, 28] := rfl
theorem clr_99_4 : C.clr 99 4 = [4, 6, 9, 26, 29, 30, 31, 32, 33, 34] := rfl
theorem res_100 : Try.f100.results.toList = [.tmp 2] := rfl
theorem esc_100 : C.esc 100 = [] := rfl
theorem clr_100_0 : C.clr 100 0 = [0, 2] := rfl
theorem clr_100_1 : C.clr 100 1 = [1, 3, 4, 5, 6, 7, 8, 9, 10] := rfl
attribute [go_sem] tsz_1 tag_1 tcon_1 tstr_1 tbool_1 tslc_1 tarr_1 tby_1 tzr_1 tsz_2 tag_2 tcon_2 tstr_2 tbool_2 tslc_2 tarr_2 tby_2 tzr_2 tsz_3 tag_3 tcon_3 tstr_3 tbool_3 tslc_3 tarr_3 tby_3 tzr_3 tsz_4 tag_4 tcon_4 tstr_4 tbool_4 tslc_4 tarr_4 tby_4 tzr_4 tsz_5 tag_5 tcon_5 tstr_5
attribute [go_sem] tbool_5 tslc_5 tarr_5 tby_5 tzr_5 tsz_9 tag_9 tcon_9 tstr_9 tbool_9 tslc_9 tarr_9 tby_9 tzr_9 tsz_12 tag_12 tcon_12 tstr_12 tbool_12 tslc_12 tarr_12 tby_12 tzr_12 tsz_20 tag_20 tcon_20 tstr_20 tbool_20 tslc_20 tarr_20 tby_20 tzr_20 tsz_21 tag_21 tcon_21 tstr_21 tbool_21 tslc_21 tarr_21 tby_21
attribute [go_sem] tzr_21 tsz_22 tag_22 tcon_22 tstr_22 tbool_22 tslc_22 tarr_22 tby_22 tzr_22 tsz_23 tag_23 tcon_23 tstr_23 tbool_23 tslc_23 tarr_23 tby_23 tzr_23 tsz_24 tag_24 tcon_24 tstr_24 tbool_24 tslc_24 tarr_24 tby_24 tzr_24 tsz_25 tag_25 tcon_25 tstr_25 tbool_25 tslc_25 tarr_25 tby_25 tzr_25 tfld_25_0 place_25_0 tfld_25_1
attribute [go_sem] place_25_1 tfld_25_2 place_25_2 tbld_25 tsz_26 tag_26 tcon_26 tstr_26 tbool_26 tslc_26 tarr_26 tby_26 tzr_26 tfld_26_0 place_26_0 tfld_26_1 place_26_1 tfld_26_2 place_26_2 tbld_26 tsz_27 tag_27 tcon_27 tstr_27 tbool_27 tslc_27 tarr_27 tby_27 tzr_27 tsz_28 tag_28 tcon_28 tstr_28 tbool_28 tslc_28 tarr_28 tby_28 tzr_28 tsz_29 tag_29
attribute [go_sem] tcon_29 tstr_29 tbool_29 tslc_29 tarr_29 tby_29 tzr_29 tsz_30 tag_30 tcon_30 tstr_30 tbool_30 tslc_30 tarr_30 tby_30 tzr_30 tsz_31 tag_31 tcon_31 tstr_31 tbool_31 tslc_31 tarr_31 tby_31 tzr_31 tsz_32 tag_32 tcon_32 tstr_32 tbool_32 tslc_32 tarr_32 tby_32 tzr_32 tsz_34 tag_34 tcon_34 tstr_34 tbool_34 tslc_34
attribute [go_sem] tarr_34 tby_34 tzr_34 tsz_35 tag_35 tcon_35 tstr_35 tbool_35 tslc_35 tarr_35 tby_35 tzr_35 tsz_36 tag_36 tcon_36 tstr_36 tbool_36 tslc_36 tarr_36 tby_36 tzr_36 tsz_37 tag_37 tcon_37 tstr_37 tbool_37 tslc_37 tarr_37 tby_37 tzr_37 tsz_38 tag_38 tcon_38 tstr_38 tbool_38 tslc_38 tarr_38 tby_38 tzr_38 tsz_39
attribute [go_sem] tag_39 tcon_39 tstr_39 tbool_39 tslc_39 tarr_39 tby_39 tzr_39 tsz_41 tag_41 tcon_41 tstr_41 tbool_41 tslc_41 tarr_41 tby_41 tzr_41 tsz_43 tag_43 tcon_43 tstr_43 tbool_43 tslc_43 tarr_43 tby_43 tzr_43 tsz_44 tag_44 tcon_44 tstr_44 tbool_44 tslc_44 tarr_44 tby_44 tzr_44 tsz_45 tag_45 tcon_45 tstr_45 tbool_45
attribute [go_sem] tslc_45 tarr_45 tby_45 tzr_45 tfld_45_0 place_45_0 tfld_45_1 place_45_1 tfld_45_2 place_45_2 tbld_45 tsz_46 tag_46 tcon_46 tstr_46 tbool_46 tslc_46 tarr_46 tby_46 tzr_46 tfld_46_0 place_46_0 tfld_46_1 place_46_1 tfld_46_2 place_46_2 tbld_46 tsz_47 tag_47 tcon_47 tstr_47 tbool_47 tslc_47 tarr_47 tby_47 tzr_47 tsz_48 tag_48 tcon_48 tstr_48
attribute [go_sem] tbool_48 tslc_48 tarr_48 tby_48 tzr_48 tsz_49 tag_49 tcon_49 tstr_49 tbool_49 tslc_49 tarr_49 tby_49 tzr_49 tsz_50 tag_50 tcon_50 tstr_50 tbool_50 tslc_50 tarr_50 tby_50 tzr_50 tsz_51 tag_51 tcon_51 tstr_51 tbool_51 tslc_51 tarr_51 tby_51 tzr_51 tsz_52 tag_52 tcon_52 tstr_52 tbool_52 tslc_52 tarr_52 tby_52
attribute [go_sem] tzr_52 tsz_53 tag_53 tcon_53 tstr_53 tbool_53 tslc_53 tarr_53 tby_53 tzr_53 tsz_54 tag_54 tcon_54 tstr_54 tbool_54 tslc_54 tarr_54 tby_54 tzr_54 tsz_55 tag_55 tcon_55 tstr_55 tbool_55 tslc_55 tarr_55 tby_55 tzr_55 tsz_56 tag_56 tcon_56 tstr_56 tbool_56 tslc_56 tarr_56 tby_56 tzr_56 tsz_57 tag_57 tcon_57
attribute [go_sem] tstr_57 tbool_57 tslc_57 tarr_57 tby_57 tzr_57 tsz_58 tag_58 tcon_58 tstr_58 tbool_58 tslc_58 tarr_58 tby_58 tzr_58 tsz_59 tag_59 tcon_59 tstr_59 tbool_59 tslc_59 tarr_59 tby_59 tzr_59 tsz_60 tag_60 tcon_60 tstr_60 tbool_60 tslc_60 tarr_60 tby_60 tzr_60 tfld_60_0 place_60_0 tfld_60_1 place_60_1 tbld_60 tsz_61 tag_61
attribute [go_sem] tcon_61 tstr_61 tbool_61 tslc_61 tarr_61 tby_61 tzr_61 tfld_61_0 place_61_0 tfld_61_1 place_61_1 tbld_61 tsz_62 tag_62 tcon_62 tstr_62 tbool_62 tslc_62 tarr_62 tby_62 tzr_62 tsz_63 tag_63 tcon_63 tstr_63 tbool_63 tslc_63 tarr_63 tby_63 tzr_63 tsz_64 tag_64 tcon_64 tstr_64 tbool_64 tslc_64 tarr_64 tby_64 tzr_64 tsz_65
attribute [go_sem] tag_65 tcon_65 tstr_65 tbool_65 tslc_65 tarr_65 tby_65 tzr_65 tsz_66 tag_66 tcon_66 tstr_66 tbool_66 tslc_66 tarr_66 tby_66 tzr_66 tsz_67 tag_67 tcon_67 tstr_67 tbool_67 tslc_67 tarr_67 tby_67 tzr_67 tsz_68 tag_68 tcon_68 tstr_68 tbool_68 tslc_68 tarr_68 tby_68 tzr_68 tsz_69 tag_69 tcon_69 tstr_69 tbool_69
attribute [go_sem] tslc_69 tarr_69 tby_69 tzr_69 tsz_70 tag_70 tcon_70 tstr_70 tbool_70 tslc_70 tarr_70 tby_70 tzr_70 tfld_70_0 place_70_0 tfld_70_1 place_70_1 tfld_70_2 place_70_2 tbld_70 tsz_71 tag_71 tcon_71 tstr_71 tbool_71 tslc_71 tarr_71 tby_71 tzr_71 tfld_71_0 place_71_0 tfld_71_1 place_71_1 tfld_71_2 place_71_2 tbld_71 tsz_72 tag_72 tcon_72 tstr_72
attribute [go_sem] tbool_72 tslc_72 tarr_72 tby_72 tzr_72 tsz_73 tag_73 tcon_73 tstr_73 tbool_73 tslc_73 tarr_73 tby_73 tzr_73 tsz_74 tag_74 tcon_74 tstr_74 tbool_74 tslc_74 tarr_74 tby_74 tzr_74 tsz_75 tag_75 tcon_75 tstr_75 tbool_75 tslc_75 tarr_75 tby_75 tzr_75 tsz_76 tag_76 tcon_76 tstr_76 tbool_76 tslc_76 tarr_76 tby_76
attribute [go_sem] tzr_76 tsz_77 tag_77 tcon_77 tstr_77 tbool_77 tslc_77 tarr_77 tby_77 tzr_77 tsz_78 tag_78 tcon_78 tstr_78 tbool_78 tslc_78 tarr_78 tby_78 tzr_78 tsz_79 tag_79 tcon_79 tstr_79 tbool_79 tslc_79 tarr_79 tby_79 tzr_79 tsz_80 tag_80 tcon_80 tstr_80 tbool_80 tslc_80 tarr_80 tby_80 tzr_80 tsz_81 tag_81 tcon_81
attribute [go_sem] tstr_81 tbool_81 tslc_81 tarr_81 tby_81 tzr_81 tsz_82 tag_82 tcon_82 tstr_82 tbool_82 tslc_82 tarr_82 tby_82 tzr_82 tfld_82_0 place_82_0 tfld_82_1 place_82_1 tbld_82 tsz_83 tag_83 tcon_83 tstr_83 tbool_83 tslc_83 tarr_83 tby_83 tzr_83 tfld_83_0 place_83_0 tfld_83_1 place_83_1 tbld_83 tsz_84 tag_84 tcon_84 tstr_84 tbool_84 tslc_84
attribute [go_sem] tarr_84 tby_84 tzr_84 tsz_85 tag_85 tcon_85 tstr_85 tbool_85 tslc_85 tarr_85 tby_85 tzr_85 tsz_86 tag_86 tcon_86 tstr_86 tbool_86 tslc_86 tarr_86 tby_86 tzr_86 tsz_87 tag_87 tcon_87 tstr_87 tbool_87 tslc_87 tarr_87 tby_87 tzr_87 tsz_88 tag_88 tcon_88 tstr_88 tbool_88 tslc_88 tarr_88 tby_88 tzr_88 tsz_89
attribute [go_sem] tag_89 tcon_89 tstr_89 tbool_89 tslc_89 tarr_89 tby_89 tzr_89 tsz_90 tag_90 tcon_90 tstr_90 tbool_90 tslc_90 tarr_90 tby_90 tzr_90 tsz_91 tag_91 tcon_91 tstr_91 tbool_91 tslc_91 tarr_91 tby_91 tzr_91 tsz_92 tag_92 tcon_92 tstr_92 tbool_92 tslc_92 tarr_92 tby_92 tzr_92 tsz_93 tag_93 tcon_93 tstr_93 tbool_93
attribute [go_sem] tslc_93 tarr_93 tby_93 tzr_93 tsz_94 tag_94 tcon_94 tstr_94 tbool_94 tslc_94 tarr_94 tby_94 tzr_94 tsz_95 tag_95 tcon_95 tstr_95 tbool_95 tslc_95 tarr_95 tby_95 tzr_95 tsz_96 tag_96 tcon_96 tstr_96 tbool_96 tslc_96 tarr_96 tby_96 tzr_96 tsz_97 tag_97 tcon_97 tstr_97 tbool_97 tslc_97 tarr_97 tby_97 tzr_97
attribute [go_sem] tsz_98 tag_98 tcon_98 tstr_98 tbool_98 tslc_98 tarr_98 tby_98 tzr_98 tsz_99 tag_99 tcon_99 tstr_99 tbool_99 tslc_99 tarr_99 tby_99 tzr_99 place_99_0 place_99_1 place_99_2 place_99_3 place_99_4 place_99_5 place_99_6 tbld_99 tsz_100 tag_100 tcon_100 tstr_100 tbool_100 tslc_100 tarr_100 tby_100 tzr_100 tsz_101 tag_101 tcon_101 tstr_101 tbool_101
attribute [go_sem] tslc_101 tarr_101 tby_101 tzr_101 tsz_102 tag_102 tcon_102 tstr_102 tbool_102 tslc_102 tarr_102 tby_102 tzr_102 tsz_103 tag_103 tcon_103 tstr_103 tbool_103 tslc_103 tarr_103 tby_103 tzr_103 tsz_104 tag_104 tcon_104 tstr_104 tbool_104 tslc_104 tarr_104 tby_104 tzr_104 tsz_105 tag_105 tcon_105 tstr_105 tbool_105 tslc_105 tarr_105 tby_105 tzr_105
attribute [go_sem] tsz_106 tag_106 tcon_106 tstr_106 tbool_106 tslc_106 tarr_106 tby_106 tzr_106 tsz_107 tag_107 tcon_107 tstr_107 tbool_107 tslc_107 tarr_107 tby_107 tzr_107 tsz_108 tag_108 tcon_108 tstr_108 tbool_108 tslc_108 tarr_108 tby_108 tzr_108 tsz_109 tag_109 tcon_109 tstr_109 tbool_109 tslc_109 tarr_109 tby_109 tzr_109 tsz_110 tag_110 tcon_110 tstr_110
attribute [go_sem] tbool_110 tslc_110 tarr_110 tby_110 tzr_110 tsz_111 tag_111 tcon_111 tstr_111 tbool_111 tslc_111 tarr_111 tby_111 tzr_111 tsz_112 tag_112 tcon_112 tstr_112 tbool_112 tslc_112 tarr_112 tby_112 tzr_112 tsz_113 tag_113 tcon_113 tstr_113 tbool_113 tslc_113 tarr_113 tby_113 tzr_113 tsz_114 tag_114 tcon_114 tstr_114 tbool_114 tslc_114 tarr_114 tby_114
attribute [go_sem] tzr_114 tsz_115 tag_115 tcon_115 tstr_115 tbool_115 tslc_115 tarr_115 tby_115 tzr_115 tsz_116 tag_116 tcon_116 tstr_116 tbool_116 tslc_116 tarr_116 tby_116 tzr_116 tsz_117 tag_117 tcon_117 tstr_117 tbool_117 tslc_117 tarr_117 tby_117 tzr_117 tsz_118 tag_118 tcon_118 tstr_118 tbool_118 tslc_118 tarr_118 tby_118 tzr_118 tsz_119 tag_119 tcon_119
attribute [go_sem] tstr_119 tbool_119 tslc_119 tarr_119 tby_119 tzr_119 tsz_121 tag_121 tcon_121 tstr_121 tbool_121 tslc_121 tarr_121 tby_121 tzr_121 tsz_122 tag_122 tcon_122 tstr_122 tbool_122 tslc_122 tarr_122 tby_122 tzr_122 tsz_123 tag_123 tcon_123 tstr_123 tbool_123 tslc_123 tarr_123 tby_123 tzr_123 tfld_123_0 place_123_0 tfld_123_1 place_123_1 tbld_123 tsz_124 tag_124
attribute [go_sem] tcon_124 tstr_124 tbool_124 tslc_124 tarr_124 tby_124 tzr_124 tfld_124_0 place_124_0 tfld_124_1 place_124_1 tbld_124 tsz_126 tag_126 tcon_126 tstr_126 tbool_126 tslc_126 tarr_126 tby_126 tzr_126 tfld_126_0 place_126_0 tbld_126 tsz_127 tag_127 tcon_127 tstr_127 tbool_127 tslc_127 tarr_127 tby_127 tzr_127 tfld_127_0 place_127_0 tbld_127 tsz_128 tag_128 tcon_128 tstr_128
attribute [go_sem] tbool_128 tslc_128 tarr_128 tby_128 tzr_128 tsz_129 tag_129 tcon_129 tstr_129 tbool_129 tslc_129 tarr_129 tby_129 tzr_129 tsz_130 tag_130 tcon_130 tstr_130 tbool_130 tslc_130 tarr_130 tby_130 tzr_130 tsz_131 tag_131 tcon_131 tstr_131 tbool_131 tslc_131 tarr_131 tby_131 tzr_131 tsz_132 tag_132 tcon_132 tstr_132 tbool_132 tslc_132 tarr_132 tby_132
attribute [go_sem] tzr_132 tsz_135 tag_135 tcon_135 tstr_135 tbool_135 tslc_135 tarr_135 tby_135 tzr_135 tsz_136 tag_136 tcon_136 tstr_136 tbool_136 tslc_136 tarr_136 tby_136 tzr_136 tsz_137 tag_137 tcon_137 tstr_137 tbool_137 tslc_137 tarr_137 tby_137 tzr_137 tsz_143 tag_143 tcon_143 tstr_143 tbool_143 tslc_143 tarr_143 tby_143 tzr_143 tsz_144 tag_144 tcon_144
attribute [go_sem] tstr_144 tbool_144 tslc_144 tarr_144 tby_144 tzr_144 tsz_147 tag_147 tcon_147 tstr_147 tbool_147 tslc_147 tarr_147 tby_147 tzr_147 tsz_148 tag_148 tcon_148 tstr_148 tbool_148 tslc_148 tarr_148 tby_148 tzr_148 C_P C_thr esc_3 Try.ntmps3 res_3 clr_3_0 clr_3_1 clr_3_2 clr_3_3 clr_3_4 clr_3_5 clr_3_6 clr_3_7 clr_3_8 clr_3_9 clr_3_10
attribute [go_sem] clr_3_11 clr_3_12 clr_3_13 clr_3_14 clr_3_15 clr_3_16 clr_3_17 clr_3_18 clr_3_19 clr_3_20 esc_4 Try.ntmps4 res_4 clr_4_0 clr_4_1 clr_4_2 clr_4_3 clr_4_4 clr_4_5 clr_4_6 clr_4_7 clr_4_8 clr_4_9 clr_4_10 clr_4_12 clr_4_13 clr_4_15 clr_4_16 clr_4_14 clr_4_11 clr_4_17 esc_5 Try.ntmps5 res_5 clr_5_0 clr_5_1 clr_5_2 clr_5_3 clr_5_4 clr_5_5
attribute [go_sem] clr_5_6 clr_5_7 clr_5_8 clr_5_9 clr_5_10 clr_5_11 clr_5_12 ord_5_12 ro_5_12 esc_6 Try.ntmps6 res_6 clr_6_0 clr_6_1 clr_6_2 clr_6_3 clr_6_4 clr_6_5 ord_6_5 ro_6_5 clr_6_6 ord_6_6 ro_6_6 clr_6_7 clr_6_8 ord_6_8 ro_6_8 clr_6_9 clr_6_10 clr_6_11 clr_6_13 ord_6_13 ro_6_13 clr_6_14 clr_6_12 clr_6_15 esc_7 Try.ntmps7 res_7 clr_7_0
attribute [go_sem] clr_7_1 clr_7_2 clr_7_3 ord_7_3 ro_7_3 clr_7_4 ord_7_4 ro_7_4 clr_7_5 clr_7_6 esc_8 Try.ntmps8 res_8 clr_8_0 clr_8_1 clr_8_2 clr_8_3 clr_8_4 clr_8_5 clr_8_7 clr_8_8 clr_8_9 clr_8_10 clr_8_6 clr_8_11 clr_8_12 esc_9 Try.ntmps9 res_9 clr_9_0 clr_9_1 clr_9_2 esc_10 Try.ntmps10 res_10 clr_10_0 clr_10_1 clr_10_2 clr_10_3 clr_10_4
attribute [go_sem] clr_10_6 clr_10_7 clr_10_8 clr_10_5 clr_10_9 esc_11 Try.ntmps11 res_11 clr_11_0 clr_11_1 clr_11_2 esc_12 Try.ntmps12 res_12 clr_12_0 clr_12_1 esc_13 Try.ntmps13 res_13 clr_13_0 clr_13_1 clr_13_2 clr_13_3 clr_13_4 clr_13_5 clr_13_6 clr_13_7 clr_13_8 clr_13_9 esc_14 Try.ntmps14 res_14 clr_14_0 clr_14_1 clr_14_2 clr_14_3 esc_15 Try.ntmps15 res_15 clr_15_0
attribute [go_sem] clr_15_1 clr_15_2 clr_15_3 clr_15_4 esc_16 Try.ntmps16 res_16 clr_16_0 clr_16_1 clr_16_2 clr_16_3 clr_16_4 esc_17 Try.ntmps17 res_17 clr_17_0 clr_17_1 clr_17_2 clr_17_3 clr_17_4 clr_17_5 clr_17_6 clr_17_7 clr_17_8 clr_17_9 clr_17_10 clr_17_11 clr_17_12 clr_17_13 clr_17_14 ord_17_14 ro_17_14 clr_17_15 clr_17_16 clr_17_17 clr_17_18 clr_17_19 esc_18 Try.ntmps18 res_18
attribute [go_sem] clr_18_0 clr_18_1 esc_19 Try.ntmps19 res_19 clr_19_0 clr_19_1 clr_19_2 clr_19_3 clr_19_4 clr_19_5 clr_19_6 clr_19_7 clr_19_8 esc_20 Try.ntmps20 res_20 clr_20_0 clr_20_1 clr_20_2 clr_20_3 clr_20_5 clr_20_4 clr_20_6 esc_21 Try.ntmps21 res_21 clr_21_0 clr_21_1 clr_21_2 clr_21_3 clr_21_4 clr_21_5 clr_21_6 clr_21_7 esc_22 Try.ntmps22 res_22 clr_22_0 clr_22_1
attribute [go_sem] clr_22_2 clr_22_3 clr_22_4 clr_22_5 clr_22_6 clr_22_7 esc_23 Try.ntmps23 res_23 clr_23_0 clr_23_1 clr_23_2 esc_24 Try.ntmps24 res_24 clr_24_0 clr_24_1 clr_24_2 clr_24_3 clr_24_4 clr_24_6 clr_24_7 clr_24_8 clr_24_5 clr_24_9 esc_25 Try.ntmps25 res_25 clr_25_0 clr_25_1 clr_25_2 clr_25_3 clr_25_4 clr_25_6 clr_25_7 clr_25_8 clr_25_5 clr_25_9 esc_26 Try.ntmps26
attribute [go_sem] res_26 clr_26_0 clr_26_1 clr_26_2 clr_26_3 clr_26_5 clr_26_4 clr_26_6 esc_27 Try.ntmps27 res_27 clr_27_0 clr_27_1 clr_27_2 clr_27_3 clr_27_5 clr_27_6 clr_27_7 clr_27_4 clr_27_8 esc_28 Try.ntmps28 res_28 clr_28_0 clr_28_1 clr_28_2 clr_28_3 clr_28_4 clr_28_5 clr_28_6 clr_28_7 clr_28_8 clr_28_9 clr_28_10 esc_29 Try.ntmps29 res_29 clr_29_0 clr_29_1 clr_29_2
attribute [go_sem] ord_29_2 ro_29_2 clr_29_3 ord_29_3 ro_29_3 esc_30 Try.ntmps30 res_30 clr_30_0 clr_30_1 esc_31 Try.ntmps31 res_31 clr_31_0 clr_31_1 clr_31_2 clr_31_3 clr_31_4 esc_32 Try.ntmps32 res_32 clr_32_0 clr_32_1 esc_33 Try.ntmps33 res_33 clr_33_0 clr_33_1 clr_33_2 clr_33_3 clr_33_4 clr_33_5 clr_33_6 esc_34 Try.ntmps34 res_34 clr_34_0 clr_34_1 clr_34_2 clr_34_3
attribute [go_sem] clr_34_4 clr_34_5 clr_34_6 clr_34_7 clr_34_8 clr_34_9 clr_34_10 clr_34_11 clr_34_12 clr_34_13 clr_34_14 clr_34_15 esc_35 Try.ntmps35 res_35 clr_35_0 clr_35_1 clr_35_2 clr_35_3 clr_35_4 clr_35_5 clr_35_6 clr_35_7 clr_35_8 clr_35_9 clr_35_10 esc_36 Try.ntmps36 res_36 clr_36_0 clr_36_1 ord_36_1 ro_36_1 esc_37 Try.ntmps37 res_37 clr_37_0 clr_37_1 clr_37_2 clr_37_3
attribute [go_sem] clr_37_4 clr_37_5 esc_38 Try.ntmps38 res_38 clr_38_0 clr_38_1 clr_38_2 clr_38_3 clr_38_4 clr_38_5 clr_38_6 clr_38_7 clr_38_8 clr_38_9 clr_38_10 clr_38_11 esc_39 Try.ntmps39 res_39 clr_39_0 clr_39_1 clr_39_2 ord_39_2 ro_39_2 clr_39_3 clr_39_4 clr_39_5 clr_39_6 ord_39_6 ro_39_6 clr_39_7 clr_39_8 clr_39_9 esc_40 Try.ntmps40 res_40 clr_40_0 clr_40_1 esc_41
attribute [go_sem] Try.ntmps41 res_41 clr_41_0 clr_41_1 clr_41_2 clr_41_3 esc_42 Try.ntmps42 res_42 clr_42_0 clr_42_1 clr_42_2 clr_42_3 clr_42_4 clr_42_5 clr_42_6 clr_42_7 clr_42_8 clr_42_9 clr_42_10 esc_43 Try.ntmps43 res_43 clr_43_0 clr_43_1 esc_44 Try.ntmps44 res_44 clr_44_0 clr_44_1 esc_45 Try.ntmps45 res_45 clr_45_0 clr_45_1 esc_46 Try.ntmps46 res_46 clr_46_0 clr_46_1
attribute [go_sem] clr_46_2 clr_46_3 clr_46_4 clr_46_5 clr_46_6 clr_46_7 clr_46_8 clr_46_9 clr_46_10 clr_46_11 ord_46_11 ro_46_11 esc_47 Try.ntmps47 res_47 clr_47_0 clr_47_1 clr_47_2 clr_47_3 clr_47_4 clr_47_5 clr_47_6 clr_47_7 clr_47_8 esc_48 Try.ntmps48 res_48 clr_48_0 clr_48_1 clr_48_2 clr_48_3 clr_48_4 esc_49 Try.ntmps49 res_49 clr_49_0 clr_49_1 clr_49_2 clr_49_3 clr_49_4
attribute [go_sem] clr_49_5 clr_49_6 esc_50 Try.ntmps50 res_50 clr_50_0 clr_50_1 clr_50_2 clr_50_3 ord_50_3 ro_50_3 clr_50_4 esc_51 Try.ntmps51 res_51 clr_51_0 clr_51_1 clr_51_2 clr_51_3 clr_51_4 clr_51_5 clr_51_6 esc_52 Try.ntmps52 res_52 clr_52_0 clr_52_1 esc_53 Try.ntmps53 res_53 clr_53_0 clr_53_1 esc_54 Try.ntmps54 res_54 clr_54_0 clr_54_1 esc_55 Try.ntmps55 res_55
attribute [go_sem] clr_55_0 clr_55_1 esc_56 Try.ntmps56 res_56 clr_56_0 clr_56_1 esc_57 Try.ntmps57 res_57 clr_57_0 clr_57_1 esc_58 Try.ntmps58 res_58 clr_58_0 clr_58_1 ord_58_1 ro_58_1 clr_58_2 clr_58_3 clr_58_4 ord_58_4 ro_58_4 esc_59 Try.ntmps59 res_59 clr_59_0 clr_59_1 clr_59_2 clr_59_3 esc_60 Try.ntmps60 res_60 clr_60_0 clr_60_1 clr_60_2 clr_60_3 clr_60_4 clr_60_5
attribute [go_sem] clr_60_6 ord_60_6 ro_60_6 clr_60_7 clr_60_8 clr_60_9 ord_60_9 ro_60_9 clr_60_10 clr_60_11 clr_60_12 clr_60_13 clr_60_14 esc_61 Try.ntmps61 res_61 clr_61_0 clr_61_1 ord_61_1 ro_61_1 clr_61_2 esc_62 Try.ntmps62 res_62 clr_62_0 clr_62_1 esc_63 Try.ntmps63 res_63 clr_63_0 clr_63_1 clr_63_2 clr_63_3 ord_63_3 ro_63_3 esc_64 Try.ntmps64 res_64 clr_64_0 clr_64_1
attribute [go_sem] clr_64_2 clr_64_3 clr_64_4 esc_65 Try.ntmps65 res_65 clr_65_0 clr_65_1 clr_65_2 clr_65_3 clr_65_4 clr_65_5 clr_65_6 clr_65_7 clr_65_8 clr_65_9 ord_65_9 ro_65_9 clr_65_10 clr_65_11 ord_65_11 ro_65_11 clr_65_12 clr_65_13 clr_65_14 clr_65_15 esc_66 Try.ntmps66 res_66 clr_66_0 clr_66_1 clr_66_2 clr_66_3 clr_66_4 clr_66_5 clr_66_6 ord_66_6 ro_66_6 clr_66_7 clr_66_8
attribute [go_sem] clr_66_9 esc_67 Try.ntmps67 res_67 clr_67_0 clr_67_1 clr_67_2 clr_67_3 ord_67_3 ro_67_3 clr_67_4 esc_68 Try.ntmps68 res_68 clr_68_0 clr_68_1 clr_68_2 clr_68_3 clr_68_4 clr_68_5 clr_68_6 clr_68_7 esc_69 Try.ntmps69 res_69 clr_69_0 clr_69_1 clr_69_2 clr_69_3 esc_70 Try.ntmps70 res_70 clr_70_0 clr_70_1 clr_70_2 clr_70_3 esc_71 Try.ntmps71 res_71 clr_71_0
attribute [go_sem] clr_71_1 esc_72 Try.ntmps72 res_72 clr_72_0 clr_72_1 clr_72_2 clr_72_3 clr_72_4 clr_72_5 clr_72_6 clr_72_7 esc_73 Try.ntmps73 res_73 clr_73_0 clr_73_1 clr_73_2 clr_73_3 clr_73_4 esc_74 Try.ntmps74 res_74 clr_74_0 clr_74_1 clr_74_2 clr_74_3 clr_74_4 clr_74_5 clr_74_6 esc_75 Try.ntmps75 res_75 clr_75_0 clr_75_1 esc_76 Try.ntmps76 res_76 clr_76_0 clr_76_1
attribute [go_sem] clr_76_2 clr_76_3 clr_76_4 clr_76_5 clr_76_6 clr_76_7 clr_76_8 esc_77 Try.ntmps77 res_77 clr_77_0 clr_77_1 clr_77_2 clr_77_3 clr_77_4 clr_77_5 clr_77_6 clr_77_7 esc_78 Try.ntmps78 res_78 clr_78_0 clr_78_1 clr_78_2 clr_78_3 clr_78_4 clr_78_5 clr_78_6 clr_78_7 esc_79 Try.ntmps79 res_79 clr_79_0 clr_79_1 clr_79_2 clr_79_3 clr_79_4 esc_80 Try.ntmps80 res_80
attribute [go_sem] clr_80_0 clr_80_1 clr_80_2 esc_81 Try.ntmps81 res_81 clr_81_0 clr_81_1 clr_81_2 clr_81_3 clr_81_4 clr_81_5 esc_82 Try.ntmps82 res_82 clr_82_0 clr_82_1 esc_83 Try.ntmps83 res_83 clr_83_0 clr_83_1 clr_83_2 clr_83_3 clr_83_4 clr_83_5 clr_83_6 clr_83_7 clr_83_8 clr_83_9 clr_83_10 clr_83_11 ord_83_11 ro_83_11 clr_83_12 clr_83_13 clr_83_14 clr_83_15 ord_83_15 ro_83_15
attribute [go_sem] esc_84 Try.ntmps84 res_84 clr_84_0 clr_84_1 ord_84_1 ro_84_1 clr_84_2 esc_85 Try.ntmps85 res_85 clr_85_0 clr_85_1 esc_86 Try.ntmps86 res_86 clr_86_0 clr_86_1 esc_87 Try.ntmps87 res_87 clr_87_0 clr_87_1 clr_87_2 clr_87_3 clr_87_4 clr_87_5 clr_87_6 clr_87_7 esc_88 Try.ntmps88 res_88 clr_88_0 clr_88_1 clr_88_2 clr_88_3 clr_88_4 clr_88_5 clr_88_6 clr_88_7
attribute [go_sem] clr_88_8 clr_88_9 esc_89 Try.ntmps89 res_89 clr_89_0 clr_89_1 clr_89_2 clr_89_3 esc_90 Try.ntmps90 res_90 clr_90_0 clr_90_1 esc_91 Try.ntmps91 res_91 clr_91_0 clr_91_1 clr_91_2 clr_91_3 clr_91_4 clr_91_5 esc_92 Try.ntmps92 res_92 clr_92_0 esc_93 Try.ntmps93 res_93 clr_93_0 clr_93_1 clr_93_2 clr_93_3 clr_93_4 clr_93_5 ord_93_5 ro_93_5 clr_93_6 clr_93_7
attribute [go_sem] clr_93_8 esc_94 Try.ntmps94 res_94 clr_94_0 clr_94_1 clr_94_2 clr_94_3 clr_94_4 clr_94_5 clr_94_6 clr_94_7 ord_94_7 ro_94_7 clr_94_8 clr_94_9 clr_94_10 clr_94_11 ord_94_11 ro_94_11 clr_94_12 clr_94_13 esc_95 Try.ntmps95 res_95 clr_95_0 clr_95_1 clr_95_2 clr_95_3 esc_96 Try.ntmps96 res_96 clr_96_0 esc_97 Try.ntmps97 res_97 clr_97_0 clr_97_1 clr_97_2 clr_97_3
attribute [go_sem] clr_97_4 clr_97_5 clr_97_6 clr_97_7 clr_97_8 clr_97_9 clr_97_10 clr_97_11 clr_97_12 esc_98 Try.ntmps98 res_98 clr_98_0 clr_98_1 clr_98_2 clr_98_3 clr_98_4 clr_98_5 clr_98_6 clr_98_7 clr_98_8 clr_98_9 clr_98_10 esc_99 Try.ntmps99 res_99 clr_99_0 clr_99_1 clr_99_2 clr_99_3 clr_99_4 esc_100 Try.ntmps100 res_100 clr_100_0 clr_100_1
end Go.Proofs.Ytkmpfdecjmnccaa

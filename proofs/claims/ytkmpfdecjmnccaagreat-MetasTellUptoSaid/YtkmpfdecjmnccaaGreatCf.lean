/- The tables of this program: types; which variables are shared, what is needed no more, in which order. Printed by gen.py. -/
import Derived.Test.YtkmpfdecjmnccaaGreatKG
import Derived.Test.YtkmpfdecjmnccaaGreatProg
import Derived.KernelRfl
set_option maxRecDepth 100000
namespace Go.Proofs.YtkmpfdecjmnccaaGreat
open Go.Proofs
theorem tsz_1 : tsz Tryz.prog 1 = some 1 := by kernel_rfl
theorem tag_1 : tag Tryz.prog 1 = some false := by kernel_rfl
theorem tcon_1 : tcon Tryz.prog 1 = true := by kernel_rfl
theorem tstr_1 : tstr Tryz.prog 1 = false := by kernel_rfl
theorem tbool_1 : tbool Tryz.prog 1 = false := by kernel_rfl
theorem tslc_1 : tslc Tryz.prog 1 = none := by kernel_rfl
theorem tarr_1 : tarr Tryz.prog 1 = none := by kernel_rfl
theorem tby_1 : tby Tryz.prog 1 = some 8 := by kernel_rfl
theorem tzr_1 : tzr Tryz.prog 1 = some [.raw .nilFunc] := by kernel_rfl
theorem tsz_2 : tsz Tryz.prog 2 = some 1 := by kernel_rfl
theorem tag_2 : tag Tryz.prog 2 = some false := by kernel_rfl
theorem tcon_2 : tcon Tryz.prog 2 = true := by kernel_rfl
theorem tstr_2 : tstr Tryz.prog 2 = false := by kernel_rfl
theorem tbool_2 : tbool Tryz.prog 2 = false := by kernel_rfl
theorem tslc_2 : tslc Tryz.prog 2 = none := by kernel_rfl
theorem tarr_2 : tarr Tryz.prog 2 = none := by kernel_rfl
theorem tby_2 : tby Tryz.prog 2 = some 8 := by kernel_rfl
theorem tzr_2 : tzr Tryz.prog 2 = some [.d (.int .i64 0)] := by kernel_rfl
theorem tsz_3 : tsz Tryz.prog 3 = some 1 := by kernel_rfl
theorem tag_3 : tag Tryz.prog 3 = some false := by kernel_rfl
theorem tcon_3 : tcon Tryz.prog 3 = true := by kernel_rfl
theorem tstr_3 : tstr Tryz.prog 3 = false := by kernel_rfl
theorem tbool_3 : tbool Tryz.prog 3 = false := by kernel_rfl
theorem tslc_3 : tslc Tryz.prog 3 = none := by kernel_rfl
theorem tarr_3 : tarr Tryz.prog 3 = none := by kernel_rfl
theorem tby_3 : tby Tryz.prog 3 = some 8 := by kernel_rfl
theorem tzr_3 : tzr Tryz.prog 3 = some [.d (.int .i64 0)] := by kernel_rfl
theorem tsz_4 : tsz Tryz.prog 4 = some 1 := by kernel_rfl
theorem tag_4 : tag Tryz.prog 4 = some false := by kernel_rfl
theorem tcon_4 : tcon Tryz.prog 4 = true := by kernel_rfl
theorem tstr_4 : tstr Tryz.prog 4 = false := by kernel_rfl
theorem tbool_4 : tbool Tryz.prog 4 = true := by kernel_rfl
theorem tslc_4 : tslc Tryz.prog 4 = none := by kernel_rfl
theorem tarr_4 : tarr Tryz.prog 4 = none := by kernel_rfl
theorem tby_4 : tby Tryz.prog 4 = some 1 := by kernel_rfl
theorem tzr_4 : tzr Tryz.prog 4 = some [.d (.bool false)] := by kernel_rfl
theorem tsz_5 : tsz Tryz.prog 5 = some 1 := by kernel_rfl
theorem tag_5 : tag Tryz.prog 5 = some false := by kernel_rfl
theorem tcon_5 : tcon Tryz.prog 5 = true := by kernel_rfl
theorem tstr_5 : tstr Tryz.prog 5 = false := by kernel_rfl
theorem tbool_5 : tbool Tryz.prog 5 = false := by kernel_rfl
theorem tslc_5 : tslc Tryz.prog 5 = none := by kernel_rfl
theorem tarr_5 : tarr Tryz.prog 5 = none := by kernel_rfl
theorem tby_5 : tby Tryz.prog 5 = some 1 := by kernel_rfl
theorem tzr_5 : tzr Tryz.prog 5 = some [.d (.int .u8 0)] := by kernel_rfl
theorem tsz_9 : tsz Tryz.prog 9 = some 1 := by kernel_rfl
theorem tag_9 : tag Tryz.prog 9 = some false := by kernel_rfl
theorem tcon_9 : tcon Tryz.prog 9 = true := by kernel_rfl
theorem tstr_9 : tstr Tryz.prog 9 = true := by kernel_rfl
theorem tbool_9 : tbool Tryz.prog 9 = false := by kernel_rfl
theorem tslc_9 : tslc Tryz.prog 9 = none := by kernel_rfl
theorem tarr_9 : tarr Tryz.prog 9 = none := by kernel_rfl
theorem tby_9 : tby Tryz.prog 9 = some 16 := by kernel_rfl
theorem tzr_9 : tzr Tryz.prog 9 = some [.d (.str ⟨#[]⟩)] := by kernel_rfl
theorem tsz_12 : tsz Tryz.prog 12 = some 1 := by kernel_rfl
theorem tag_12 : tag Tryz.prog 12 = some false := by kernel_rfl
theorem tcon_12 : tcon Tryz.prog 12 = true := by kernel_rfl
theorem tstr_12 : tstr Tryz.prog 12 = false := by kernel_rfl
theorem tbool_12 : tbool Tryz.prog 12 = false := by kernel_rfl
theorem tslc_12 : tslc Tryz.prog 12 = none := by kernel_rfl
theorem tarr_12 : tarr Tryz.prog 12 = none := by kernel_rfl
theorem tby_12 : tby Tryz.prog 12 = some 8 := by kernel_rfl
theorem tzr_12 : tzr Tryz.prog 12 = some [.d (.int .u64 0)] := by kernel_rfl
theorem tsz_20 : tsz Tryz.prog 20 = some 1 := by kernel_rfl
theorem tag_20 : tag Tryz.prog 20 = some false := by kernel_rfl
theorem tcon_20 : tcon Tryz.prog 20 = false := by kernel_rfl
theorem tstr_20 : tstr Tryz.prog 20 = false := by kernel_rfl
theorem tbool_20 : tbool Tryz.prog 20 = false := by kernel_rfl
theorem tslc_20 : tslc Tryz.prog 20 = none := by kernel_rfl
theorem tarr_20 : tarr Tryz.prog 20 = none := by kernel_rfl
theorem tby_20 : tby Tryz.prog 20 = some 16 := by kernel_rfl
theorem tzr_20 : tzr Tryz.prog 20 = some [.raw .nilIface] := by kernel_rfl
theorem tsz_21 : tsz Tryz.prog 21 = some 1 := by kernel_rfl
theorem tag_21 : tag Tryz.prog 21 = some false := by kernel_rfl
theorem tcon_21 : tcon Tryz.prog 21 = true := by kernel_rfl
theorem tstr_21 : tstr Tryz.prog 21 = false := by kernel_rfl
theorem tbool_21 : tbool Tryz.prog 21 = false := by kernel_rfl
theorem tslc_21 : tslc Tryz.prog 21 = none := by kernel_rfl
theorem tarr_21 : tarr Tryz.prog 21 = none := by kernel_rfl
theorem tby_21 : tby Tryz.prog 21 = some 4 := by kernel_rfl
theorem tzr_21 : tzr Tryz.prog 21 = some [.d (.int .i32 0)] := by kernel_rfl
theorem tsz_22 : tsz Tryz.prog 22 = some 1 := by kernel_rfl
theorem tag_22 : tag Tryz.prog 22 = some false := by kernel_rfl
theorem tcon_22 : tcon Tryz.prog 22 = true := by kernel_rfl
theorem tstr_22 : tstr Tryz.prog 22 = false := by kernel_rfl
theorem tbool_22 : tbool Tryz.prog 22 = false := by kernel_rfl
theorem tslc_22 : tslc Tryz.prog 22 = some 64 := by kernel_rfl
theorem tarr_22 : tarr Tryz.prog 22 = none := by kernel_rfl
theorem tby_22 : tby Tryz.prog 22 = some 24 := by kernel_rfl
theorem tzr_22 : tzr Tryz.prog 22 = some [.clip []] := by kernel_rfl
theorem tsz_23 : tsz Tryz.prog 23 = some 1 := by kernel_rfl
theorem tag_23 : tag Tryz.prog 23 = some false := by kernel_rfl
theorem tcon_23 : tcon Tryz.prog 23 = true := by kernel_rfl
theorem tstr_23 : tstr Tryz.prog 23 = false := by kernel_rfl
theorem tbool_23 : tbool Tryz.prog 23 = false := by kernel_rfl
theorem tslc_23 : tslc Tryz.prog 23 = some 32 := by kernel_rfl
theorem tarr_23 : tarr Tryz.prog 23 = none := by kernel_rfl
theorem tby_23 : tby Tryz.prog 23 = some 24 := by kernel_rfl
theorem tzr_23 : tzr Tryz.prog 23 = some [.clip []] := by kernel_rfl
theorem tsz_24 : tsz Tryz.prog 24 = some 1 := by kernel_rfl
theorem tag_24 : tag Tryz.prog 24 = some false := by kernel_rfl
theorem tcon_24 : tcon Tryz.prog 24 = true := by kernel_rfl
theorem tstr_24 : tstr Tryz.prog 24 = false := by kernel_rfl
theorem tbool_24 : tbool Tryz.prog 24 = false := by kernel_rfl
theorem tslc_24 : tslc Tryz.prog 24 = some 26 := by kernel_rfl
theorem tarr_24 : tarr Tryz.prog 24 = none := by kernel_rfl
theorem tby_24 : tby Tryz.prog 24 = some 24 := by kernel_rfl
theorem tzr_24 : tzr Tryz.prog 24 = some [.clip []] := by kernel_rfl
theorem tsz_25 : tsz Tryz.prog 25 = some 3 := by kernel_rfl
theorem tag_25 : tag Tryz.prog 25 = some true := by kernel_rfl
theorem tcon_25 : tcon Tryz.prog 25 = true := by kernel_rfl
theorem tstr_25 : tstr Tryz.prog 25 = false := by kernel_rfl
theorem tbool_25 : tbool Tryz.prog 25 = false := by kernel_rfl
theorem tslc_25 : tslc Tryz.prog 25 = none := by kernel_rfl
theorem tarr_25 : tarr Tryz.prog 25 = none := by kernel_rfl
theorem tby_25 : tby Tryz.prog 25 = some 40 := by kernel_rfl
theorem tzr_25 : tzr Tryz.prog 25 = some [.d (.int .i64 0), .d (.int .i64 0), .clip []] := by kernel_rfl
theorem tfld_25_0 : tfld Tryz.prog 25 0 = some (0, 1, 3) := by kernel_rfl
theorem place_25_0 : place Tryz.prog 25 0 = some (0, 1) := by kernel_rfl
theorem tfld_25_1 : tfld Tryz.prog 25 1 = some (1, 1, 3) := by kernel_rfl
theorem place_25_1 : place Tryz.prog 25 1 = some (1, 1) := by kernel_rfl
theorem tfld_25_2 : tfld Tryz.prog 25 2 = some (2, 1, 24) := by kernel_rfl
theorem place_25_2 : place Tryz.prog 25 2 = some (2, 1) := by kernel_rfl
theorem tbld_25 : tbld Tryz.prog 25 = true := by kernel_rfl
theorem tsz_26 : tsz Tryz.prog 26 = some 3 := by kernel_rfl
theorem tag_26 : tag Tryz.prog 26 = some true := by kernel_rfl
theorem tcon_26 : tcon Tryz.prog 26 = true := by kernel_rfl
theorem tstr_26 : tstr Tryz.prog 26 = false := by kernel_rfl
theorem tbool_26 : tbool Tryz.prog 26 = false := by kernel_rfl
theorem tslc_26 : tslc Tryz.prog 26 = none := by kernel_rfl
theorem tarr_26 : tarr Tryz.prog 26 = none := by kernel_rfl
theorem tby_26 : tby Tryz.prog 26 = some 40 := by kernel_rfl
theorem tzr_26 : tzr Tryz.prog 26 = some [.d (.int .i64 0), .d (.int .i64 0), .clip []] := by kernel_rfl
theorem tfld_26_0 : tfld Tryz.prog 26 0 = some (0, 1, 3) := by kernel_rfl
theorem place_26_0 : place Tryz.prog 26 0 = some (0, 1) := by kernel_rfl
theorem tfld_26_1 : tfld Tryz.prog 26 1 = some (1, 1, 3) := by kernel_rfl
theorem place_26_1 : place Tryz.prog 26 1 = some (1, 1) := by kernel_rfl
theorem tfld_26_2 : tfld Tryz.prog 26 2 = some (2, 1, 24) := by kernel_rfl
theorem place_26_2 : place Tryz.prog 26 2 = some (2, 1) := by kernel_rfl
theorem tbld_26 : tbld Tryz.prog 26 = true := by kernel_rfl
theorem tsz_27 : tsz Tryz.prog 27 = some 1 := by kernel_rfl
theorem tag_27 : tag Tryz.prog 27 = some false := by kernel_rfl
theorem tcon_27 : tcon Tryz.prog 27 = true := by kernel_rfl
theorem tstr_27 : tstr Tryz.prog 27 = false := by kernel_rfl
theorem tbool_27 : tbool Tryz.prog 27 = false := by kernel_rfl
theorem tslc_27 : tslc Tryz.prog 27 = none := by kernel_rfl
theorem tarr_27 : tarr Tryz.prog 27 = none := by kernel_rfl
theorem tby_27 : tby Tryz.prog 27 = some 8 := by kernel_rfl
theorem tzr_27 : tzr Tryz.prog 27 = some [.raw .nilFunc] := by kernel_rfl
theorem tsz_28 : tsz Tryz.prog 28 = some 1 := by kernel_rfl
theorem tag_28 : tag Tryz.prog 28 = some false := by kernel_rfl
theorem tcon_28 : tcon Tryz.prog 28 = true := by kernel_rfl
theorem tstr_28 : tstr Tryz.prog 28 = false := by kernel_rfl
theorem tbool_28 : tbool Tryz.prog 28 = false := by kernel_rfl
theorem tslc_28 : tslc Tryz.prog 28 = none := by kernel_rfl
theorem tarr_28 : tarr Tryz.prog 28 = none := by kernel_rfl
theorem tby_28 : tby Tryz.prog 28 = some 8 := by kernel_rfl
theorem tzr_28 : tzr Tryz.prog 28 = some [.raw .nilFunc] := by kernel_rfl
theorem tsz_29 : tsz Tryz.prog 29 = some 1 := by kernel_rfl
theorem tag_29 : tag Tryz.prog 29 = some false := by kernel_rfl
theorem tcon_29 : tcon Tryz.prog 29 = true := by kernel_rfl
theorem tstr_29 : tstr Tryz.prog 29 = false := by kernel_rfl
theorem tbool_29 : tbool Tryz.prog 29 = false := by kernel_rfl
theorem tslc_29 : tslc Tryz.prog 29 = none := by kernel_rfl
theorem tarr_29 : tarr Tryz.prog 29 = none := by kernel_rfl
theorem tby_29 : tby Tryz.prog 29 = some 8 := by kernel_rfl
theorem tzr_29 : tzr Tryz.prog 29 = some [.raw .nilFunc] := by kernel_rfl
theorem tsz_30 : tsz Tryz.prog 30 = some 1 := by kernel_rfl
theorem tag_30 : tag Tryz.prog 30 = some false := by kernel_rfl
theorem tcon_30 : tcon Tryz.prog 30 = true := by kernel_rfl
theorem tstr_30 : tstr Tryz.prog 30 = false := by kernel_rfl
theorem tbool_30 : tbool Tryz.prog 30 = false := by kernel_rfl
theorem tslc_30 : tslc Tryz.prog 30 = none := by kernel_rfl
theorem tarr_30 : tarr Tryz.prog 30 = none := by kernel_rfl
theorem tby_30 : tby Tryz.prog 30 = some 8 := by kernel_rfl
theorem tzr_30 : tzr Tryz.prog 30 = some [.raw .nilFunc] := by kernel_rfl
theorem tsz_31 : tsz Tryz.prog 31 = some 5 := by kernel_rfl
theorem tag_31 : tag Tryz.prog 31 = some true := by kernel_rfl
theorem tcon_31 : tcon Tryz.prog 31 = true := by kernel_rfl
theorem tstr_31 : tstr Tryz.prog 31 = false := by kernel_rfl
theorem tbool_31 : tbool Tryz.prog 31 = false := by kernel_rfl
theorem tslc_31 : tslc Tryz.prog 31 = none := by kernel_rfl
theorem tarr_31 : tarr Tryz.prog 31 = none := by kernel_rfl
theorem tby_31 : tby Tryz.prog 31 = some 72 := by kernel_rfl
theorem tzr_31 : tzr Tryz.prog 31 = some [.clip [], .d (.int .i64 0), .d (.int .i64 0), .clip [], .d (.bool false)] := by kernel_rfl
theorem tfld_31_0 : tfld Tryz.prog 31 0 = some (0, 1, 24) := by kernel_rfl
theorem place_31_0 : place Tryz.prog 31 0 = some (0, 1) := by kernel_rfl
theorem tfld_31_1 : tfld Tryz.prog 31 1 = some (1, 3, 26) := by kernel_rfl
theorem place_31_1 : place Tryz.prog 31 1 = some (1, 3) := by kernel_rfl
theorem tfld_31_2 : tfld Tryz.prog 31 2 = some (4, 1, 4) := by kernel_rfl
theorem place_31_2 : place Tryz.prog 31 2 = some (4, 1) := by kernel_rfl
theorem tbld_31 : tbld Tryz.prog 31 = true := by kernel_rfl
theorem tsz_32 : tsz Tryz.prog 32 = some 5 := by kernel_rfl
theorem tag_32 : tag Tryz.prog 32 = some true := by kernel_rfl
theorem tcon_32 : tcon Tryz.prog 32 = true := by kernel_rfl
theorem tstr_32 : tstr Tryz.prog 32 = false := by kernel_rfl
theorem tbool_32 : tbool Tryz.prog 32 = false := by kernel_rfl
theorem tslc_32 : tslc Tryz.prog 32 = none := by kernel_rfl
theorem tarr_32 : tarr Tryz.prog 32 = none := by kernel_rfl
theorem tby_32 : tby Tryz.prog 32 = some 72 := by kernel_rfl
theorem tzr_32 : tzr Tryz.prog 32 = some [.clip [], .d (.int .i64 0), .d (.int .i64 0), .clip [], .d (.bool false)] := by kernel_rfl
theorem tfld_32_0 : tfld Tryz.prog 32 0 = some (0, 1, 24) := by kernel_rfl
theorem place_32_0 : place Tryz.prog 32 0 = some (0, 1) := by kernel_rfl
theorem tfld_32_1 : tfld Tryz.prog 32 1 = some (1, 3, 26) := by kernel_rfl
theorem place_32_1 : place Tryz.prog 32 1 = some (1, 3) := by kernel_rfl
theorem tfld_32_2 : tfld Tryz.prog 32 2 = some (4, 1, 4) := by kernel_rfl
theorem place_32_2 : place Tryz.prog 32 2 = some (4, 1) := by kernel_rfl
theorem tbld_32 : tbld Tryz.prog 32 = true := by kernel_rfl
theorem tsz_33 : tsz Tryz.prog 33 = some 1 := by kernel_rfl
theorem tag_33 : tag Tryz.prog 33 = some false := by kernel_rfl
theorem tcon_33 : tcon Tryz.prog 33 = true := by kernel_rfl
theorem tstr_33 : tstr Tryz.prog 33 = false := by kernel_rfl
theorem tbool_33 : tbool Tryz.prog 33 = false := by kernel_rfl
theorem tslc_33 : tslc Tryz.prog 33 = none := by kernel_rfl
theorem tarr_33 : tarr Tryz.prog 33 = none := by kernel_rfl
theorem tby_33 : tby Tryz.prog 33 = some 8 := by kernel_rfl
theorem tzr_33 : tzr Tryz.prog 33 = some [.d (.int .i64 0)] := by kernel_rfl
theorem tsz_35 : tsz Tryz.prog 35 = some 1 := by kernel_rfl
theorem tag_35 : tag Tryz.prog 35 = some false := by kernel_rfl
theorem tcon_35 : tcon Tryz.prog 35 = true := by kernel_rfl
theorem tstr_35 : tstr Tryz.prog 35 = false := by kernel_rfl
theorem tbool_35 : tbool Tryz.prog 35 = false := by kernel_rfl
theorem tslc_35 : tslc Tryz.prog 35 = none := by kernel_rfl
theorem tarr_35 : tarr Tryz.prog 35 = none := by kernel_rfl
theorem tby_35 : tby Tryz.prog 35 = some 8 := by kernel_rfl
theorem tzr_35 : tzr Tryz.prog 35 = some [.raw .nilFunc] := by kernel_rfl
theorem tsz_36 : tsz Tryz.prog 36 = some 1 := by kernel_rfl
theorem tag_36 : tag Tryz.prog 36 = some false := by kernel_rfl
theorem tcon_36 : tcon Tryz.prog 36 = true := by kernel_rfl
theorem tstr_36 : tstr Tryz.prog 36 = false := by kernel_rfl
theorem tbool_36 : tbool Tryz.prog 36 = false := by kernel_rfl
theorem tslc_36 : tslc Tryz.prog 36 = none := by kernel_rfl
theorem tarr_36 : tarr Tryz.prog 36 = none := by kernel_rfl
theorem tby_36 : tby Tryz.prog 36 = some 8 := by kernel_rfl
theorem tzr_36 : tzr Tryz.prog 36 = some [.raw .nilFunc] := by kernel_rfl
theorem tsz_37 : tsz Tryz.prog 37 = some 1 := by kernel_rfl
theorem tag_37 : tag Tryz.prog 37 = some false := by kernel_rfl
theorem tcon_37 : tcon Tryz.prog 37 = true := by kernel_rfl
theorem tstr_37 : tstr Tryz.prog 37 = false := by kernel_rfl
theorem tbool_37 : tbool Tryz.prog 37 = false := by kernel_rfl
theorem tslc_37 : tslc Tryz.prog 37 = none := by kernel_rfl
theorem tarr_37 : tarr Tryz.prog 37 = none := by kernel_rfl
theorem tby_37 : tby Tryz.prog 37 = some 8 := by kernel_rfl
theorem tzr_37 : tzr Tryz.prog 37 = some [.raw .nilFunc] := by kernel_rfl
theorem tsz_38 : tsz Tryz.prog 38 = some 1 := by kernel_rfl
theorem tag_38 : tag Tryz.prog 38 = some false := by kernel_rfl
theorem tcon_38 : tcon Tryz.prog 38 = true := by kernel_rfl
theorem tstr_38 : tstr Tryz.prog 38 = false := by kernel_rfl
theorem tbool_38 : tbool Tryz.prog 38 = false := by kernel_rfl
theorem tslc_38 : tslc Tryz.prog 38 = none := by kernel_rfl
theorem tarr_38 : tarr Tryz.prog 38 = none := by kernel_rfl
theorem tby_38 : tby Tryz.prog 38 = some 8 := by kernel_rfl
theorem tzr_38 : tzr Tryz.prog 38 = some [.raw .nilFunc] := by kernel_rfl
theorem tsz_39 : tsz Tryz.prog 39 = some 1 := by kernel_rfl
theorem tag_39 : tag Tryz.prog 39 = some false := by kernel_rfl
theorem tcon_39 : tcon Tryz.prog 39 = true := by kernel_rfl
theorem tstr_39 : tstr Tryz.prog 39 = false := by kernel_rfl
theorem tbool_39 : tbool Tryz.prog 39 = false := by kernel_rfl
theorem tslc_39 : tslc Tryz.prog 39 = some 3 := by kernel_rfl
theorem tarr_39 : tarr Tryz.prog 39 = none := by kernel_rfl
theorem tby_39 : tby Tryz.prog 39 = some 24 := by kernel_rfl
theorem tzr_39 : tzr Tryz.prog 39 = some [.clip []] := by kernel_rfl
theorem tsz_40 : tsz Tryz.prog 40 = some 1 := by kernel_rfl
theorem tag_40 : tag Tryz.prog 40 = some false := by kernel_rfl
theorem tcon_40 : tcon Tryz.prog 40 = true := by kernel_rfl
theorem tstr_40 : tstr Tryz.prog 40 = false := by kernel_rfl
theorem tbool_40 : tbool Tryz.prog 40 = false := by kernel_rfl
theorem tslc_40 : tslc Tryz.prog 40 = none := by kernel_rfl
theorem tarr_40 : tarr Tryz.prog 40 = none := by kernel_rfl
theorem tby_40 : tby Tryz.prog 40 = some 8 := by kernel_rfl
theorem tzr_40 : tzr Tryz.prog 40 = some [.raw .nilFunc] := by kernel_rfl
theorem tsz_41 : tsz Tryz.prog 41 = some 1 := by kernel_rfl
theorem tag_41 : tag Tryz.prog 41 = some false := by kernel_rfl
theorem tcon_41 : tcon Tryz.prog 41 = true := by kernel_rfl
theorem tstr_41 : tstr Tryz.prog 41 = false := by kernel_rfl
theorem tbool_41 : tbool Tryz.prog 41 = false := by kernel_rfl
theorem tslc_41 : tslc Tryz.prog 41 = some 4 := by kernel_rfl
theorem tarr_41 : tarr Tryz.prog 41 = none := by kernel_rfl
theorem tby_41 : tby Tryz.prog 41 = some 24 := by kernel_rfl
theorem tzr_41 : tzr Tryz.prog 41 = some [.clip []] := by kernel_rfl
theorem tsz_42 : tsz Tryz.prog 42 = some 1 := by kernel_rfl
theorem tag_42 : tag Tryz.prog 42 = some false := by kernel_rfl
theorem tcon_42 : tcon Tryz.prog 42 = true := by kernel_rfl
theorem tstr_42 : tstr Tryz.prog 42 = false := by kernel_rfl
theorem tbool_42 : tbool Tryz.prog 42 = false := by kernel_rfl
theorem tslc_42 : tslc Tryz.prog 42 = none := by kernel_rfl
theorem tarr_42 : tarr Tryz.prog 42 = none := by kernel_rfl
theorem tby_42 : tby Tryz.prog 42 = some 8 := by kernel_rfl
theorem tzr_42 : tzr Tryz.prog 42 = some [.raw .nilFunc] := by kernel_rfl
theorem tsz_43 : tsz Tryz.prog 43 = some 1 := by kernel_rfl
theorem tag_43 : tag Tryz.prog 43 = some false := by kernel_rfl
theorem tcon_43 : tcon Tryz.prog 43 = true := by kernel_rfl
theorem tstr_43 : tstr Tryz.prog 43 = false := by kernel_rfl
theorem tbool_43 : tbool Tryz.prog 43 = false := by kernel_rfl
theorem tslc_43 : tslc Tryz.prog 43 = none := by kernel_rfl
theorem tarr_43 : tarr Tryz.prog 43 = none := by kernel_rfl
theorem tby_43 : tby Tryz.prog 43 = some 8 := by kernel_rfl
theorem tzr_43 : tzr Tryz.prog 43 = some [.raw .nilFunc] := by kernel_rfl
theorem tsz_44 : tsz Tryz.prog 44 = some 1 := by kernel_rfl
theorem tag_44 : tag Tryz.prog 44 = some false := by kernel_rfl
theorem tcon_44 : tcon Tryz.prog 44 = true := by kernel_rfl
theorem tstr_44 : tstr Tryz.prog 44 = false := by kernel_rfl
theorem tbool_44 : tbool Tryz.prog 44 = false := by kernel_rfl
theorem tslc_44 : tslc Tryz.prog 44 = none := by kernel_rfl
theorem tarr_44 : tarr Tryz.prog 44 = none := by kernel_rfl
theorem tby_44 : tby Tryz.prog 44 = some 8 := by kernel_rfl
theorem tzr_44 : tzr Tryz.prog 44 = some [.raw .nilFunc] := by kernel_rfl
theorem tsz_45 : tsz Tryz.prog 45 = some 1 := by kernel_rfl
theorem tag_45 : tag Tryz.prog 45 = some false := by kernel_rfl
theorem tcon_45 : tcon Tryz.prog 45 = true := by kernel_rfl
theorem tstr_45 : tstr Tryz.prog 45 = false := by kernel_rfl
theorem tbool_45 : tbool Tryz.prog 45 = false := by kernel_rfl
theorem tslc_45 : tslc Tryz.prog 45 = none := by kernel_rfl
theorem tarr_45 : tarr Tryz.prog 45 = none := by kernel_rfl
theorem tby_45 : tby Tryz.prog 45 = some 8 := by kernel_rfl
theorem tzr_45 : tzr Tryz.prog 45 = some [.raw .nilFunc] := by kernel_rfl
theorem tsz_46 : tsz Tryz.prog 46 = some 1 := by kernel_rfl
theorem tag_46 : tag Tryz.prog 46 = some false := by kernel_rfl
theorem tcon_46 : tcon Tryz.prog 46 = true := by kernel_rfl
theorem tstr_46 : tstr Tryz.prog 46 = false := by kernel_rfl
theorem tbool_46 : tbool Tryz.prog 46 = false := by kernel_rfl
theorem tslc_46 : tslc Tryz.prog 46 = none := by kernel_rfl
theorem tarr_46 : tarr Tryz.prog 46 = none := by kernel_rfl
theorem tby_46 : tby Tryz.prog 46 = some 8 := by kernel_rfl
theorem tzr_46 : tzr Tryz.prog 46 = some [.raw .nilFunc] := by kernel_rfl
theorem tsz_47 : tsz Tryz.prog 47 = some 1 := by kernel_rfl
theorem tag_47 : tag Tryz.prog 47 = some false := by kernel_rfl
theorem tcon_47 : tcon Tryz.prog 47 = true := by kernel_rfl
theorem tstr_47 : tstr Tryz.prog 47 = false := by kernel_rfl
theorem tbool_47 : tbool Tryz.prog 47 = false := by kernel_rfl
theorem tslc_47 : tslc Tryz.prog 47 = none := by kernel_rfl
theorem tarr_47 : tarr Tryz.prog 47 = none := by kernel_rfl
theorem tby_47 : tby Tryz.prog 47 = some 8 := by kernel_rfl
theorem tzr_47 : tzr Tryz.prog 47 = some [.raw .nilFunc] := by kernel_rfl
theorem tsz_48 : tsz Tryz.prog 48 = some 1 := by kernel_rfl
theorem tag_48 : tag Tryz.prog 48 = some false := by kernel_rfl
theorem tcon_48 : tcon Tryz.prog 48 = true := by kernel_rfl
theorem tstr_48 : tstr Tryz.prog 48 = false := by kernel_rfl
theorem tbool_48 : tbool Tryz.prog 48 = false := by kernel_rfl
theorem tslc_48 : tslc Tryz.prog 48 = none := by kernel_rfl
theorem tarr_48 : tarr Tryz.prog 48 = none := by kernel_rfl
theorem tby_48 : tby Tryz.prog 48 = some 8 := by kernel_rfl
theorem tzr_48 : tzr Tryz.prog 48 = some [.raw .nilFunc] := by kernel_rfl
theorem tsz_49 : tsz Tryz.prog 49 = some 1 := by kernel_rfl
theorem tag_49 : tag Tryz.prog 49 = some false := by kernel_rfl
theorem tcon_49 : tcon Tryz.prog 49 = true := by kernel_rfl
theorem tstr_49 : tstr Tryz.prog 49 = false := by kernel_rfl
theorem tbool_49 : tbool Tryz.prog 49 = false := by kernel_rfl
theorem tslc_49 : tslc Tryz.prog 49 = none := by kernel_rfl
theorem tarr_49 : tarr Tryz.prog 49 = none := by kernel_rfl
theorem tby_49 : tby Tryz.prog 49 = some 8 := by kernel_rfl
theorem tzr_49 : tzr Tryz.prog 49 = some [.raw .nilFunc] := by kernel_rfl
theorem tsz_50 : tsz Tryz.prog 50 = some 1 := by kernel_rfl
theorem tag_50 : tag Tryz.prog 50 = some false := by kernel_rfl
theorem tcon_50 : tcon Tryz.prog 50 = true := by kernel_rfl
theorem tstr_50 : tstr Tryz.prog 50 = false := by kernel_rfl
theorem tbool_50 : tbool Tryz.prog 50 = false := by kernel_rfl
theorem tslc_50 : tslc Tryz.prog 50 = none := by kernel_rfl
theorem tarr_50 : tarr Tryz.prog 50 = none := by kernel_rfl
theorem tby_50 : tby Tryz.prog 50 = some 8 := by kernel_rfl
theorem tzr_50 : tzr Tryz.prog 50 = some [.raw .nilFunc] := by kernel_rfl
theorem tsz_51 : tsz Tryz.prog 51 = some 1 := by kernel_rfl
theorem tag_51 : tag Tryz.prog 51 = some false := by kernel_rfl
theorem tcon_51 : tcon Tryz.prog 51 = true := by kernel_rfl
theorem tstr_51 : tstr Tryz.prog 51 = false := by kernel_rfl
theorem tbool_51 : tbool Tryz.prog 51 = false := by kernel_rfl
theorem tslc_51 : tslc Tryz.prog 51 = none := by kernel_rfl
theorem tarr_51 : tarr Tryz.prog 51 = none := by kernel_rfl
theorem tby_51 : tby Tryz.prog 51 = some 8 := by kernel_rfl
theorem tzr_51 : tzr Tryz.prog 51 = some [.raw .nilFunc] := by kernel_rfl
theorem tsz_52 : tsz Tryz.prog 52 = some 1 := by kernel_rfl
theorem tag_52 : tag Tryz.prog 52 = some false := by kernel_rfl
theorem tcon_52 : tcon Tryz.prog 52 = true := by kernel_rfl
theorem tstr_52 : tstr Tryz.prog 52 = false := by kernel_rfl
theorem tbool_52 : tbool Tryz.prog 52 = false := by kernel_rfl
theorem tslc_52 : tslc Tryz.prog 52 = none := by kernel_rfl
theorem tarr_52 : tarr Tryz.prog 52 = none := by kernel_rfl
theorem tby_52 : tby Tryz.prog 52 = some 8 := by kernel_rfl
theorem tzr_52 : tzr Tryz.prog 52 = some [.raw .nilFunc] := by kernel_rfl
theorem tsz_53 : tsz Tryz.prog 53 = some 1 := by kernel_rfl
theorem tag_53 : tag Tryz.prog 53 = some false := by kernel_rfl
theorem tcon_53 : tcon Tryz.prog 53 = true := by kernel_rfl
theorem tstr_53 : tstr Tryz.prog 53 = false := by kernel_rfl
theorem tbool_53 : tbool Tryz.prog 53 = false := by kernel_rfl
theorem tslc_53 : tslc Tryz.prog 53 = none := by kernel_rfl
theorem tarr_53 : tarr Tryz.prog 53 = none := by kernel_rfl
theorem tby_53 : tby Tryz.prog 53 = some 8 := by kernel_rfl
theorem tzr_53 : tzr Tryz.prog 53 = some [.raw .nilFunc] := by kernel_rfl
theorem tsz_54 : tsz Tryz.prog 54 = some 1 := by kernel_rfl
theorem tag_54 : tag Tryz.prog 54 = some false := by kernel_rfl
theorem tcon_54 : tcon Tryz.prog 54 = true := by kernel_rfl
theorem tstr_54 : tstr Tryz.prog 54 = false := by kernel_rfl
theorem tbool_54 : tbool Tryz.prog 54 = false := by kernel_rfl
theorem tslc_54 : tslc Tryz.prog 54 = none := by kernel_rfl
theorem tarr_54 : tarr Tryz.prog 54 = none := by kernel_rfl
theorem tby_54 : tby Tryz.prog 54 = some 8 := by kernel_rfl
theorem tzr_54 : tzr Tryz.prog 54 = some [.raw .nilFunc] := by kernel_rfl
theorem tsz_56 : tsz Tryz.prog 56 = some 1 := by kernel_rfl
theorem tag_56 : tag Tryz.prog 56 = some false := by kernel_rfl
theorem tcon_56 : tcon Tryz.prog 56 = true := by kernel_rfl
theorem tstr_56 : tstr Tryz.prog 56 = false := by kernel_rfl
theorem tbool_56 : tbool Tryz.prog 56 = false := by kernel_rfl
theorem tslc_56 : tslc Tryz.prog 56 = none := by kernel_rfl
theorem tarr_56 : tarr Tryz.prog 56 = none := by kernel_rfl
theorem tby_56 : tby Tryz.prog 56 = some 8 := by kernel_rfl
theorem tzr_56 : tzr Tryz.prog 56 = some [.raw .nilFunc] := by kernel_rfl
theorem tsz_58 : tsz Tryz.prog 58 = some 1 := by kernel_rfl
theorem tag_58 : tag Tryz.prog 58 = some false := by kernel_rfl
theorem tcon_58 : tcon Tryz.prog 58 = true := by kernel_rfl
theorem tstr_58 : tstr Tryz.prog 58 = false := by kernel_rfl
theorem tbool_58 : tbool Tryz.prog 58 = false := by kernel_rfl
theorem tslc_58 : tslc Tryz.prog 58 = none := by kernel_rfl
theorem tarr_58 : tarr Tryz.prog 58 = none := by kernel_rfl
theorem tby_58 : tby Tryz.prog 58 = some 8 := by kernel_rfl
theorem tzr_58 : tzr Tryz.prog 58 = some [.raw .nilFunc] := by kernel_rfl
theorem tsz_59 : tsz Tryz.prog 59 = some 1 := by kernel_rfl
theorem tag_59 : tag Tryz.prog 59 = some false := by kernel_rfl
theorem tcon_59 : tcon Tryz.prog 59 = true := by kernel_rfl
theorem tstr_59 : tstr Tryz.prog 59 = false := by kernel_rfl
theorem tbool_59 : tbool Tryz.prog 59 = false := by kernel_rfl
theorem tslc_59 : tslc Tryz.prog 59 = none := by kernel_rfl
theorem tarr_59 : tarr Tryz.prog 59 = none := by kernel_rfl
theorem tby_59 : tby Tryz.prog 59 = some 8 := by kernel_rfl
theorem tzr_59 : tzr Tryz.prog 59 = some [.raw .nilFunc] := by kernel_rfl
theorem tsz_60 : tsz Tryz.prog 60 = some 1 := by kernel_rfl
theorem tag_60 : tag Tryz.prog 60 = some false := by kernel_rfl
theorem tcon_60 : tcon Tryz.prog 60 = true := by kernel_rfl
theorem tstr_60 : tstr Tryz.prog 60 = false := by kernel_rfl
theorem tbool_60 : tbool Tryz.prog 60 = false := by kernel_rfl
theorem tslc_60 : tslc Tryz.prog 60 = none := by kernel_rfl
theorem tarr_60 : tarr Tryz.prog 60 = none := by kernel_rfl
theorem tby_60 : tby Tryz.prog 60 = some 8 := by kernel_rfl
theorem tzr_60 : tzr Tryz.prog 60 = some [.raw .nilFunc] := by kernel_rfl
theorem tsz_61 : tsz Tryz.prog 61 = some 1 := by kernel_rfl
theorem tag_61 : tag Tryz.prog 61 = some false := by kernel_rfl
theorem tcon_61 : tcon Tryz.prog 61 = true := by kernel_rfl
theorem tstr_61 : tstr Tryz.prog 61 = false := by kernel_rfl
theorem tbool_61 : tbool Tryz.prog 61 = false := by kernel_rfl
theorem tslc_61 : tslc Tryz.prog 61 = none := by kernel_rfl
theorem tarr_61 : tarr Tryz.prog 61 = none := by kernel_rfl
theorem tby_61 : tby Tryz.prog 61 = some 8 := by kernel_rfl
theorem tzr_61 : tzr Tryz.prog 61 = some [.raw .nilFunc] := by kernel_rfl
theorem tsz_62 : tsz Tryz.prog 62 = some 1 := by kernel_rfl
theorem tag_62 : tag Tryz.prog 62 = some false := by kernel_rfl
theorem tcon_62 : tcon Tryz.prog 62 = true := by kernel_rfl
theorem tstr_62 : tstr Tryz.prog 62 = false := by kernel_rfl
theorem tbool_62 : tbool Tryz.prog 62 = false := by kernel_rfl
theorem tslc_62 : tslc Tryz.prog 62 = none := by kernel_rfl
theorem tarr_62 : tarr Tryz.prog 62 = none := by kernel_rfl
theorem tby_62 : tby Tryz.prog 62 = some 8 := by kernel_rfl
theorem tzr_62 : tzr Tryz.prog 62 = some [.raw .nilFunc] := by kernel_rfl
theorem tsz_63 : tsz Tryz.prog 63 = some 4 := by kernel_rfl
theorem tag_63 : tag Tryz.prog 63 = some true := by kernel_rfl
theorem tcon_63 : tcon Tryz.prog 63 = true := by kernel_rfl
theorem tstr_63 : tstr Tryz.prog 63 = false := by kernel_rfl
theorem tbool_63 : tbool Tryz.prog 63 = false := by kernel_rfl
theorem tslc_63 : tslc Tryz.prog 63 = none := by kernel_rfl
theorem tarr_63 : tarr Tryz.prog 63 = none := by kernel_rfl
theorem tby_63 : tby Tryz.prog 63 = some 56 := by kernel_rfl
theorem tzr_63 : tzr Tryz.prog 63 = some [.d (.str ⟨#[]⟩), .d (.int .i64 0), .d (.int .i64 0), .clip []] := by kernel_rfl
theorem tfld_63_0 : tfld Tryz.prog 63 0 = some (0, 1, 9) := by kernel_rfl
theorem place_63_0 : place Tryz.prog 63 0 = some (0, 1) := by kernel_rfl
theorem tfld_63_1 : tfld Tryz.prog 63 1 = some (1, 3, 26) := by kernel_rfl
theorem place_63_1 : place Tryz.prog 63 1 = some (1, 3) := by kernel_rfl
theorem tbld_63 : tbld Tryz.prog 63 = true := by kernel_rfl
theorem tsz_64 : tsz Tryz.prog 64 = some 4 := by kernel_rfl
theorem tag_64 : tag Tryz.prog 64 = some true := by kernel_rfl
theorem tcon_64 : tcon Tryz.prog 64 = true := by kernel_rfl
theorem tstr_64 : tstr Tryz.prog 64 = false := by kernel_rfl
theorem tbool_64 : tbool Tryz.prog 64 = false := by kernel_rfl
theorem tslc_64 : tslc Tryz.prog 64 = none := by kernel_rfl
theorem tarr_64 : tarr Tryz.prog 64 = none := by kernel_rfl
theorem tby_64 : tby Tryz.prog 64 = some 56 := by kernel_rfl
theorem tzr_64 : tzr Tryz.prog 64 = some [.d (.str ⟨#[]⟩), .d (.int .i64 0), .d (.int .i64 0), .clip []] := by kernel_rfl
theorem tfld_64_0 : tfld Tryz.prog 64 0 = some (0, 1, 9) := by kernel_rfl
theorem place_64_0 : place Tryz.prog 64 0 = some (0, 1) := by kernel_rfl
theorem tfld_64_1 : tfld Tryz.prog 64 1 = some (1, 3, 26) := by kernel_rfl
theorem place_64_1 : place Tryz.prog 64 1 = some (1, 3) := by kernel_rfl
theorem tbld_64 : tbld Tryz.prog 64 = true := by kernel_rfl
theorem tsz_65 : tsz Tryz.prog 65 = some 1 := by kernel_rfl
theorem tag_65 : tag Tryz.prog 65 = some false := by kernel_rfl
theorem tcon_65 : tcon Tryz.prog 65 = true := by kernel_rfl
theorem tstr_65 : tstr Tryz.prog 65 = false := by kernel_rfl
theorem tbool_65 : tbool Tryz.prog 65 = false := by kernel_rfl
theorem tslc_65 : tslc Tryz.prog 65 = none := by kernel_rfl
theorem tarr_65 : tarr Tryz.prog 65 = none := by kernel_rfl
theorem tby_65 : tby Tryz.prog 65 = some 8 := by kernel_rfl
theorem tzr_65 : tzr Tryz.prog 65 = some [.raw .nilFunc] := by kernel_rfl
theorem tsz_66 : tsz Tryz.prog 66 = some 1 := by kernel_rfl
theorem tag_66 : tag Tryz.prog 66 = some false := by kernel_rfl
theorem tcon_66 : tcon Tryz.prog 66 = true := by kernel_rfl
theorem tstr_66 : tstr Tryz.prog 66 = false := by kernel_rfl
theorem tbool_66 : tbool Tryz.prog 66 = false := by kernel_rfl
theorem tslc_66 : tslc Tryz.prog 66 = none := by kernel_rfl
theorem tarr_66 : tarr Tryz.prog 66 = none := by kernel_rfl
theorem tby_66 : tby Tryz.prog 66 = some 8 := by kernel_rfl
theorem tzr_66 : tzr Tryz.prog 66 = some [.raw .nilFunc] := by kernel_rfl
theorem tsz_67 : tsz Tryz.prog 67 = some 1 := by kernel_rfl
theorem tag_67 : tag Tryz.prog 67 = some false := by kernel_rfl
theorem tcon_67 : tcon Tryz.prog 67 = true := by kernel_rfl
theorem tstr_67 : tstr Tryz.prog 67 = false := by kernel_rfl
theorem tbool_67 : tbool Tryz.prog 67 = false := by kernel_rfl
theorem tslc_67 : tslc Tryz.prog 67 = none := by kernel_rfl
theorem tarr_67 : tarr Tryz.prog 67 = none := by kernel_rfl
theorem tby_67 : tby Tryz.prog 67 = some 8 := by kernel_rfl
theorem tzr_67 : tzr Tryz.prog 67 = some [.raw .nilFunc] := by kernel_rfl
theorem tsz_68 : tsz Tryz.prog 68 = some 1 := by kernel_rfl
theorem tag_68 : tag Tryz.prog 68 = some false := by kernel_rfl
theorem tcon_68 : tcon Tryz.prog 68 = true := by kernel_rfl
theorem tstr_68 : tstr Tryz.prog 68 = false := by kernel_rfl
theorem tbool_68 : tbool Tryz.prog 68 = false := by kernel_rfl
theorem tslc_68 : tslc Tryz.prog 68 = none := by kernel_rfl
theorem tarr_68 : tarr Tryz.prog 68 = none := by kernel_rfl
theorem tby_68 : tby Tryz.prog 68 = some 8 := by kernel_rfl
theorem tzr_68 : tzr Tryz.prog 68 = some [.raw .nilFunc] := by kernel_rfl
theorem tsz_69 : tsz Tryz.prog 69 = some 1 := by kernel_rfl
theorem tag_69 : tag Tryz.prog 69 = some false := by kernel_rfl
theorem tcon_69 : tcon Tryz.prog 69 = true := by kernel_rfl
theorem tstr_69 : tstr Tryz.prog 69 = false := by kernel_rfl
theorem tbool_69 : tbool Tryz.prog 69 = false := by kernel_rfl
theorem tslc_69 : tslc Tryz.prog 69 = none := by kernel_rfl
theorem tarr_69 : tarr Tryz.prog 69 = none := by kernel_rfl
theorem tby_69 : tby Tryz.prog 69 = some 8 := by kernel_rfl
theorem tzr_69 : tzr Tryz.prog 69 = some [.raw .nilFunc] := by kernel_rfl
theorem tsz_70 : tsz Tryz.prog 70 = some 1 := by kernel_rfl
theorem tag_70 : tag Tryz.prog 70 = some false := by kernel_rfl
theorem tcon_70 : tcon Tryz.prog 70 = true := by kernel_rfl
theorem tstr_70 : tstr Tryz.prog 70 = false := by kernel_rfl
theorem tbool_70 : tbool Tryz.prog 70 = false := by kernel_rfl
theorem tslc_70 : tslc Tryz.prog 70 = none := by kernel_rfl
theorem tarr_70 : tarr Tryz.prog 70 = none := by kernel_rfl
theorem tby_70 : tby Tryz.prog 70 = some 8 := by kernel_rfl
theorem tzr_70 : tzr Tryz.prog 70 = some [.raw .nilFunc] := by kernel_rfl
theorem tsz_71 : tsz Tryz.prog 71 = some 1 := by kernel_rfl
theorem tag_71 : tag Tryz.prog 71 = some false := by kernel_rfl
theorem tcon_71 : tcon Tryz.prog 71 = true := by kernel_rfl
theorem tstr_71 : tstr Tryz.prog 71 = false := by kernel_rfl
theorem tbool_71 : tbool Tryz.prog 71 = false := by kernel_rfl
theorem tslc_71 : tslc Tryz.prog 71 = none := by kernel_rfl
theorem tarr_71 : tarr Tryz.prog 71 = none := by kernel_rfl
theorem tby_71 : tby Tryz.prog 71 = some 8 := by kernel_rfl
theorem tzr_71 : tzr Tryz.prog 71 = some [.raw .nilFunc] := by kernel_rfl
theorem tsz_72 : tsz Tryz.prog 72 = some 3 := by kernel_rfl
theorem tag_72 : tag Tryz.prog 72 = some true := by kernel_rfl
theorem tcon_72 : tcon Tryz.prog 72 = true := by kernel_rfl
theorem tstr_72 : tstr Tryz.prog 72 = false := by kernel_rfl
theorem tbool_72 : tbool Tryz.prog 72 = false := by kernel_rfl
theorem tslc_72 : tslc Tryz.prog 72 = none := by kernel_rfl
theorem tarr_72 : tarr Tryz.prog 72 = none := by kernel_rfl
theorem tby_72 : tby Tryz.prog 72 = some 72 := by kernel_rfl
theorem tzr_72 : tzr Tryz.prog 72 = some [.clip [], .clip [], .clip []] := by kernel_rfl
theorem tfld_72_0 : tfld Tryz.prog 72 0 = some (0, 1, 22) := by kernel_rfl
theorem place_72_0 : place Tryz.prog 72 0 = some (0, 1) := by kernel_rfl
theorem tfld_72_1 : tfld Tryz.prog 72 1 = some (1, 1, 23) := by kernel_rfl
theorem place_72_1 : place Tryz.prog 72 1 = some (1, 1) := by kernel_rfl
theorem tfld_72_2 : tfld Tryz.prog 72 2 = some (2, 1, 24) := by kernel_rfl
theorem place_72_2 : place Tryz.prog 72 2 = some (2, 1) := by kernel_rfl
theorem tbld_72 : tbld Tryz.prog 72 = true := by kernel_rfl
theorem tsz_73 : tsz Tryz.prog 73 = some 3 := by kernel_rfl
theorem tag_73 : tag Tryz.prog 73 = some true := by kernel_rfl
theorem tcon_73 : tcon Tryz.prog 73 = true := by kernel_rfl
theorem tstr_73 : tstr Tryz.prog 73 = false := by kernel_rfl
theorem tbool_73 : tbool Tryz.prog 73 = false := by kernel_rfl
theorem tslc_73 : tslc Tryz.prog 73 = none := by kernel_rfl
theorem tarr_73 : tarr Tryz.prog 73 = none := by kernel_rfl
theorem tby_73 : tby Tryz.prog 73 = some 72 := by kernel_rfl
theorem tzr_73 : tzr Tryz.prog 73 = some [.clip [], .clip [], .clip []] := by kernel_rfl
theorem tfld_73_0 : tfld Tryz.prog 73 0 = some (0, 1, 22) := by kernel_rfl
theorem place_73_0 : place Tryz.prog 73 0 = some (0, 1) := by kernel_rfl
theorem tfld_73_1 : tfld Tryz.prog 73 1 = some (1, 1, 23) := by kernel_rfl
theorem place_73_1 : place Tryz.prog 73 1 = some (1, 1) := by kernel_rfl
theorem tfld_73_2 : tfld Tryz.prog 73 2 = some (2, 1, 24) := by kernel_rfl
theorem place_73_2 : place Tryz.prog 73 2 = some (2, 1) := by kernel_rfl
theorem tbld_73 : tbld Tryz.prog 73 = true := by kernel_rfl
theorem tsz_74 : tsz Tryz.prog 74 = some 1 := by kernel_rfl
theorem tag_74 : tag Tryz.prog 74 = some false := by kernel_rfl
theorem tcon_74 : tcon Tryz.prog 74 = true := by kernel_rfl
theorem tstr_74 : tstr Tryz.prog 74 = false := by kernel_rfl
theorem tbool_74 : tbool Tryz.prog 74 = false := by kernel_rfl
theorem tslc_74 : tslc Tryz.prog 74 = none := by kernel_rfl
theorem tarr_74 : tarr Tryz.prog 74 = none := by kernel_rfl
theorem tby_74 : tby Tryz.prog 74 = some 8 := by kernel_rfl
theorem tzr_74 : tzr Tryz.prog 74 = some [.raw .nilFunc] := by kernel_rfl
theorem tsz_75 : tsz Tryz.prog 75 = some 1 := by kernel_rfl
theorem tag_75 : tag Tryz.prog 75 = some false := by kernel_rfl
theorem tcon_75 : tcon Tryz.prog 75 = true := by kernel_rfl
theorem tstr_75 : tstr Tryz.prog 75 = false := by kernel_rfl
theorem tbool_75 : tbool Tryz.prog 75 = false := by kernel_rfl
theorem tslc_75 : tslc Tryz.prog 75 = none := by kernel_rfl
theorem tarr_75 : tarr Tryz.prog 75 = none := by kernel_rfl
theorem tby_75 : tby Tryz.prog 75 = some 8 := by kernel_rfl
theorem tzr_75 : tzr Tryz.prog 75 = some [.raw .nilFunc] := by kernel_rfl
theorem tsz_76 : tsz Tryz.prog 76 = some 1 := by kernel_rfl
theorem tag_76 : tag Tryz.prog 76 = some false := by kernel_rfl
theorem tcon_76 : tcon Tryz.prog 76 = true := by kernel_rfl
theorem tstr_76 : tstr Tryz.prog 76 = false := by kernel_rfl
theorem tbool_76 : tbool Tryz.prog 76 = false := by kernel_rfl
theorem tslc_76 : tslc Tryz.prog 76 = some 24 := by kernel_rfl
theorem tarr_76 : tarr Tryz.prog 76 = none := by kernel_rfl
theorem tby_76 : tby Tryz.prog 76 = some 24 := by kernel_rfl
theorem tzr_76 : tzr Tryz.prog 76 = some [.clip []] := by kernel_rfl
theorem tsz_77 : tsz Tryz.prog 77 = some 1 := by kernel_rfl
theorem tag_77 : tag Tryz.prog 77 = some false := by kernel_rfl
theorem tcon_77 : tcon Tryz.prog 77 = true := by kernel_rfl
theorem tstr_77 : tstr Tryz.prog 77 = false := by kernel_rfl
theorem tbool_77 : tbool Tryz.prog 77 = false := by kernel_rfl
theorem tslc_77 : tslc Tryz.prog 77 = none := by kernel_rfl
theorem tarr_77 : tarr Tryz.prog 77 = none := by kernel_rfl
theorem tby_77 : tby Tryz.prog 77 = some 8 := by kernel_rfl
theorem tzr_77 : tzr Tryz.prog 77 = some [.raw .nilFunc] := by kernel_rfl
theorem tsz_78 : tsz Tryz.prog 78 = some 1 := by kernel_rfl
theorem tag_78 : tag Tryz.prog 78 = some false := by kernel_rfl
theorem tcon_78 : tcon Tryz.prog 78 = true := by kernel_rfl
theorem tstr_78 : tstr Tryz.prog 78 = false := by kernel_rfl
theorem tbool_78 : tbool Tryz.prog 78 = false := by kernel_rfl
theorem tslc_78 : tslc Tryz.prog 78 = none := by kernel_rfl
theorem tarr_78 : tarr Tryz.prog 78 = none := by kernel_rfl
theorem tby_78 : tby Tryz.prog 78 = some 8 := by kernel_rfl
theorem tzr_78 : tzr Tryz.prog 78 = some [.raw .nilFunc] := by kernel_rfl
theorem tsz_79 : tsz Tryz.prog 79 = some 1 := by kernel_rfl
theorem tag_79 : tag Tryz.prog 79 = some false := by kernel_rfl
theorem tcon_79 : tcon Tryz.prog 79 = true := by kernel_rfl
theorem tstr_79 : tstr Tryz.prog 79 = false := by kernel_rfl
theorem tbool_79 : tbool Tryz.prog 79 = false := by kernel_rfl
theorem tslc_79 : tslc Tryz.prog 79 = none := by kernel_rfl
theorem tarr_79 : tarr Tryz.prog 79 = none := by kernel_rfl
theorem tby_79 : tby Tryz.prog 79 = some 8 := by kernel_rfl
theorem tzr_79 : tzr Tryz.prog 79 = some [.raw .nilFunc] := by kernel_rfl
theorem tsz_80 : tsz Tryz.prog 80 = some 1 := by kernel_rfl
theorem tag_80 : tag Tryz.prog 80 = some false := by kernel_rfl
theorem tcon_80 : tcon Tryz.prog 80 = true := by kernel_rfl
theorem tstr_80 : tstr Tryz.prog 80 = false := by kernel_rfl
theorem tbool_80 : tbool Tryz.prog 80 = false := by kernel_rfl
theorem tslc_80 : tslc Tryz.prog 80 = none := by kernel_rfl
theorem tarr_80 : tarr Tryz.prog 80 = none := by kernel_rfl
theorem tby_80 : tby Tryz.prog 80 = some 8 := by kernel_rfl
theorem tzr_80 : tzr Tryz.prog 80 = some [.raw .nilFunc] := by kernel_rfl
theorem tsz_81 : tsz Tryz.prog 81 = some 1 := by kernel_rfl
theorem tag_81 : tag Tryz.prog 81 = some false := by kernel_rfl
theorem tcon_81 : tcon Tryz.prog 81 = true := by kernel_rfl
theorem tstr_81 : tstr Tryz.prog 81 = false := by kernel_rfl
theorem tbool_81 : tbool Tryz.prog 81 = false := by kernel_rfl
theorem tslc_81 : tslc Tryz.prog 81 = none := by kernel_rfl
theorem tarr_81 : tarr Tryz.prog 81 = none := by kernel_rfl
theorem tby_81 : tby Tryz.prog 81 = some 8 := by kernel_rfl
theorem tzr_81 : tzr Tryz.prog 81 = some [.raw .nilFunc] := by kernel_rfl
theorem tsz_82 : tsz Tryz.prog 82 = some 1 := by kernel_rfl
theorem tag_82 : tag Tryz.prog 82 = some false := by kernel_rfl
theorem tcon_82 : tcon Tryz.prog 82 = true := by kernel_rfl
theorem tstr_82 : tstr Tryz.prog 82 = false := by kernel_rfl
theorem tbool_82 : tbool Tryz.prog 82 = false := by kernel_rfl
theorem tslc_82 : tslc Tryz.prog 82 = none := by kernel_rfl
theorem tarr_82 : tarr Tryz.prog 82 = none := by kernel_rfl
theorem tby_82 : tby Tryz.prog 82 = some 8 := by kernel_rfl
theorem tzr_82 : tzr Tryz.prog 82 = some [.raw .nilFunc] := by kernel_rfl
theorem tsz_83 : tsz Tryz.prog 83 = some 2 := by kernel_rfl
theorem tag_83 : tag Tryz.prog 83 = some true := by kernel_rfl
theorem tcon_83 : tcon Tryz.prog 83 = true := by kernel_rfl
theorem tstr_83 : tstr Tryz.prog 83 = false := by kernel_rfl
theorem tbool_83 : tbool Tryz.prog 83 = false := by kernel_rfl
theorem tslc_83 : tslc Tryz.prog 83 = none := by kernel_rfl
theorem tarr_83 : tarr Tryz.prog 83 = none := by kernel_rfl
theorem tby_83 : tby Tryz.prog 83 = some 32 := by kernel_rfl
theorem tzr_83 : tzr Tryz.prog 83 = some [.clip [], .d (.int .i64 0)] := by kernel_rfl
theorem tfld_83_0 : tfld Tryz.prog 83 0 = some (0, 1, 24) := by kernel_rfl
theorem place_83_0 : place Tryz.prog 83 0 = some (0, 1) := by kernel_rfl
theorem tfld_83_1 : tfld Tryz.prog 83 1 = some (1, 1, 3) := by kernel_rfl
theorem place_83_1 : place Tryz.prog 83 1 = some (1, 1) := by kernel_rfl
theorem tbld_83 : tbld Tryz.prog 83 = true := by kernel_rfl
theorem tsz_84 : tsz Tryz.prog 84 = some 2 := by kernel_rfl
theorem tag_84 : tag Tryz.prog 84 = some true := by kernel_rfl
theorem tcon_84 : tcon Tryz.prog 84 = true := by kernel_rfl
theorem tstr_84 : tstr Tryz.prog 84 = false := by kernel_rfl
theorem tbool_84 : tbool Tryz.prog 84 = false := by kernel_rfl
theorem tslc_84 : tslc Tryz.prog 84 = none := by kernel_rfl
theorem tarr_84 : tarr Tryz.prog 84 = none := by kernel_rfl
theorem tby_84 : tby Tryz.prog 84 = some 32 := by kernel_rfl
theorem tzr_84 : tzr Tryz.prog 84 = some [.clip [], .d (.int .i64 0)] := by kernel_rfl
theorem tfld_84_0 : tfld Tryz.prog 84 0 = some (0, 1, 24) := by kernel_rfl
theorem place_84_0 : place Tryz.prog 84 0 = some (0, 1) := by kernel_rfl
theorem tfld_84_1 : tfld Tryz.prog 84 1 = some (1, 1, 3) := by kernel_rfl
theorem place_84_1 : place Tryz.prog 84 1 = some (1, 1) := by kernel_rfl
theorem tbld_84 : tbld Tryz.prog 84 = true := by kernel_rfl
theorem tsz_85 : tsz Tryz.prog 85 = some 1 := by kernel_rfl
theorem tag_85 : tag Tryz.prog 85 = some false := by kernel_rfl
theorem tcon_85 : tcon Tryz.prog 85 = true := by kernel_rfl
theorem tstr_85 : tstr Tryz.prog 85 = false := by kernel_rfl
theorem tbool_85 : tbool Tryz.prog 85 = false := by kernel_rfl
theorem tslc_85 : tslc Tryz.prog 85 = none := by kernel_rfl
theorem tarr_85 : tarr Tryz.prog 85 = none := by kernel_rfl
theorem tby_85 : tby Tryz.prog 85 = some 8 := by kernel_rfl
theorem tzr_85 : tzr Tryz.prog 85 = some [.raw .nilFunc] := by kernel_rfl
theorem tsz_86 : tsz Tryz.prog 86 = some 1 := by kernel_rfl
theorem tag_86 : tag Tryz.prog 86 = some false := by kernel_rfl
theorem tcon_86 : tcon Tryz.prog 86 = true := by kernel_rfl
theorem tstr_86 : tstr Tryz.prog 86 = false := by kernel_rfl
theorem tbool_86 : tbool Tryz.prog 86 = false := by kernel_rfl
theorem tslc_86 : tslc Tryz.prog 86 = none := by kernel_rfl
theorem tarr_86 : tarr Tryz.prog 86 = none := by kernel_rfl
theorem tby_86 : tby Tryz.prog 86 = some 8 := by kernel_rfl
theorem tzr_86 : tzr Tryz.prog 86 = some [.raw .nilFunc] := by kernel_rfl
theorem tsz_87 : tsz Tryz.prog 87 = some 1 := by kernel_rfl
theorem tag_87 : tag Tryz.prog 87 = some false := by kernel_rfl
theorem tcon_87 : tcon Tryz.prog 87 = true := by kernel_rfl
theorem tstr_87 : tstr Tryz.prog 87 = false := by kernel_rfl
theorem tbool_87 : tbool Tryz.prog 87 = false := by kernel_rfl
theorem tslc_87 : tslc Tryz.prog 87 = none := by kernel_rfl
theorem tarr_87 : tarr Tryz.prog 87 = none := by kernel_rfl
theorem tby_87 : tby Tryz.prog 87 = some 8 := by kernel_rfl
theorem tzr_87 : tzr Tryz.prog 87 = some [.raw .nilFunc] := by kernel_rfl
theorem tsz_88 : tsz Tryz.prog 88 = some 1 := by kernel_rfl
theorem tag_88 : tag Tryz.prog 88 = some false := by kernel_rfl
theorem tcon_88 : tcon Tryz.prog 88 = true := by kernel_rfl
theorem tstr_88 : tstr Tryz.prog 88 = false := by kernel_rfl
theorem tbool_88 : tbool Tryz.prog 88 = false := by kernel_rfl
theorem tslc_88 : tslc Tryz.prog 88 = none := by kernel_rfl
theorem tarr_88 : tarr Tryz.prog 88 = none := by kernel_rfl
theorem tby_88 : tby Tryz.prog 88 = some 8 := by kernel_rfl
theorem tzr_88 : tzr Tryz.prog 88 = some [.raw .nilFunc] := by kernel_rfl
theorem tsz_89 : tsz Tryz.prog 89 = some 1 := by kernel_rfl
theorem tag_89 : tag Tryz.prog 89 = some false := by kernel_rfl
theorem tcon_89 : tcon Tryz.prog 89 = true := by kernel_rfl
theorem tstr_89 : tstr Tryz.prog 89 = false := by kernel_rfl
theorem tbool_89 : tbool Tryz.prog 89 = false := by kernel_rfl
theorem tslc_89 : tslc Tryz.prog 89 = none := by kernel_rfl
theorem tarr_89 : tarr Tryz.prog 89 = none := by kernel_rfl
theorem tby_89 : tby Tryz.prog 89 = some 8 := by kernel_rfl
theorem tzr_89 : tzr Tryz.prog 89 = some [.raw .nilFunc] := by kernel_rfl
theorem tsz_90 : tsz Tryz.prog 90 = some 1 := by kernel_rfl
theorem tag_90 : tag Tryz.prog 90 = some false := by kernel_rfl
theorem tcon_90 : tcon Tryz.prog 90 = true := by kernel_rfl
theorem tstr_90 : tstr Tryz.prog 90 = false := by kernel_rfl
theorem tbool_90 : tbool Tryz.prog 90 = false := by kernel_rfl
theorem tslc_90 : tslc Tryz.prog 90 = none := by kernel_rfl
theorem tarr_90 : tarr Tryz.prog 90 = none := by kernel_rfl
theorem tby_90 : tby Tryz.prog 90 = some 8 := by kernel_rfl
theorem tzr_90 : tzr Tryz.prog 90 = some [.raw .nilFunc] := by kernel_rfl
theorem tsz_91 : tsz Tryz.prog 91 = some 1 := by kernel_rfl
theorem tag_91 : tag Tryz.prog 91 = some false := by kernel_rfl
theorem tcon_91 : tcon Tryz.prog 91 = true := by kernel_rfl
theorem tstr_91 : tstr Tryz.prog 91 = false := by kernel_rfl
theorem tbool_91 : tbool Tryz.prog 91 = false := by kernel_rfl
theorem tslc_91 : tslc Tryz.prog 91 = none := by kernel_rfl
theorem tarr_91 : tarr Tryz.prog 91 = none := by kernel_rfl
theorem tby_91 : tby Tryz.prog 91 = some 8 := by kernel_rfl
theorem tzr_91 : tzr Tryz.prog 91 = some [.raw .nilFunc] := by kernel_rfl
theorem tsz_92 : tsz Tryz.prog 92 = some 7 := by kernel_rfl
theorem tag_92 : tag Tryz.prog 92 = some true := by kernel_rfl
theorem tcon_92 : tcon Tryz.prog 92 = true := by kernel_rfl
theorem tstr_92 : tstr Tryz.prog 92 = false := by kernel_rfl
theorem tbool_92 : tbool Tryz.prog 92 = false := by kernel_rfl
theorem tslc_92 : tslc Tryz.prog 92 = none := by kernel_rfl
theorem tarr_92 : tarr Tryz.prog 92 = some (7, 90) := by kernel_rfl
theorem tby_92 : tby Tryz.prog 92 = some 56 := by kernel_rfl
theorem tzr_92 : tzr Tryz.prog 92 = some [.raw .nilFunc, .raw .nilFunc, .raw .nilFunc, .raw .nilFunc, .raw .nilFunc, .raw .nilFunc, .raw .nilFunc] := by kernel_rfl
theorem place_92_0 : place Tryz.prog 92 0 = some (0, 1) := by kernel_rfl
theorem place_92_1 : place Tryz.prog 92 1 = some (1, 1) := by kernel_rfl
theorem place_92_2 : place Tryz.prog 92 2 = some (2, 1) := by kernel_rfl
theorem place_92_3 : place Tryz.prog 92 3 = some (3, 1) := by kernel_rfl
theorem place_92_4 : place Tryz.prog 92 4 = some (4, 1) := by kernel_rfl
theorem place_92_5 : place Tryz.prog 92 5 = some (5, 1) := by kernel_rfl
theorem place_92_6 : place Tryz.prog 92 6 = some (6, 1) := by kernel_rfl
theorem tbld_92 : tbld Tryz.prog 92 = true := by kernel_rfl
theorem tsz_93 : tsz Tryz.prog 93 = some 1 := by kernel_rfl
theorem tag_93 : tag Tryz.prog 93 = some false := by kernel_rfl
theorem tcon_93 : tcon Tryz.prog 93 = true := by kernel_rfl
theorem tstr_93 : tstr Tryz.prog 93 = false := by kernel_rfl
theorem tbool_93 : tbool Tryz.prog 93 = false := by kernel_rfl
theorem tslc_93 : tslc Tryz.prog 93 = none := by kernel_rfl
theorem tarr_93 : tarr Tryz.prog 93 = none := by kernel_rfl
theorem tby_93 : tby Tryz.prog 93 = some 8 := by kernel_rfl
theorem tzr_93 : tzr Tryz.prog 93 = some [.raw .nilFunc] := by kernel_rfl
theorem tsz_94 : tsz Tryz.prog 94 = some 1 := by kernel_rfl
theorem tag_94 : tag Tryz.prog 94 = some false := by kernel_rfl
theorem tcon_94 : tcon Tryz.prog 94 = true := by kernel_rfl
theorem tstr_94 : tstr Tryz.prog 94 = false := by kernel_rfl
theorem tbool_94 : tbool Tryz.prog 94 = false := by kernel_rfl
theorem tslc_94 : tslc Tryz.prog 94 = none := by kernel_rfl
theorem tarr_94 : tarr Tryz.prog 94 = none := by kernel_rfl
theorem tby_94 : tby Tryz.prog 94 = some 8 := by kernel_rfl
theorem tzr_94 : tzr Tryz.prog 94 = some [.raw .nilFunc] := by kernel_rfl
theorem tsz_95 : tsz Tryz.prog 95 = some 1 := by kernel_rfl
theorem tag_95 : tag Tryz.prog 95 = some false := by kernel_rfl
theorem tcon_95 : tcon Tryz.prog 95 = true := by kernel_rfl
theorem tstr_95 : tstr Tryz.prog 95 = false := by kernel_rfl
theorem tbool_95 : tbool Tryz.prog 95 = false := by kernel_rfl
theorem tslc_95 : tslc Tryz.prog 95 = none := by kernel_rfl
theorem tarr_95 : tarr Tryz.prog 95 = none := by kernel_rfl
theorem tby_95 : tby Tryz.prog 95 = some 8 := by kernel_rfl
theorem tzr_95 : tzr Tryz.prog 95 = some [.raw (.pointer none)] := by kernel_rfl
theorem tsz_96 : tsz Tryz.prog 96 = some 2 := by kernel_rfl
theorem tag_96 : tag Tryz.prog 96 = some true := by kernel_rfl
theorem tcon_96 : tcon Tryz.prog 96 = true := by kernel_rfl
theorem tstr_96 : tstr Tryz.prog 96 = false := by kernel_rfl
theorem tbool_96 : tbool Tryz.prog 96 = false := by kernel_rfl
theorem tslc_96 : tslc Tryz.prog 96 = none := by kernel_rfl
theorem tarr_96 : tarr Tryz.prog 96 = none := by kernel_rfl
theorem tby_96 : tby Tryz.prog 96 = some 48 := by kernel_rfl
theorem tzr_96 : tzr Tryz.prog 96 = some [.clip [], .clip []] := by kernel_rfl
theorem tfld_96_0 : tfld Tryz.prog 96 0 = some (0, 1, 22) := by kernel_rfl
theorem place_96_0 : place Tryz.prog 96 0 = some (0, 1) := by kernel_rfl
theorem tfld_96_1 : tfld Tryz.prog 96 1 = some (1, 1, 23) := by kernel_rfl
theorem place_96_1 : place Tryz.prog 96 1 = some (1, 1) := by kernel_rfl
theorem tbld_96 : tbld Tryz.prog 96 = true := by kernel_rfl
theorem tsz_97 : tsz Tryz.prog 97 = some 2 := by kernel_rfl
theorem tag_97 : tag Tryz.prog 97 = some true := by kernel_rfl
theorem tcon_97 : tcon Tryz.prog 97 = true := by kernel_rfl
theorem tstr_97 : tstr Tryz.prog 97 = false := by kernel_rfl
theorem tbool_97 : tbool Tryz.prog 97 = false := by kernel_rfl
theorem tslc_97 : tslc Tryz.prog 97 = none := by kernel_rfl
theorem tarr_97 : tarr Tryz.prog 97 = none := by kernel_rfl
theorem tby_97 : tby Tryz.prog 97 = some 48 := by kernel_rfl
theorem tzr_97 : tzr Tryz.prog 97 = some [.clip [], .clip []] := by kernel_rfl
theorem tfld_97_0 : tfld Tryz.prog 97 0 = some (0, 1, 22) := by kernel_rfl
theorem place_97_0 : place Tryz.prog 97 0 = some (0, 1) := by kernel_rfl
theorem tfld_97_1 : tfld Tryz.prog 97 1 = some (1, 1, 23) := by kernel_rfl
theorem place_97_1 : place Tryz.prog 97 1 = some (1, 1) := by kernel_rfl
theorem tbld_97 : tbld Tryz.prog 97 = true := by kernel_rfl
theorem tsz_98 : tsz Tryz.prog 98 = some 1 := by kernel_rfl
theorem tag_98 : tag Tryz.prog 98 = some false := by kernel_rfl
theorem tcon_98 : tcon Tryz.prog 98 = true := by kernel_rfl
theorem tstr_98 : tstr Tryz.prog 98 = false := by kernel_rfl
theorem tbool_98 : tbool Tryz.prog 98 = false := by kernel_rfl
theorem tslc_98 : tslc Tryz.prog 98 = none := by kernel_rfl
theorem tarr_98 : tarr Tryz.prog 98 = none := by kernel_rfl
theorem tby_98 : tby Tryz.prog 98 = some 8 := by kernel_rfl
theorem tzr_98 : tzr Tryz.prog 98 = some [.raw .nilFunc] := by kernel_rfl
theorem tsz_99 : tsz Tryz.prog 99 = some 1 := by kernel_rfl
theorem tag_99 : tag Tryz.prog 99 = some false := by kernel_rfl
theorem tcon_99 : tcon Tryz.prog 99 = true := by kernel_rfl
theorem tstr_99 : tstr Tryz.prog 99 = false := by kernel_rfl
theorem tbool_99 : tbool Tryz.prog 99 = false := by kernel_rfl
theorem tslc_99 : tslc Tryz.prog 99 = none := by kernel_rfl
theorem tarr_99 : tarr Tryz.prog 99 = none := by kernel_rfl
theorem tby_99 : tby Tryz.prog 99 = some 8 := by kernel_rfl
theorem tzr_99 : tzr Tryz.prog 99 = some [.raw .nilFunc] := by kernel_rfl
theorem tsz_100 : tsz Tryz.prog 100 = some 1 := by kernel_rfl
theorem tag_100 : tag Tryz.prog 100 = some false := by kernel_rfl
theorem tcon_100 : tcon Tryz.prog 100 = true := by kernel_rfl
theorem tstr_100 : tstr Tryz.prog 100 = false := by kernel_rfl
theorem tbool_100 : tbool Tryz.prog 100 = false := by kernel_rfl
theorem tslc_100 : tslc Tryz.prog 100 = none := by kernel_rfl
theorem tarr_100 : tarr Tryz.prog 100 = none := by kernel_rfl
theorem tby_100 : tby Tryz.prog 100 = some 8 := by kernel_rfl
theorem tzr_100 : tzr Tryz.prog 100 = some [.raw .nilFunc] := by kernel_rfl
theorem tsz_101 : tsz Tryz.prog 101 = some 1 := by kernel_rfl
theorem tag_101 : tag Tryz.prog 101 = some false := by kernel_rfl
theorem tcon_101 : tcon Tryz.prog 101 = true := by kernel_rfl
theorem tstr_101 : tstr Tryz.prog 101 = false := by kernel_rfl
theorem tbool_101 : tbool Tryz.prog 101 = false := by kernel_rfl
theorem tslc_101 : tslc Tryz.prog 101 = none := by kernel_rfl
theorem tarr_101 : tarr Tryz.prog 101 = none := by kernel_rfl
theorem tby_101 : tby Tryz.prog 101 = some 8 := by kernel_rfl
theorem tzr_101 : tzr Tryz.prog 101 = some [.raw .nilFunc] := by kernel_rfl
theorem tsz_102 : tsz Tryz.prog 102 = some 1 := by kernel_rfl
theorem tag_102 : tag Tryz.prog 102 = some false := by kernel_rfl
theorem tcon_102 : tcon Tryz.prog 102 = true := by kernel_rfl
theorem tstr_102 : tstr Tryz.prog 102 = false := by kernel_rfl
theorem tbool_102 : tbool Tryz.prog 102 = false := by kernel_rfl
theorem tslc_102 : tslc Tryz.prog 102 = none := by kernel_rfl
theorem tarr_102 : tarr Tryz.prog 102 = none := by kernel_rfl
theorem tby_102 : tby Tryz.prog 102 = some 8 := by kernel_rfl
theorem tzr_102 : tzr Tryz.prog 102 = some [.raw .nilFunc] := by kernel_rfl
theorem tsz_103 : tsz Tryz.prog 103 = some 1 := by kernel_rfl
theorem tag_103 : tag Tryz.prog 103 = some false := by kernel_rfl
theorem tcon_103 : tcon Tryz.prog 103 = true := by kernel_rfl
theorem tstr_103 : tstr Tryz.prog 103 = false := by kernel_rfl
theorem tbool_103 : tbool Tryz.prog 103 = false := by kernel_rfl
theorem tslc_103 : tslc Tryz.prog 103 = none := by kernel_rfl
theorem tarr_103 : tarr Tryz.prog 103 = none := by kernel_rfl
theorem tby_103 : tby Tryz.prog 103 = some 8 := by kernel_rfl
theorem tzr_103 : tzr Tryz.prog 103 = some [.raw .nilFunc] := by kernel_rfl
theorem tsz_104 : tsz Tryz.prog 104 = some 1 := by kernel_rfl
theorem tag_104 : tag Tryz.prog 104 = some false := by kernel_rfl
theorem tcon_104 : tcon Tryz.prog 104 = true := by kernel_rfl
theorem tstr_104 : tstr Tryz.prog 104 = false := by kernel_rfl
theorem tbool_104 : tbool Tryz.prog 104 = false := by kernel_rfl
theorem tslc_104 : tslc Tryz.prog 104 = none := by kernel_rfl
theorem tarr_104 : tarr Tryz.prog 104 = none := by kernel_rfl
theorem tby_104 : tby Tryz.prog 104 = some 8 := by kernel_rfl
theorem tzr_104 : tzr Tryz.prog 104 = some [.raw .nilFunc] := by kernel_rfl
theorem tsz_105 : tsz Tryz.prog 105 = some 1 := by kernel_rfl
theorem tag_105 : tag Tryz.prog 105 = some false := by kernel_rfl
theorem tcon_105 : tcon Tryz.prog 105 = true := by kernel_rfl
theorem tstr_105 : tstr Tryz.prog 105 = false := by kernel_rfl
theorem tbool_105 : tbool Tryz.prog 105 = false := by kernel_rfl
theorem tslc_105 : tslc Tryz.prog 105 = none := by kernel_rfl
theorem tarr_105 : tarr Tryz.prog 105 = none := by kernel_rfl
theorem tby_105 : tby Tryz.prog 105 = some 8 := by kernel_rfl
theorem tzr_105 : tzr Tryz.prog 105 = some [.raw .nilFunc] := by kernel_rfl
theorem tsz_106 : tsz Tryz.prog 106 = some 1 := by kernel_rfl
theorem tag_106 : tag Tryz.prog 106 = some false := by kernel_rfl
theorem tcon_106 : tcon Tryz.prog 106 = true := by kernel_rfl
theorem tstr_106 : tstr Tryz.prog 106 = false := by kernel_rfl
theorem tbool_106 : tbool Tryz.prog 106 = false := by kernel_rfl
theorem tslc_106 : tslc Tryz.prog 106 = none := by kernel_rfl
theorem tarr_106 : tarr Tryz.prog 106 = none := by kernel_rfl
theorem tby_106 : tby Tryz.prog 106 = some 8 := by kernel_rfl
theorem tzr_106 : tzr Tryz.prog 106 = some [.raw .nilFunc] := by kernel_rfl
theorem tsz_107 : tsz Tryz.prog 107 = some 1 := by kernel_rfl
theorem tag_107 : tag Tryz.prog 107 = some false := by kernel_rfl
theorem tcon_107 : tcon Tryz.prog 107 = true := by kernel_rfl
theorem tstr_107 : tstr Tryz.prog 107 = false := by kernel_rfl
theorem tbool_107 : tbool Tryz.prog 107 = false := by kernel_rfl
theorem tslc_107 : tslc Tryz.prog 107 = none := by kernel_rfl
theorem tarr_107 : tarr Tryz.prog 107 = none := by kernel_rfl
theorem tby_107 : tby Tryz.prog 107 = some 8 := by kernel_rfl
theorem tzr_107 : tzr Tryz.prog 107 = some [.raw .nilFunc] := by kernel_rfl
theorem tsz_108 : tsz Tryz.prog 108 = some 1 := by kernel_rfl
theorem tag_108 : tag Tryz.prog 108 = some false := by kernel_rfl
theorem tcon_108 : tcon Tryz.prog 108 = true := by kernel_rfl
theorem tstr_108 : tstr Tryz.prog 108 = false := by kernel_rfl
theorem tbool_108 : tbool Tryz.prog 108 = false := by kernel_rfl
theorem tslc_108 : tslc Tryz.prog 108 = none := by kernel_rfl
theorem tarr_108 : tarr Tryz.prog 108 = none := by kernel_rfl
theorem tby_108 : tby Tryz.prog 108 = some 8 := by kernel_rfl
theorem tzr_108 : tzr Tryz.prog 108 = some [.raw (.pointer none)] := by kernel_rfl
theorem tsz_109 : tsz Tryz.prog 109 = some 1 := by kernel_rfl
theorem tag_109 : tag Tryz.prog 109 = some false := by kernel_rfl
theorem tcon_109 : tcon Tryz.prog 109 = true := by kernel_rfl
theorem tstr_109 : tstr Tryz.prog 109 = false := by kernel_rfl
theorem tbool_109 : tbool Tryz.prog 109 = false := by kernel_rfl
theorem tslc_109 : tslc Tryz.prog 109 = none := by kernel_rfl
theorem tarr_109 : tarr Tryz.prog 109 = none := by kernel_rfl
theorem tby_109 : tby Tryz.prog 109 = some 8 := by kernel_rfl
theorem tzr_109 : tzr Tryz.prog 109 = some [.raw .nilFunc] := by kernel_rfl
theorem tsz_110 : tsz Tryz.prog 110 = some 1 := by kernel_rfl
theorem tag_110 : tag Tryz.prog 110 = some false := by kernel_rfl
theorem tcon_110 : tcon Tryz.prog 110 = true := by kernel_rfl
theorem tstr_110 : tstr Tryz.prog 110 = false := by kernel_rfl
theorem tbool_110 : tbool Tryz.prog 110 = false := by kernel_rfl
theorem tslc_110 : tslc Tryz.prog 110 = none := by kernel_rfl
theorem tarr_110 : tarr Tryz.prog 110 = none := by kernel_rfl
theorem tby_110 : tby Tryz.prog 110 = some 8 := by kernel_rfl
theorem tzr_110 : tzr Tryz.prog 110 = some [.raw .nilFunc] := by kernel_rfl
theorem tsz_111 : tsz Tryz.prog 111 = some 1 := by kernel_rfl
theorem tag_111 : tag Tryz.prog 111 = some false := by kernel_rfl
theorem tcon_111 : tcon Tryz.prog 111 = true := by kernel_rfl
theorem tstr_111 : tstr Tryz.prog 111 = false := by kernel_rfl
theorem tbool_111 : tbool Tryz.prog 111 = false := by kernel_rfl
theorem tslc_111 : tslc Tryz.prog 111 = none := by kernel_rfl
theorem tarr_111 : tarr Tryz.prog 111 = none := by kernel_rfl
theorem tby_111 : tby Tryz.prog 111 = some 8 := by kernel_rfl
theorem tzr_111 : tzr Tryz.prog 111 = some [.raw .nilFunc] := by kernel_rfl
theorem tsz_112 : tsz Tryz.prog 112 = some 1 := by kernel_rfl
theorem tag_112 : tag Tryz.prog 112 = some false := by kernel_rfl
theorem tcon_112 : tcon Tryz.prog 112 = true := by kernel_rfl
theorem tstr_112 : tstr Tryz.prog 112 = false := by kernel_rfl
theorem tbool_112 : tbool Tryz.prog 112 = false := by kernel_rfl
theorem tslc_112 : tslc Tryz.prog 112 = none := by kernel_rfl
theorem tarr_112 : tarr Tryz.prog 112 = none := by kernel_rfl
theorem tby_112 : tby Tryz.prog 112 = some 8 := by kernel_rfl
theorem tzr_112 : tzr Tryz.prog 112 = some [.raw .nilFunc] := by kernel_rfl
theorem tsz_113 : tsz Tryz.prog 113 = some 1 := by kernel_rfl
theorem tag_113 : tag Tryz.prog 113 = some false := by kernel_rfl
theorem tcon_113 : tcon Tryz.prog 113 = true := by kernel_rfl
theorem tstr_113 : tstr Tryz.prog 113 = false := by kernel_rfl
theorem tbool_113 : tbool Tryz.prog 113 = false := by kernel_rfl
theorem tslc_113 : tslc Tryz.prog 113 = none := by kernel_rfl
theorem tarr_113 : tarr Tryz.prog 113 = none := by kernel_rfl
theorem tby_113 : tby Tryz.prog 113 = some 8 := by kernel_rfl
theorem tzr_113 : tzr Tryz.prog 113 = some [.raw .nilFunc] := by kernel_rfl
theorem tsz_114 : tsz Tryz.prog 114 = some 1 := by kernel_rfl
theorem tag_114 : tag Tryz.prog 114 = some false := by kernel_rfl
theorem tcon_114 : tcon Tryz.prog 114 = true := by kernel_rfl
theorem tstr_114 : tstr Tryz.prog 114 = false := by kernel_rfl
theorem tbool_114 : tbool Tryz.prog 114 = false := by kernel_rfl
theorem tslc_114 : tslc Tryz.prog 114 = none := by kernel_rfl
theorem tarr_114 : tarr Tryz.prog 114 = none := by kernel_rfl
theorem tby_114 : tby Tryz.prog 114 = some 8 := by kernel_rfl
theorem tzr_114 : tzr Tryz.prog 114 = some [.raw .nilFunc] := by kernel_rfl
theorem tsz_115 : tsz Tryz.prog 115 = some 1 := by kernel_rfl
theorem tag_115 : tag Tryz.prog 115 = some false := by kernel_rfl
theorem tcon_115 : tcon Tryz.prog 115 = true := by kernel_rfl
theorem tstr_115 : tstr Tryz.prog 115 = false := by kernel_rfl
theorem tbool_115 : tbool Tryz.prog 115 = false := by kernel_rfl
theorem tslc_115 : tslc Tryz.prog 115 = none := by kernel_rfl
theorem tarr_115 : tarr Tryz.prog 115 = none := by kernel_rfl
theorem tby_115 : tby Tryz.prog 115 = some 8 := by kernel_rfl
theorem tzr_115 : tzr Tryz.prog 115 = some [.raw .nilFunc] := by kernel_rfl
theorem tsz_116 : tsz Tryz.prog 116 = some 1 := by kernel_rfl
theorem tag_116 : tag Tryz.prog 116 = some false := by kernel_rfl
theorem tcon_116 : tcon Tryz.prog 116 = true := by kernel_rfl
theorem tstr_116 : tstr Tryz.prog 116 = false := by kernel_rfl
theorem tbool_116 : tbool Tryz.prog 116 = false := by kernel_rfl
theorem tslc_116 : tslc Tryz.prog 116 = none := by kernel_rfl
theorem tarr_116 : tarr Tryz.prog 116 = none := by kernel_rfl
theorem tby_116 : tby Tryz.prog 116 = some 8 := by kernel_rfl
theorem tzr_116 : tzr Tryz.prog 116 = some [.raw .nilFunc] := by kernel_rfl
theorem tsz_117 : tsz Tryz.prog 117 = some 1 := by kernel_rfl
theorem tag_117 : tag Tryz.prog 117 = some false := by kernel_rfl
theorem tcon_117 : tcon Tryz.prog 117 = true := by kernel_rfl
theorem tstr_117 : tstr Tryz.prog 117 = false := by kernel_rfl
theorem tbool_117 : tbool Tryz.prog 117 = false := by kernel_rfl
theorem tslc_117 : tslc Tryz.prog 117 = none := by kernel_rfl
theorem tarr_117 : tarr Tryz.prog 117 = none := by kernel_rfl
theorem tby_117 : tby Tryz.prog 117 = some 8 := by kernel_rfl
theorem tzr_117 : tzr Tryz.prog 117 = some [.raw .nilFunc] := by kernel_rfl
theorem tsz_118 : tsz Tryz.prog 118 = some 1 := by kernel_rfl
theorem tag_118 : tag Tryz.prog 118 = some false := by kernel_rfl
theorem tcon_118 : tcon Tryz.prog 118 = true := by kernel_rfl
theorem tstr_118 : tstr Tryz.prog 118 = false := by kernel_rfl
theorem tbool_118 : tbool Tryz.prog 118 = false := by kernel_rfl
theorem tslc_118 : tslc Tryz.prog 118 = none := by kernel_rfl
theorem tarr_118 : tarr Tryz.prog 118 = none := by kernel_rfl
theorem tby_118 : tby Tryz.prog 118 = some 8 := by kernel_rfl
theorem tzr_118 : tzr Tryz.prog 118 = some [.raw .nilFunc] := by kernel_rfl
theorem tsz_119 : tsz Tryz.prog 119 = some 1 := by kernel_rfl
theorem tag_119 : tag Tryz.prog 119 = some false := by kernel_rfl
theorem tcon_119 : tcon Tryz.prog 119 = true := by kernel_rfl
theorem tstr_119 : tstr Tryz.prog 119 = false := by kernel_rfl
theorem tbool_119 : tbool Tryz.prog 119 = false := by kernel_rfl
theorem tslc_119 : tslc Tryz.prog 119 = none := by kernel_rfl
theorem tarr_119 : tarr Tryz.prog 119 = none := by kernel_rfl
theorem tby_119 : tby Tryz.prog 119 = some 8 := by kernel_rfl
theorem tzr_119 : tzr Tryz.prog 119 = some [.raw .nilFunc] := by kernel_rfl
theorem tsz_120 : tsz Tryz.prog 120 = some 1 := by kernel_rfl
theorem tag_120 : tag Tryz.prog 120 = some false := by kernel_rfl
theorem tcon_120 : tcon Tryz.prog 120 = true := by kernel_rfl
theorem tstr_120 : tstr Tryz.prog 120 = false := by kernel_rfl
theorem tbool_120 : tbool Tryz.prog 120 = false := by kernel_rfl
theorem tslc_120 : tslc Tryz.prog 120 = none := by kernel_rfl
theorem tarr_120 : tarr Tryz.prog 120 = none := by kernel_rfl
theorem tby_120 : tby Tryz.prog 120 = some 8 := by kernel_rfl
theorem tzr_120 : tzr Tryz.prog 120 = some [.raw .nilFunc] := by kernel_rfl
theorem tsz_121 : tsz Tryz.prog 121 = some 1 := by kernel_rfl
theorem tag_121 : tag Tryz.prog 121 = some false := by kernel_rfl
theorem tcon_121 : tcon Tryz.prog 121 = true := by kernel_rfl
theorem tstr_121 : tstr Tryz.prog 121 = false := by kernel_rfl
theorem tbool_121 : tbool Tryz.prog 121 = false := by kernel_rfl
theorem tslc_121 : tslc Tryz.prog 121 = none := by kernel_rfl
theorem tarr_121 : tarr Tryz.prog 121 = none := by kernel_rfl
theorem tby_121 : tby Tryz.prog 121 = some 8 := by kernel_rfl
theorem tzr_121 : tzr Tryz.prog 121 = some [.raw .nilFunc] := by kernel_rfl
theorem tsz_123 : tsz Tryz.prog 123 = some 1 := by kernel_rfl
theorem tag_123 : tag Tryz.prog 123 = some true := by kernel_rfl
theorem tcon_123 : tcon Tryz.prog 123 = true := by kernel_rfl
theorem tstr_123 : tstr Tryz.prog 123 = false := by kernel_rfl
theorem tbool_123 : tbool Tryz.prog 123 = false := by kernel_rfl
theorem tslc_123 : tslc Tryz.prog 123 = none := by kernel_rfl
theorem tarr_123 : tarr Tryz.prog 123 = none := by kernel_rfl
theorem tby_123 : tby Tryz.prog 123 = some 8 := by kernel_rfl
theorem tzr_123 : tzr Tryz.prog 123 = some [.d (.int .i64 0)] := by kernel_rfl
theorem tfld_123_0 : tfld Tryz.prog 123 0 = some (0, 1, 3) := by kernel_rfl
theorem place_123_0 : place Tryz.prog 123 0 = some (0, 1) := by kernel_rfl
theorem tbld_123 : tbld Tryz.prog 123 = true := by kernel_rfl
theorem tsz_124 : tsz Tryz.prog 124 = some 1 := by kernel_rfl
theorem tag_124 : tag Tryz.prog 124 = some true := by kernel_rfl
theorem tcon_124 : tcon Tryz.prog 124 = true := by kernel_rfl
theorem tstr_124 : tstr Tryz.prog 124 = false := by kernel_rfl
theorem tbool_124 : tbool Tryz.prog 124 = false := by kernel_rfl
theorem tslc_124 : tslc Tryz.prog 124 = none := by kernel_rfl
theorem tarr_124 : tarr Tryz.prog 124 = none := by kernel_rfl
theorem tby_124 : tby Tryz.prog 124 = some 8 := by kernel_rfl
theorem tzr_124 : tzr Tryz.prog 124 = some [.d (.int .i64 0)] := by kernel_rfl
theorem tfld_124_0 : tfld Tryz.prog 124 0 = some (0, 1, 3) := by kernel_rfl
theorem place_124_0 : place Tryz.prog 124 0 = some (0, 1) := by kernel_rfl
theorem tbld_124 : tbld Tryz.prog 124 = true := by kernel_rfl
theorem tsz_125 : tsz Tryz.prog 125 = some 1 := by kernel_rfl
theorem tag_125 : tag Tryz.prog 125 = some false := by kernel_rfl
theorem tcon_125 : tcon Tryz.prog 125 = true := by kernel_rfl
theorem tstr_125 : tstr Tryz.prog 125 = false := by kernel_rfl
theorem tbool_125 : tbool Tryz.prog 125 = false := by kernel_rfl
theorem tslc_125 : tslc Tryz.prog 125 = none := by kernel_rfl
theorem tarr_125 : tarr Tryz.prog 125 = none := by kernel_rfl
theorem tby_125 : tby Tryz.prog 125 = some 8 := by kernel_rfl
theorem tzr_125 : tzr Tryz.prog 125 = some [.raw .nilFunc] := by kernel_rfl
theorem tsz_126 : tsz Tryz.prog 126 = some 1 := by kernel_rfl
theorem tag_126 : tag Tryz.prog 126 = some false := by kernel_rfl
theorem tcon_126 : tcon Tryz.prog 126 = true := by kernel_rfl
theorem tstr_126 : tstr Tryz.prog 126 = false := by kernel_rfl
theorem tbool_126 : tbool Tryz.prog 126 = false := by kernel_rfl
theorem tslc_126 : tslc Tryz.prog 126 = none := by kernel_rfl
theorem tarr_126 : tarr Tryz.prog 126 = none := by kernel_rfl
theorem tby_126 : tby Tryz.prog 126 = some 8 := by kernel_rfl
theorem tzr_126 : tzr Tryz.prog 126 = some [.raw .nilFunc] := by kernel_rfl
theorem tsz_127 : tsz Tryz.prog 127 = some 1 := by kernel_rfl
theorem tag_127 : tag Tryz.prog 127 = some false := by kernel_rfl
theorem tcon_127 : tcon Tryz.prog 127 = true := by kernel_rfl
theorem tstr_127 : tstr Tryz.prog 127 = false := by kernel_rfl
theorem tbool_127 : tbool Tryz.prog 127 = false := by kernel_rfl
theorem tslc_127 : tslc Tryz.prog 127 = none := by kernel_rfl
theorem tarr_127 : tarr Tryz.prog 127 = none := by kernel_rfl
theorem tby_127 : tby Tryz.prog 127 = some 8 := by kernel_rfl
theorem tzr_127 : tzr Tryz.prog 127 = some [.raw .nilFunc] := by kernel_rfl
theorem tsz_128 : tsz Tryz.prog 128 = some 1 := by kernel_rfl
theorem tag_128 : tag Tryz.prog 128 = some false := by kernel_rfl
theorem tcon_128 : tcon Tryz.prog 128 = true := by kernel_rfl
theorem tstr_128 : tstr Tryz.prog 128 = false := by kernel_rfl
theorem tbool_128 : tbool Tryz.prog 128 = false := by kernel_rfl
theorem tslc_128 : tslc Tryz.prog 128 = none := by kernel_rfl
theorem tarr_128 : tarr Tryz.prog 128 = none := by kernel_rfl
theorem tby_128 : tby Tryz.prog 128 = some 8 := by kernel_rfl
theorem tzr_128 : tzr Tryz.prog 128 = some [.raw .nilFunc] := by kernel_rfl
theorem tsz_129 : tsz Tryz.prog 129 = some 1 := by kernel_rfl
theorem tag_129 : tag Tryz.prog 129 = some false := by kernel_rfl
theorem tcon_129 : tcon Tryz.prog 129 = true := by kernel_rfl
theorem tstr_129 : tstr Tryz.prog 129 = false := by kernel_rfl
theorem tbool_129 : tbool Tryz.prog 129 = false := by kernel_rfl
theorem tslc_129 : tslc Tryz.prog 129 = none := by kernel_rfl
theorem tarr_129 : tarr Tryz.prog 129 = none := by kernel_rfl
theorem tby_129 : tby Tryz.prog 129 = some 8 := by kernel_rfl
theorem tzr_129 : tzr Tryz.prog 129 = some [.raw .nilFunc] := by kernel_rfl
theorem tsz_131 : tsz Tryz.prog 131 = some 1 := by kernel_rfl
theorem tag_131 : tag Tryz.prog 131 = some false := by kernel_rfl
theorem tcon_131 : tcon Tryz.prog 131 = true := by kernel_rfl
theorem tstr_131 : tstr Tryz.prog 131 = false := by kernel_rfl
theorem tbool_131 : tbool Tryz.prog 131 = false := by kernel_rfl
theorem tslc_131 : tslc Tryz.prog 131 = none := by kernel_rfl
theorem tarr_131 : tarr Tryz.prog 131 = none := by kernel_rfl
theorem tby_131 : tby Tryz.prog 131 = some 8 := by kernel_rfl
theorem tzr_131 : tzr Tryz.prog 131 = some [.raw .nilFunc] := by kernel_rfl
theorem tsz_132 : tsz Tryz.prog 132 = some 1 := by kernel_rfl
theorem tag_132 : tag Tryz.prog 132 = some false := by kernel_rfl
theorem tcon_132 : tcon Tryz.prog 132 = true := by kernel_rfl
theorem tstr_132 : tstr Tryz.prog 132 = false := by kernel_rfl
theorem tbool_132 : tbool Tryz.prog 132 = false := by kernel_rfl
theorem tslc_132 : tslc Tryz.prog 132 = none := by kernel_rfl
theorem tarr_132 : tarr Tryz.prog 132 = none := by kernel_rfl
theorem tby_132 : tby Tryz.prog 132 = some 8 := by kernel_rfl
theorem tzr_132 : tzr Tryz.prog 132 = some [.raw .nilFunc] := by kernel_rfl
theorem tsz_133 : tsz Tryz.prog 133 = some 2 := by kernel_rfl
theorem tag_133 : tag Tryz.prog 133 = some true := by kernel_rfl
theorem tcon_133 : tcon Tryz.prog 133 = true := by kernel_rfl
theorem tstr_133 : tstr Tryz.prog 133 = false := by kernel_rfl
theorem tbool_133 : tbool Tryz.prog 133 = false := by kernel_rfl
theorem tslc_133 : tslc Tryz.prog 133 = none := by kernel_rfl
theorem tarr_133 : tarr Tryz.prog 133 = none := by kernel_rfl
theorem tby_133 : tby Tryz.prog 133 = some 16 := by kernel_rfl
theorem tzr_133 : tzr Tryz.prog 133 = some [.d (.int .i64 0), .d (.int .i64 0)] := by kernel_rfl
theorem tfld_133_0 : tfld Tryz.prog 133 0 = some (0, 1, 3) := by kernel_rfl
theorem place_133_0 : place Tryz.prog 133 0 = some (0, 1) := by kernel_rfl
theorem tfld_133_1 : tfld Tryz.prog 133 1 = some (1, 1, 3) := by kernel_rfl
theorem place_133_1 : place Tryz.prog 133 1 = some (1, 1) := by kernel_rfl
theorem tbld_133 : tbld Tryz.prog 133 = true := by kernel_rfl
theorem tsz_134 : tsz Tryz.prog 134 = some 2 := by kernel_rfl
theorem tag_134 : tag Tryz.prog 134 = some true := by kernel_rfl
theorem tcon_134 : tcon Tryz.prog 134 = true := by kernel_rfl
theorem tstr_134 : tstr Tryz.prog 134 = false := by kernel_rfl
theorem tbool_134 : tbool Tryz.prog 134 = false := by kernel_rfl
theorem tslc_134 : tslc Tryz.prog 134 = none := by kernel_rfl
theorem tarr_134 : tarr Tryz.prog 134 = none := by kernel_rfl
theorem tby_134 : tby Tryz.prog 134 = some 16 := by kernel_rfl
theorem tzr_134 : tzr Tryz.prog 134 = some [.d (.int .i64 0), .d (.int .i64 0)] := by kernel_rfl
theorem tfld_134_0 : tfld Tryz.prog 134 0 = some (0, 1, 3) := by kernel_rfl
theorem place_134_0 : place Tryz.prog 134 0 = some (0, 1) := by kernel_rfl
theorem tfld_134_1 : tfld Tryz.prog 134 1 = some (1, 1, 3) := by kernel_rfl
theorem place_134_1 : place Tryz.prog 134 1 = some (1, 1) := by kernel_rfl
theorem tbld_134 : tbld Tryz.prog 134 = true := by kernel_rfl
theorem tsz_135 : tsz Tryz.prog 135 = some 1 := by kernel_rfl
theorem tag_135 : tag Tryz.prog 135 = some false := by kernel_rfl
theorem tcon_135 : tcon Tryz.prog 135 = true := by kernel_rfl
theorem tstr_135 : tstr Tryz.prog 135 = false := by kernel_rfl
theorem tbool_135 : tbool Tryz.prog 135 = false := by kernel_rfl
theorem tslc_135 : tslc Tryz.prog 135 = none := by kernel_rfl
theorem tarr_135 : tarr Tryz.prog 135 = none := by kernel_rfl
theorem tby_135 : tby Tryz.prog 135 = some 8 := by kernel_rfl
theorem tzr_135 : tzr Tryz.prog 135 = some [.raw (.pointer none)] := by kernel_rfl
theorem tsz_136 : tsz Tryz.prog 136 = some 2 := by kernel_rfl
theorem tag_136 : tag Tryz.prog 136 = some true := by kernel_rfl
theorem tcon_136 : tcon Tryz.prog 136 = true := by kernel_rfl
theorem tstr_136 : tstr Tryz.prog 136 = false := by kernel_rfl
theorem tbool_136 : tbool Tryz.prog 136 = false := by kernel_rfl
theorem tslc_136 : tslc Tryz.prog 136 = none := by kernel_rfl
theorem tarr_136 : tarr Tryz.prog 136 = none := by kernel_rfl
theorem tby_136 : tby Tryz.prog 136 = some 16 := by kernel_rfl
theorem tzr_136 : tzr Tryz.prog 136 = some [.d (.int .i64 0), .d (.int .i64 0)] := by kernel_rfl
theorem tfld_136_0 : tfld Tryz.prog 136 0 = some (0, 1, 3) := by kernel_rfl
theorem place_136_0 : place Tryz.prog 136 0 = some (0, 1) := by kernel_rfl
theorem tfld_136_1 : tfld Tryz.prog 136 1 = some (1, 1, 33) := by kernel_rfl
theorem place_136_1 : place Tryz.prog 136 1 = some (1, 1) := by kernel_rfl
theorem tbld_136 : tbld Tryz.prog 136 = true := by kernel_rfl
theorem tsz_137 : tsz Tryz.prog 137 = some 2 := by kernel_rfl
theorem tag_137 : tag Tryz.prog 137 = some true := by kernel_rfl
theorem tcon_137 : tcon Tryz.prog 137 = true := by kernel_rfl
theorem tstr_137 : tstr Tryz.prog 137 = false := by kernel_rfl
theorem tbool_137 : tbool Tryz.prog 137 = false := by kernel_rfl
theorem tslc_137 : tslc Tryz.prog 137 = none := by kernel_rfl
theorem tarr_137 : tarr Tryz.prog 137 = none := by kernel_rfl
theorem tby_137 : tby Tryz.prog 137 = some 16 := by kernel_rfl
theorem tzr_137 : tzr Tryz.prog 137 = some [.d (.int .i64 0), .d (.int .i64 0)] := by kernel_rfl
theorem tfld_137_0 : tfld Tryz.prog 137 0 = some (0, 1, 3) := by kernel_rfl
theorem place_137_0 : place Tryz.prog 137 0 = some (0, 1) := by kernel_rfl
theorem tfld_137_1 : tfld Tryz.prog 137 1 = some (1, 1, 33) := by kernel_rfl
theorem place_137_1 : place Tryz.prog 137 1 = some (1, 1) := by kernel_rfl
theorem tbld_137 : tbld Tryz.prog 137 = true := by kernel_rfl
theorem tsz_139 : tsz Tryz.prog 139 = some 1 := by kernel_rfl
theorem tag_139 : tag Tryz.prog 139 = some false := by kernel_rfl
theorem tcon_139 : tcon Tryz.prog 139 = true := by kernel_rfl
theorem tstr_139 : tstr Tryz.prog 139 = false := by kernel_rfl
theorem tbool_139 : tbool Tryz.prog 139 = false := by kernel_rfl
theorem tslc_139 : tslc Tryz.prog 139 = none := by kernel_rfl
theorem tarr_139 : tarr Tryz.prog 139 = none := by kernel_rfl
theorem tby_139 : tby Tryz.prog 139 = some 8 := by kernel_rfl
theorem tzr_139 : tzr Tryz.prog 139 = some [.raw .nilFunc] := by kernel_rfl
theorem tsz_140 : tsz Tryz.prog 140 = some 1 := by kernel_rfl
theorem tag_140 : tag Tryz.prog 140 = some false := by kernel_rfl
theorem tcon_140 : tcon Tryz.prog 140 = true := by kernel_rfl
theorem tstr_140 : tstr Tryz.prog 140 = false := by kernel_rfl
theorem tbool_140 : tbool Tryz.prog 140 = false := by kernel_rfl
theorem tslc_140 : tslc Tryz.prog 140 = none := by kernel_rfl
theorem tarr_140 : tarr Tryz.prog 140 = none := by kernel_rfl
theorem tby_140 : tby Tryz.prog 140 = some 8 := by kernel_rfl
theorem tzr_140 : tzr Tryz.prog 140 = some [.raw .nilFunc] := by kernel_rfl
theorem tsz_143 : tsz Tryz.prog 143 = some 1 := by kernel_rfl
theorem tag_143 : tag Tryz.prog 143 = some false := by kernel_rfl
theorem tcon_143 : tcon Tryz.prog 143 = true := by kernel_rfl
theorem tstr_143 : tstr Tryz.prog 143 = false := by kernel_rfl
theorem tbool_143 : tbool Tryz.prog 143 = false := by kernel_rfl
theorem tslc_143 : tslc Tryz.prog 143 = none := by kernel_rfl
theorem tarr_143 : tarr Tryz.prog 143 = none := by kernel_rfl
theorem tby_143 : tby Tryz.prog 143 = some 8 := by kernel_rfl
theorem tzr_143 : tzr Tryz.prog 143 = some [.raw .nilFunc] := by kernel_rfl
theorem tsz_144 : tsz Tryz.prog 144 = some 1 := by kernel_rfl
theorem tag_144 : tag Tryz.prog 144 = some false := by kernel_rfl
theorem tcon_144 : tcon Tryz.prog 144 = true := by kernel_rfl
theorem tstr_144 : tstr Tryz.prog 144 = false := by kernel_rfl
theorem tbool_144 : tbool Tryz.prog 144 = false := by kernel_rfl
theorem tslc_144 : tslc Tryz.prog 144 = none := by kernel_rfl
theorem tarr_144 : tarr Tryz.prog 144 = none := by kernel_rfl
theorem tby_144 : tby Tryz.prog 144 = some 8 := by kernel_rfl
theorem tzr_144 : tzr Tryz.prog 144 = some [.raw .nilFunc] := by kernel_rfl
theorem tsz_145 : tsz Tryz.prog 145 = some 1 := by kernel_rfl
theorem tag_145 : tag Tryz.prog 145 = some false := by kernel_rfl
theorem tcon_145 : tcon Tryz.prog 145 = true := by kernel_rfl
theorem tstr_145 : tstr Tryz.prog 145 = false := by kernel_rfl
theorem tbool_145 : tbool Tryz.prog 145 = false := by kernel_rfl
theorem tslc_145 : tslc Tryz.prog 145 = none := by kernel_rfl
theorem tarr_145 : tarr Tryz.prog 145 = none := by kernel_rfl
theorem tby_145 : tby Tryz.prog 145 = some 8 := by kernel_rfl
theorem tzr_145 : tzr Tryz.prog 145 = some [.raw .nilFunc] := by kernel_rfl
theorem tsz_146 : tsz Tryz.prog 146 = some 1 := by kernel_rfl
theorem tag_146 : tag Tryz.prog 146 = some false := by kernel_rfl
theorem tcon_146 : tcon Tryz.prog 146 = true := by kernel_rfl
theorem tstr_146 : tstr Tryz.prog 146 = false := by kernel_rfl
theorem tbool_146 : tbool Tryz.prog 146 = false := by kernel_rfl
theorem tslc_146 : tslc Tryz.prog 146 = none := by kernel_rfl
theorem tarr_146 : tarr Tryz.prog 146 = none := by kernel_rfl
theorem tby_146 : tby Tryz.prog 146 = some 8 := by kernel_rfl
theorem tzr_146 : tzr Tryz.prog 146 = some [.raw .nilFunc] := by kernel_rfl
theorem tsz_147 : tsz Tryz.prog 147 = some 1 := by kernel_rfl
theorem tag_147 : tag Tryz.prog 147 = some false := by kernel_rfl
theorem tcon_147 : tcon Tryz.prog 147 = true := by kernel_rfl
theorem tstr_147 : tstr Tryz.prog 147 = false := by kernel_rfl
theorem tbool_147 : tbool Tryz.prog 147 = false := by kernel_rfl
theorem tslc_147 : tslc Tryz.prog 147 = none := by kernel_rfl
theorem tarr_147 : tarr Tryz.prog 147 = none := by kernel_rfl
theorem tby_147 : tby Tryz.prog 147 = some 8 := by kernel_rfl
theorem tzr_147 : tzr Tryz.prog 147 = some [.raw .nilFunc] := by kernel_rfl
theorem tsz_148 : tsz Tryz.prog 148 = some 1 := by kernel_rfl
theorem tag_148 : tag Tryz.prog 148 = some false := by kernel_rfl
theorem tcon_148 : tcon Tryz.prog 148 = true := by kernel_rfl
theorem tstr_148 : tstr Tryz.prog 148 = false := by kernel_rfl
theorem tbool_148 : tbool Tryz.prog 148 = false := by kernel_rfl
theorem tslc_148 : tslc Tryz.prog 148 = none := by kernel_rfl
theorem tarr_148 : tarr Tryz.prog 148 = none := by kernel_rfl
theorem tby_148 : tby Tryz.prog 148 = some 8 := by kernel_rfl
theorem tzr_148 : tzr Tryz.prog 148 = some [.raw .nilFunc] := by kernel_rfl
theorem tsz_149 : tsz Tryz.prog 149 = some 1 := by kernel_rfl
theorem tag_149 : tag Tryz.prog 149 = some false := by kernel_rfl
theorem tcon_149 : tcon Tryz.prog 149 = true := by kernel_rfl
theorem tstr_149 : tstr Tryz.prog 149 = false := by kernel_rfl
theorem tbool_149 : tbool Tryz.prog 149 = false := by kernel_rfl
theorem tslc_149 : tslc Tryz.prog 149 = none := by kernel_rfl
theorem tarr_149 : tarr Tryz.prog 149 = none := by kernel_rfl
theorem tby_149 : tby Tryz.prog 149 = some 8 := by kernel_rfl
theorem tzr_149 : tzr Tryz.prog 149 = some [.raw .nilFunc] := by kernel_rfl
theorem tsz_155 : tsz Tryz.prog 155 = some 1 := by kernel_rfl
theorem tag_155 : tag Tryz.prog 155 = some false := by kernel_rfl
theorem tcon_155 : tcon Tryz.prog 155 = true := by kernel_rfl
theorem tstr_155 : tstr Tryz.prog 155 = false := by kernel_rfl
theorem tbool_155 : tbool Tryz.prog 155 = false := by kernel_rfl
theorem tslc_155 : tslc Tryz.prog 155 = none := by kernel_rfl
theorem tarr_155 : tarr Tryz.prog 155 = none := by kernel_rfl
theorem tby_155 : tby Tryz.prog 155 = some 8 := by kernel_rfl
theorem tzr_155 : tzr Tryz.prog 155 = some [.raw .nilFunc] := by kernel_rfl
theorem tsz_156 : tsz Tryz.prog 156 = some 1 := by kernel_rfl
theorem tag_156 : tag Tryz.prog 156 = some false := by kernel_rfl
theorem tcon_156 : tcon Tryz.prog 156 = true := by kernel_rfl
theorem tstr_156 : tstr Tryz.prog 156 = false := by kernel_rfl
theorem tbool_156 : tbool Tryz.prog 156 = false := by kernel_rfl
theorem tslc_156 : tslc Tryz.prog 156 = none := by kernel_rfl
theorem tarr_156 : tarr Tryz.prog 156 = none := by kernel_rfl
theorem tby_156 : tby Tryz.prog 156 = some 4 := by kernel_rfl
theorem tzr_156 : tzr Tryz.prog 156 = some [.d (.int .u32 0)] := by kernel_rfl
theorem tsz_159 : tsz Tryz.prog 159 = some 1 := by kernel_rfl
theorem tag_159 : tag Tryz.prog 159 = some false := by kernel_rfl
theorem tcon_159 : tcon Tryz.prog 159 = true := by kernel_rfl
theorem tstr_159 : tstr Tryz.prog 159 = false := by kernel_rfl
theorem tbool_159 : tbool Tryz.prog 159 = false := by kernel_rfl
theorem tslc_159 : tslc Tryz.prog 159 = none := by kernel_rfl
theorem tarr_159 : tarr Tryz.prog 159 = none := by kernel_rfl
theorem tby_159 : tby Tryz.prog 159 = some 8 := by kernel_rfl
theorem tzr_159 : tzr Tryz.prog 159 = some [.raw .nilFunc] := by kernel_rfl
theorem tsz_160 : tsz Tryz.prog 160 = some 1 := by kernel_rfl
theorem tag_160 : tag Tryz.prog 160 = some false := by kernel_rfl
theorem tcon_160 : tcon Tryz.prog 160 = true := by kernel_rfl
theorem tstr_160 : tstr Tryz.prog 160 = false := by kernel_rfl
theorem tbool_160 : tbool Tryz.prog 160 = false := by kernel_rfl
theorem tslc_160 : tslc Tryz.prog 160 = none := by kernel_rfl
theorem tarr_160 : tarr Tryz.prog 160 = none := by kernel_rfl
theorem tby_160 : tby Tryz.prog 160 = some 8 := by kernel_rfl
theorem tzr_160 : tzr Tryz.prog 160 = some [.raw (.pointer none)] := by kernel_rfl
def escT : Nat → List Nat
  | 9 => [2, 4, 5]
  | 10 => [5, 6, 7, 8, 10]
  | 23 => [1]
  | 25 => [1]
  | 26 => [4, 5]
  | 34 => [4, 5, 6, 9]
  | 41 => [3, 4, 5, 8]
  | 42 => [5]
  | 47 => [25]
  | 50 => [22]
  | 57 => [2, 3]
  | 78 => [3]
  | 79 => [3, 4]
  | 83 => [2, 3, 7]
  | 91 => [24]
  | 99 => [1]
  | 108 => [3, 4, 5]
  | 116 => [1]
  | 127 => [1]
  | _ => []
def clrT' : Nat → Nat → List Nat
  | 3, 0 => [3, 8]
  | 3, 1 => [21]
  | 3, 2 => [22, 23, 24]
  | 3, 3 => [25, 26]
  | 3, 4 => [27, 28]
  | 3, 5 => [10, 11, 12, 29, 30, 31, 32, 33, 34, 35, 36, 37, 38, 39, 40, 41]
  | 3, 6 => [0, 1, 2, 7, 9, 42, 43]
  | 3, 7 => [9, 42, 44, 45, 46, 47, 48]
  | 3, 8 => [7, 49, 50, 51, 52]
  | 3, 9 => [13, 15, 53, 54, 55, 56, 57, 58, 59]
  | 3, 10 => [14, 17, 60, 61, 62, 63, 64, 65, 66]
  | 3, 11 => [67, 68, 69, 70]
  | 3, 12 => [0, 71, 72, 73, 74]
  | 3, 13 => [1, 2, 16, 18, 19, 20, 75, 76, 77, 78, 79, 80, 81, 82, 83, 84, 85, 86, 87, 88, 89, 90, 91, 92, 93, 94, 95, 96]
  | 4, 0 => [10]
  | 4, 1 => [24]
  | 4, 2 => [25, 26, 27, 28]
  | 4, 3 => [29, 30]
  | 4, 4 => [31, 32]
  | 4, 5 => [12, 13, 14, 33, 34, 35, 36, 37, 38, 39, 40, 41, 42, 43, 44, 45]
  | 4, 6 => [0, 1, 2, 3, 4, 11, 46, 47]
  | 4, 7 => [11, 46, 48, 49, 50, 51, 52, 53]
  | 4, 8 => [54, 55, 56, 57, 58, 59]
  | 4, 9 => [60, 61]
  | 4, 10 => [62, 63]
  | 4, 11 => [64, 65]
  | 4, 12 => [66, 67]
  | 4, 13 => [68, 69, 70, 71, 72, 73, 74, 75, 76, 77, 78]
  | 4, 14 => [0, 1, 2, 3, 4, 15, 16, 17, 18, 19, 20, 21, 22, 79]
  | 4, 15 => [79]
  | 4, 16 => [80, 81, 82]
  | 4, 18 => [83, 86, 87, 88, 89, 90, 91, 92, 93, 94, 95, 96, 97, 98, 99, 100, 101, 102, 103, 104]
  | 4, 19 => [0, 1, 2, 3, 4, 15, 16, 17, 18, 19, 20, 21, 22, 23, 105]
  | 4, 17 => [84, 85, 105]
  | 4, 20 => [0, 1, 2, 3, 4, 15, 16, 17, 18, 19, 20, 21, 22, 23, 83, 106, 107, 108, 109, 110, 111, 112, 113, 114, 115, 116, 117, 118, 119, 120, 121, 122, 123, 124, 125, 126, 127, 128]
  | 5, 0 => [0]
  | 5, 1 => [7, 8, 9]
  | 5, 2 => [10, 11, 12]
  | 5, 3 => [13, 14, 15, 16, 17]
  | 5, 4 => [2, 18, 19, 20, 21, 22, 23, 24]
  | 5, 5 => [5, 25, 26, 27, 28, 29, 30]
  | 5, 6 => [1, 3, 4, 6, 31, 32, 33, 34, 35, 36, 37, 38, 39, 40, 41, 42, 43, 44, 45, 46]
  | 6, 0 => [6]
  | 6, 1 => [0, 12, 13]
  | 6, 2 => [7, 14, 15, 16, 17, 18, 19]
  | 6, 3 => [1, 2, 20]
  | 6, 4 => [20]
  | 6, 5 => [21, 22, 23]
  | 6, 7 => [24, 27, 28, 29, 30, 31, 32]
  | 6, 8 => [33, 34, 35, 36, 37, 38]
  | 6, 9 => [9, 10, 39, 40, 41, 42, 43]
  | 6, 10 => [1, 2, 8, 44]
  | 6, 6 => [25, 26, 44]
  | 6, 11 => [1, 2, 8, 24, 45, 46]
  | 6, 12 => [11, 47]
  | 7, 0 => [6]
  | 7, 1 => [9, 10]
  | 7, 2 => [0, 1, 2, 11]
  | 7, 3 => [11]
  | 7, 4 => [12, 13, 14]
  | 7, 6 => [15, 18, 19, 20, 21, 22, 23, 24]
  | 7, 7 => [8, 25]
  | 7, 8 => [0, 1, 2, 7, 26]
  | 7, 5 => [16, 17, 26]
  | 7, 9 => [0, 1, 2, 7, 15]
  | 8, 0 => [0, 6]
  | 8, 1 => [8, 9]
  | 8, 2 => [1, 2, 3, 7, 10, 11, 12, 13, 14, 15, 16, 17, 18, 19, 20, 21, 22]
  | 9, 0 => [0]
  | 9, 1 => [9, 10]
  | 9, 2 => [1, 2, 11]
  | 9, 3 => [1, 11, 12]
  | 9, 4 => [13, 14]
  | 9, 5 => [15]
  | 9, 6 => [2, 7, 16, 17, 18, 19]
  | 9, 7 => [20]
  | 9, 8 => [6, 8, 21, 22, 23, 24]
  | 9, 9 => [2, 13]
  | 10, 0 => [0, 1, 2, 3]
  | 10, 1 => [18, 19, 20]
  | 10, 2 => [4, 5, 6, 7, 8, 17]
  | 10, 3 => [17, 22, 23, 24, 25, 26]
  | 10, 4 => [4, 5, 6, 7, 8, 21]
  | 10, 5 => [4, 21, 27]
  | 10, 6 => [28, 29]
  | 10, 7 => [30]
  | 10, 8 => [8, 31, 32, 33, 34, 35]
  | 10, 9 => [36, 37, 38, 39, 40, 41, 42]
  | 10, 10 => [43]
  | 10, 11 => [5, 6, 7, 11, 12, 13, 14, 15, 44, 45]
  | 10, 12 => [11, 44, 46, 47, 48, 49, 50, 51, 52, 53, 54, 55]
  | 10, 13 => [56]
  | 10, 14 => [5, 7, 14, 16, 57, 58, 59, 60, 61, 62, 63, 64, 65, 66]
  | 10, 15 => [5, 6, 7, 12, 13, 14, 16, 57, 67, 68, 69, 70, 71, 72, 73, 74, 75, 76, 77]
  | 10, 16 => [78]
  | 10, 17 => [78, 79]
  | 10, 18 => [15, 80, 81]
  | 10, 19 => [5, 6, 7, 8, 28]
  | 11, 0 => [10]
  | 11, 1 => [13, 14]
  | 11, 2 => [0, 1, 2, 3, 4, 15]
  | 11, 3 => [15, 16, 17, 18, 19]
  | 11, 4 => [0, 1, 2, 3, 4, 20]
  | 11, 5 => [20]
  | 11, 6 => [21, 22, 23]
  | 11, 8 => [24, 27, 28, 29, 30, 31, 32, 33, 34, 35, 36, 37, 38, 39, 40, 41]
  | 11, 9 => [42]
  | 11, 10 => [0, 1, 2, 3, 4, 11, 12, 43, 44]
  | 11, 7 => [12, 25, 26, 43]
  | 11, 11 => [0, 1, 2, 3, 4, 11, 24]
  | 12, 0 => [2]
  | 12, 1 => [0, 4, 5]
  | 12, 2 => [3, 6]
  | 13, 0 => [4, 5]
  | 13, 1 => [8, 9]
  | 13, 2 => [0, 1, 10]
  | 13, 3 => [10]
  | 13, 4 => [11, 12, 13]
  | 13, 6 => [14, 17, 18, 19, 20, 21, 22, 23, 24, 25]
  | 13, 7 => [26]
  | 13, 8 => [0, 1, 6, 7, 27, 28, 29]
  | 13, 5 => [7, 15, 16, 27]
  | 13, 9 => [0, 1, 6, 14]
  | 14, 0 => [2]
  | 14, 2 => [0]
  | 14, 4 => [9, 10, 11]
  | 14, 5 => [5, 12, 13, 14, 15, 16, 17]
  | 14, 6 => [18]
  | 14, 7 => [3, 6, 7, 8, 9, 19]
  | 15, 0 => [2]
  | 15, 3 => [5, 6, 7]
  | 15, 5 => [8, 11, 12, 13, 14, 15, 16, 17, 18, 19]
  | 15, 4 => [9, 10]
  | 15, 6 => [0, 3, 4, 8, 20]
  | 16, 0 => [2]
  | 16, 2 => [0]
  | 16, 4 => [9, 10, 11]
  | 16, 5 => [5, 12, 13, 14, 15, 16]
  | 16, 6 => [17]
  | 16, 7 => [3, 6, 7, 8, 9, 18]
  | 17, 0 => [2]
  | 17, 3 => [5, 6, 7]
  | 17, 5 => [8, 11, 12, 13, 14, 15, 16, 17, 18]
  | 17, 4 => [9, 10]
  | 17, 6 => [0, 3, 4, 8, 19]
  | 18, 0 => [0]
  | 18, 1 => [2]
  | 18, 2 => [1, 3, 4, 5, 6, 7, 8, 9, 10, 11]
  | 19, 0 => [2]
  | 19, 1 => [5, 6]
  | 19, 2 => [0, 7]
  | 19, 3 => [7]
  | 19, 4 => [8, 9, 10]
  | 19, 6 => [11, 14, 15, 16, 17, 18, 19]
  | 19, 7 => [4, 20]
  | 19, 8 => [0, 3, 21]
  | 19, 5 => [12, 13, 21]
  | 19, 9 => [0, 3, 11]
  | 20, 0 => [0, 2]
  | 20, 1 => [5, 6]
  | 20, 2 => [1, 7]
  | 20, 3 => [7]
  | 20, 4 => [8, 9, 10, 11]
  | 20, 6 => [12, 15, 16, 17, 18, 19, 20]
  | 20, 7 => [4, 21]
  | 20, 8 => [1, 3, 22]
  | 20, 5 => [13, 14, 22]
  | 20, 9 => [1, 3, 12]
  | 21, 0 => [0, 2]
  | 21, 3 => [5, 6, 7, 8]
  | 21, 5 => [9, 12, 13, 14, 15, 16, 17, 18, 19]
  | 21, 4 => [10, 11]
  | 21, 6 => [1, 3, 4, 9, 20]
  | 22, 0 => [0, 2]
  | 22, 3 => [6, 7, 8, 9]
  | 22, 5 => [10, 13, 14, 15, 16, 17, 18]
  | 22, 6 => [19, 20]
  | 22, 7 => [5, 21, 22]
  | 22, 4 => [5, 11, 12, 21]
  | 22, 8 => [1, 3, 4, 10, 23, 24]
  | 23, 0 => [0, 2]
  | 23, 1 => [1, 3]
  | 24, 0 => [2, 6]
  | 24, 1 => [8, 9, 10, 11, 12]
  | 24, 2 => [13]
  | 24, 3 => [0, 1, 5, 7, 14, 15]
  | 24, 4 => [7, 14, 16, 17, 18, 19, 20, 21, 22, 23, 24, 25, 26, 27, 28]
  | 24, 5 => [0, 1, 5, 29]
  | 24, 6 => [0, 1, 5, 29, 30, 31, 32, 33, 34, 35, 36]
  | 25, 0 => [0, 2]
  | 25, 1 => [1, 3]
  | 26, 0 => [1, 2, 6, 7]
  | 26, 1 => [0, 4, 5, 8, 9, 10, 11, 12]
  | 27, 0 => [0, 7]
  | 27, 1 => [10, 11, 12, 13, 14, 15, 16, 17, 18, 19, 20, 21, 22, 23, 24, 25, 26, 27]
  | 27, 2 => [1, 2, 3, 28, 29]
  | 27, 3 => [1, 2, 3, 28, 30, 31, 32, 33, 34, 35, 36]
  | 27, 4 => [38, 39]
  | 27, 5 => [8, 9, 37, 40, 41]
  | 27, 6 => [9, 37, 43, 44]
  | 27, 7 => [8, 42, 45]
  | 27, 8 => [8, 42, 46]
  | 28, 0 => [3, 4, 10]
  | 28, 1 => [0, 1, 2, 12, 13, 14, 15]
  | 28, 2 => [16, 17, 18, 19, 20]
  | 28, 3 => [8, 9, 11, 21]
  | 28, 4 => [8, 9, 11, 21, 22, 23, 24, 25]
  | 29, 0 => [2]
  | 29, 4 => [12, 13, 14]
  | 29, 5 => [5, 15, 16, 17, 18]
  | 29, 6 => [19]
  | 29, 7 => [20, 21]
  | 29, 8 => [20, 22]
  | 29, 9 => [3, 9, 10, 11, 12, 23, 24]
  | 29, 10 => [0]
  | 29, 12 => [28, 29, 30]
  | 29, 13 => [8, 31, 32, 33]
  | 29, 14 => [34]
  | 29, 15 => [6, 25, 26, 27, 28, 35]
  | 30, 0 => [0, 4]
  | 30, 1 => [5, 6]
  | 30, 2 => [1, 2, 7, 8, 9, 10, 11, 12, 13, 14, 15, 16, 17, 18, 19, 20]
  | 30, 3 => [1, 2, 7, 21, 22, 23, 24, 25, 26, 27, 28, 29]
  | 31, 0 => [3, 5, 12]
  | 31, 1 => [19, 20, 21, 22, 23, 24, 25]
  | 31, 2 => [26]
  | 31, 3 => [0, 1, 2, 4, 9, 11, 13, 14, 27, 28]
  | 31, 4 => [4, 14, 27, 29, 30, 31, 32, 33, 34, 35, 36, 37, 38]
  | 31, 5 => [39]
  | 31, 6 => [0, 1, 2, 9, 11, 13, 15, 16, 40, 41]
  | 31, 7 => [0, 2, 13, 15, 16, 40, 42, 43, 44, 45, 46, 47, 48, 49, 50]
  | 31, 8 => [51]
  | 31, 9 => [1, 9, 11, 17, 52, 53]
  | 31, 10 => [1, 11, 17, 52, 54, 55, 56]
  | 31, 11 => [9, 18, 57, 58, 59, 60, 61]
  | 31, 12 => [62]
  | 31, 13 => [62]
  | 32, 0 => [2, 6]
  | 32, 1 => [8, 9, 10, 11, 12]
  | 32, 2 => [13]
  | 32, 3 => [0, 1, 5, 7, 14, 15]
  | 32, 4 => [7, 14, 16, 17, 18, 19, 20, 21, 22, 23, 24, 25, 26, 27, 28]
  | 32, 5 => [0, 1, 5, 29]
  | 32, 6 => [0, 1, 5, 29, 30, 31, 32, 33, 34, 35, 36]
  | 33, 2 => [8, 9, 10, 11]
  | 33, 3 => [3, 4, 12, 13, 14, 15, 16, 17, 18]
  | 33, 4 => [19, 20]
  | 34, 0 => [0, 1, 2, 8]
  | 34, 1 => [12, 13, 14, 15]
  | 34, 2 => [3, 4, 5, 6, 9, 10, 16, 17, 18, 19, 20, 21]
  | 34, 3 => [11, 22]
  | 35, 0 => [3, 8]
  | 35, 1 => [0, 1, 2, 10, 11, 12, 13]
  | 35, 2 => [14, 15, 16, 17]
  | 35, 3 => [7, 9, 18]
  | 35, 4 => [7, 9, 18, 19, 20, 21]
  | 36, 2 => [8, 9, 10, 11]
  | 36, 3 => [3, 4, 12, 13, 14, 15, 16, 17, 18]
  | 36, 4 => [19, 20]
  | 37, 0 => [4, 5]
  | 37, 2 => [0]
  | 37, 4 => [14, 15, 16, 17]
  | 37, 5 => [7, 8, 18, 19, 20, 21, 22, 23, 24]
  | 37, 6 => [25]
  | 37, 7 => [1, 6, 9, 10, 11, 12, 13, 26, 27]
  | 37, 8 => [9, 10, 26, 28, 29, 30, 31]
  | 37, 9 => [32]
  | 37, 10 => [1, 6, 11, 12, 13, 14, 33]
  | 38, 0 => [1, 7]
  | 38, 1 => [0, 2, 3, 5, 8, 9, 10, 11, 12, 13, 14, 15]
  | 39, 0 => [0, 2]
  | 39, 1 => [1, 3, 4, 5]
  | 40, 0 => [4]
  | 40, 1 => [0, 1, 5, 6, 7, 8]
  | 41, 0 => [0, 1, 2, 7]
  | 41, 1 => [11, 12, 13, 14, 15, 16, 17, 18]
  | 41, 2 => [8, 19, 20, 21, 22, 23, 24, 25]
  | 41, 3 => [27, 28]
  | 41, 4 => [3, 4, 5, 9, 10, 26, 29, 30]
  | 41, 5 => [10, 26, 32, 33, 34]
  | 41, 6 => [3, 4, 5, 9, 31, 35, 36, 37, 38, 39, 40]
  | 41, 7 => [31, 42, 43, 44, 45, 46]
  | 41, 8 => [3, 4, 5, 9, 41, 47]
  | 41, 9 => [41, 49, 50]
  | 41, 10 => [3, 4, 5, 9, 48, 51]
  | 41, 11 => [3, 4, 5, 9, 48, 52, 53, 54, 55, 56, 57, 58, 59, 60, 61, 62]
  | 42, 0 => [0, 4]
  | 42, 2 => [1, 7, 8, 9, 10, 11, 12, 13, 14, 15, 16, 17, 18, 19, 20]
  | 42, 3 => [2, 5, 21]
  | 42, 4 => [21, 22]
  | 42, 5 => [2, 5, 6, 23, 24, 25, 26, 27, 28, 29, 30, 31, 32, 33, 34]
  | 43, 0 => [0, 1, 2, 6]
  | 43, 1 => [11, 12, 13, 14, 15, 16, 17, 18]
  | 43, 2 => [3, 4, 5, 10, 19, 20, 21, 22, 23, 24, 25, 26, 27, 28, 29, 30, 31, 32, 33]
  | 43, 3 => [10, 35, 36, 37, 38, 39, 40, 41, 42]
  | 43, 4 => [3, 4, 5, 34]
  | 43, 5 => [34, 43]
  | 43, 6 => [3, 4, 7, 44, 45, 46, 47, 48, 49, 50, 51, 52, 53]
  | 43, 7 => [5, 8, 54, 55, 56, 57, 58, 59, 60]
  | 43, 8 => [61]
  | 43, 9 => [9, 61, 62]
  | 44, 0 => [4]
  | 44, 1 => [5]
  | 44, 2 => [6, 7]
  | 44, 3 => [6, 8, 9, 10, 11, 12, 13, 14]
  | 44, 4 => [15]
  | 44, 5 => [1, 16, 17, 18, 19, 20, 21, 22, 23, 24, 25]
  | 44, 6 => [0, 1, 16, 26]
  | 45, 0 => [6, 7]
  | 45, 3 => [12, 13, 14]
  | 45, 5 => [15, 18, 19, 20, 21, 22, 23, 24, 25, 26, 27, 28, 29]
  | 45, 6 => [30]
  | 45, 7 => [0, 1, 2, 8, 9, 10, 11, 31, 32]
  | 45, 8 => [10, 11, 31, 33, 34, 35, 36]
  | 45, 4 => [16, 17]
  | 45, 9 => [0, 1, 2, 8, 9, 15, 37]
  | 46, 0 => [0, 7]
  | 46, 1 => [14, 15]
  | 46, 2 => [8, 16, 17, 18, 19, 20, 21, 22, 23, 24, 25, 26, 27, 28, 29]
  | 46, 3 => [1, 2, 3, 30, 31]
  | 46, 4 => [30]
  | 46, 5 => [32, 33, 34]
  | 46, 7 => [35, 38, 39, 40, 41, 42]
  | 46, 8 => [10, 43]
  | 46, 9 => [1, 2, 3, 9, 44, 45]
  | 46, 6 => [36, 37, 44]
  | 46, 10 => [1, 2, 3, 9, 35, 46, 47, 48, 49, 50, 51, 52]
  | 46, 11 => [53]
  | 46, 12 => [11, 12, 54, 55, 56]
  | 46, 13 => [12, 54, 57, 58]
  | 46, 14 => [13, 59]
  | 46, 15 => [11, 60, 61]
  | 46, 16 => [11, 60, 62]
  | 47, 0 => [3, 4, 10]
  | 47, 1 => [13, 14, 15, 16, 17, 18, 19]
  | 47, 2 => [11, 20]
  | 47, 3 => [0, 1, 2, 8, 9, 21]
  | 47, 4 => [0, 1, 21, 22, 23, 24]
  | 47, 5 => [2, 8, 9, 12, 25, 26, 27, 28, 29, 30]
  | 48, 0 => [0, 4]
  | 48, 1 => [5, 6]
  | 48, 2 => [1, 2, 7, 8, 9, 10, 11, 12, 13, 14, 15, 16, 17, 18, 19, 20]
  | 48, 3 => [1, 2, 7, 21, 22, 23, 24, 25, 26, 27, 28, 29]
  | 49, 0 => [8]
  | 49, 1 => [12, 13]
  | 49, 2 => [0, 1, 2, 3, 14]
  | 49, 3 => [2, 14, 15, 16]
  | 49, 5 => [17, 18, 19]
  | 49, 7 => [20, 23, 24, 25, 26, 27, 28, 29, 30]
  | 49, 8 => [31]
  | 49, 9 => [0, 1, 3, 9, 10, 11, 32, 33]
  | 49, 10 => [11, 32, 34, 35, 36, 37, 38, 39, 40]
  | 49, 6 => [21, 22]
  | 49, 11 => [0, 1, 3, 9, 10, 20]
  | 50, 0 => [3, 8]
  | 50, 1 => [11, 12, 13, 14, 15, 16]
  | 50, 2 => [9, 17]
  | 50, 3 => [0, 1, 2, 7, 18]
  | 50, 4 => [0, 1, 18, 19, 20, 21]
  | 50, 5 => [2, 7, 10, 22, 23, 24, 25, 26]
  | 51, 0 => [4, 5]
  | 51, 1 => [9, 10]
  | 51, 2 => [0, 1, 11]
  | 51, 3 => [0, 11]
  | 51, 5 => [15, 16, 17, 18]
  | 51, 6 => [7, 19, 20, 21, 22]
  | 51, 7 => [23]
  | 51, 8 => [1, 6, 8, 12, 13, 14, 24, 25, 26]
  | 51, 9 => [6, 8, 24, 27]
  | 51, 10 => [1, 12, 13, 14, 15]
  | 52, 0 => [1, 8]
  | 52, 1 => [0, 2, 3, 4, 5, 7, 9, 10, 11, 12, 13, 14, 15, 16, 17, 18]
  | 53, 0 => [0, 1, 4]
  | 53, 1 => [7]
  | 53, 2 => [10]
  | 53, 3 => [2, 3, 8, 9, 11, 12, 13]
  | 53, 4 => [8, 9, 15]
  | 53, 5 => [14, 16, 17, 18, 19, 20, 21, 22]
  | 53, 6 => [23]
  | 53, 7 => [2, 3, 24, 25, 26, 27, 28, 29, 30, 31, 32]
  | 53, 8 => [2, 3, 5, 24, 33, 34, 35, 36, 37, 38]
  | 53, 9 => [39]
  | 53, 10 => [6, 39, 40]
  | 53, 11 => [2, 3, 14]
  | 54, 0 => [0, 2]
  | 54, 1 => [1, 3, 4, 5, 6, 7, 8, 9, 10, 11, 12, 13, 14]
  | 55, 0 => [4]
  | 55, 1 => [6]
  | 55, 3 => [9, 10]
  | 55, 4 => [11, 12, 13, 14, 15]
  | 55, 5 => [0, 1, 5, 7, 8, 16, 17]
  | 55, 6 => [5, 16, 18]
  | 55, 7 => [0, 1, 7, 8, 9]
  | 56, 0 => [1, 9]
  | 56, 1 => [0, 2, 3, 10, 11, 12, 13, 14, 15, 16, 17]
  | 56, 2 => [4, 5, 7, 18, 19, 20, 21, 22, 23, 24, 25]
  | 56, 3 => [4, 5, 7, 18, 26, 27, 28, 29, 30, 31]
  | 57, 0 => [0, 1, 5]
  | 57, 1 => [6, 7, 8, 9, 10, 11, 12]
  | 57, 2 => [2, 3, 13, 14]
  | 57, 3 => [2, 3, 13, 15, 16, 17, 18]
  | 58, 0 => [0, 2]
  | 58, 1 => [1, 3, 4, 5]
  | 59, 0 => [0, 3]
  | 59, 1 => [1, 2, 4, 5, 6, 7, 8, 9, 10, 11, 12, 13]
  | 60, 0 => [4]
  | 60, 1 => [0, 1, 5, 6, 7, 8]
  | 61, 0 => [0, 3]
  | 61, 1 => [1, 2, 4, 5, 6, 7]
  | 62, 0 => [4]
  | 62, 1 => [0, 1, 5, 6, 7, 8]
  | 63, 0 => [0, 1]
  | 63, 1 => [3, 5, 6, 7, 8, 9, 10, 11, 12, 13, 14, 15, 16, 17]
  | 63, 2 => [2, 18]
  | 64, 0 => [0, 1, 2, 3, 5]
  | 64, 1 => [6]
  | 65, 0 => [0, 1, 5]
  | 65, 1 => [6, 7, 8, 9, 10]
  | 65, 2 => [2, 3, 11, 12]
  | 65, 3 => [2, 3, 11, 13, 14, 15, 16, 17, 18, 19, 20, 21, 22, 23, 24, 25, 26, 27, 28, 29, 30, 31, 32, 33]
  | 66, 0 => [0, 1, 5]
  | 66, 1 => [8, 9, 10, 11, 12, 13, 14]
  | 66, 2 => [15]
  | 66, 3 => [2, 3, 6, 7, 16, 17, 18]
  | 66, 4 => [2, 3, 6, 7, 16, 19, 20, 21, 22, 23, 24, 25]
  | 67, 0 => [0, 1, 5]
  | 67, 1 => [11, 12, 13, 14, 15]
  | 67, 2 => [2, 3, 16, 17]
  | 67, 3 => [16, 18, 19, 20, 21, 22, 23]
  | 67, 4 => [24, 25, 26, 27, 28, 29]
  | 67, 5 => [2, 3, 6, 30, 31]
  | 67, 6 => [30, 32]
  | 67, 8 => [36, 37, 38, 39]
  | 67, 9 => [8, 40, 41, 42, 43, 44, 45, 46, 47, 48, 49, 50, 51, 52]
  | 67, 10 => [53]
  | 67, 11 => [7, 9, 54, 55, 56, 57, 58, 59, 60, 61, 62]
  | 67, 12 => [7, 9, 54, 63]
  | 67, 13 => [2, 3, 6, 10, 33, 34, 35, 64, 65, 66]
  | 67, 14 => [10, 64, 67]
  | 67, 15 => [2, 3, 6, 33, 34, 35, 36, 68, 69, 70, 71, 72, 73, 74, 75, 76, 77, 78]
  | 68, 0 => [0, 1, 4]
  | 68, 1 => [7, 8, 9, 10, 11, 12, 13, 14, 15, 16, 17, 18, 19, 20, 21, 22, 23, 24, 25, 26]
  | 68, 2 => [2, 3, 27]
  | 68, 3 => [2, 27, 28]
  | 68, 5 => [32, 33, 34, 35]
  | 68, 6 => [5, 6, 36, 37, 38, 39, 40, 41, 42]
  | 68, 7 => [3, 29, 30, 31, 43]
  | 68, 8 => [43, 44]
  | 68, 9 => [3, 29, 30, 31, 32]
  | 69, 0 => [0, 2]
  | 69, 1 => [4, 5]
  | 69, 2 => [1, 3, 6, 7, 8, 9, 10, 11, 12, 13, 14, 15, 16]
  | 70, 0 => [0, 7]
  | 70, 1 => [17]
  | 70, 4 => [18, 19, 20, 21]
  | 70, 6 => [22, 25, 26, 27, 28, 29, 30, 31, 32, 33, 34, 35, 36, 37, 38, 39]
  | 70, 7 => [40]
  | 70, 8 => [1, 2, 3, 8, 9, 10, 11, 12, 41, 42, 43]
  | 70, 9 => [11, 12, 41, 44, 45, 46, 47]
  | 70, 5 => [23, 24]
  | 70, 10 => [10, 22, 48, 49]
  | 70, 11 => [1, 2, 3, 8, 9, 50, 51, 52, 53, 54, 55, 56]
  | 70, 12 => [50, 57, 58, 59, 60]
  | 70, 13 => [1, 2, 3, 8, 9, 61, 62]
  | 70, 14 => [61]
  | 70, 15 => [63, 64, 65]
  | 70, 17 => [66, 69, 70, 71, 72, 73]
  | 70, 18 => [14, 74]
  | 70, 19 => [1, 2, 3, 8, 9, 13, 75, 76]
  | 70, 16 => [67, 68, 75]
  | 70, 20 => [1, 2, 3, 8, 9, 13, 66, 77, 78, 79, 80, 81, 82, 83, 84, 85, 86, 87, 88]
  | 70, 21 => [15, 16, 89, 90]
  | 71, 0 => [8]
  | 71, 1 => [16, 17]
  | 71, 2 => [0, 1, 2, 3, 18]
  | 71, 3 => [18]
  | 71, 4 => [19, 20, 21]
  | 71, 6 => [22, 25, 26, 27, 28, 29, 30]
  | 71, 7 => [10, 31]
  | 71, 8 => [0, 1, 2, 3, 9, 32]
  | 71, 5 => [23, 24, 32]
  | 71, 9 => [0, 9, 22]
  | 71, 10 => [33, 34, 35]
  | 71, 12 => [36, 39, 40, 41, 42, 43, 44]
  | 71, 13 => [45, 46, 47, 48, 49, 50]
  | 71, 14 => [12, 13, 51, 52, 53, 54, 55]
  | 71, 15 => [1, 2, 3, 11, 56]
  | 71, 11 => [37, 38, 56]
  | 71, 16 => [1, 2, 11, 36, 57, 58]
  | 71, 17 => [3, 59, 60]
  | 71, 18 => [14, 15, 61, 62, 63, 64]
  | 72, 0 => [2, 3, 8]
  | 72, 1 => [12, 13]
  | 72, 2 => [14, 15, 16]
  | 72, 3 => [0, 1, 6, 7, 17]
  | 72, 4 => [0, 1, 6, 7, 17, 18, 19, 20, 21, 22, 23, 24, 25, 26, 27, 28, 29, 30, 31, 32, 33]
  | 72, 5 => [14, 34, 35]
  | 72, 6 => [0, 1, 6, 7, 36]
  | 72, 7 => [0, 1, 6, 36, 37, 38, 39, 40, 41, 42, 43]
  | 72, 8 => [44]
  | 72, 9 => [7, 9, 10, 45, 46]
  | 72, 10 => [7, 9, 10, 45, 47, 48, 49]
  | 72, 11 => [11, 50]
  | 72, 12 => [51]
  | 72, 13 => [51]
  | 73, 0 => [2, 6]
  | 73, 1 => [11, 12]
  | 73, 2 => [13, 14, 15, 16, 17, 18, 19, 20]
  | 73, 3 => [21]
  | 73, 4 => [0, 1, 5, 7, 22, 23]
  | 73, 5 => [0, 1, 5, 7, 22, 24, 25, 26, 27, 28, 29, 30, 31, 32, 33, 34, 35]
  | 73, 6 => [13, 36, 37]
  | 73, 7 => [0, 1, 5, 38]
  | 73, 8 => [38, 39, 40, 41, 42, 43, 44, 45]
  | 73, 9 => [0, 1, 5, 46]
  | 73, 10 => [46, 47, 48, 49, 50, 51, 52, 53, 54, 55, 56]
  | 73, 11 => [8, 57]
  | 73, 12 => [0, 1, 5, 58]
  | 73, 13 => [0, 1, 5, 58, 59, 60, 61, 62, 63, 64, 65, 66, 67, 68, 69, 70, 71, 72, 73, 74, 75]
  | 73, 14 => [76]
  | 73, 15 => [9, 10, 77, 78]
  | 73, 16 => [9, 10, 77, 79, 80]
  | 73, 17 => [81]
  | 73, 18 => [81]
  | 74, 0 => [0, 1, 6]
  | 74, 1 => [8, 9, 10, 11, 12, 13]
  | 74, 2 => [14]
  | 74, 3 => [2, 3, 4, 7, 15, 16]
  | 74, 4 => [2, 3, 4, 7, 15, 17, 18, 19, 20, 21, 22, 23, 24, 25, 26, 27, 28]
  | 75, 0 => [0, 7]
  | 75, 1 => [2, 8, 9, 10, 11, 12, 13, 14, 15, 16, 17, 18, 19, 20, 21, 22]
  | 75, 2 => [1, 3, 23, 24]
  | 75, 3 => [1, 3, 23, 25, 26, 27, 28, 29, 30]
  | 76, 0 => [0, 1, 7]
  | 76, 1 => [2]
  | 76, 3 => [16, 17, 18]
  | 76, 4 => [19, 20]
  | 76, 5 => [3, 4, 9, 13, 14, 15, 21, 22]
  | 76, 6 => [21, 23, 24, 25, 26, 27, 28, 29]
  | 76, 7 => [30]
  | 76, 8 => [3, 4, 9, 10, 13, 14, 15, 31, 32, 33]
  | 76, 9 => [9, 10, 31, 34, 35, 36, 37, 38, 39, 40, 41, 42, 43, 44]
  | 76, 10 => [45]
  | 76, 11 => [3, 4, 11, 12, 13, 14, 15, 46, 47, 48]
  | 76, 12 => [11, 12, 46, 49]
  | 76, 13 => [50]
  | 76, 14 => [3, 4, 13, 14, 15, 16, 51]
  | 77, 0 => [0, 2]
  | 77, 2 => [1, 6]
  | 77, 4 => [10, 11, 12]
  | 77, 5 => [5, 13, 14, 15, 16]
  | 77, 6 => [17]
  | 77, 7 => [3, 7, 8, 9, 10, 18, 19]
  | 78, 0 => [0]
  | 78, 2 => [1, 4]
  | 78, 3 => [2, 3, 5, 6, 7, 8, 9]
  | 78, 4 => [3, 5, 10]
  | 79, 0 => [0, 1]
  | 79, 1 => [2, 7]
  | 79, 2 => [8, 9]
  | 79, 3 => [10]
  | 79, 4 => [3, 5, 6, 11, 12, 13, 14]
  | 79, 5 => [15]
  | 79, 6 => [3, 8]
  | 80, 0 => [0, 1, 4]
  | 80, 1 => [3, 5, 6]
  | 81, 0 => [0, 2]
  | 81, 1 => [3]
  | 81, 2 => [6]
  | 81, 3 => [1, 4, 5, 7, 8, 9, 10, 11, 12, 13, 14, 15]
  | 81, 4 => [5, 17]
  | 81, 5 => [1, 4, 16, 18, 19, 20, 21, 22, 23, 24, 25, 26]
  | 81, 6 => [4, 16, 28]
  | 81, 7 => [1, 27, 29, 30, 31, 32, 33, 34, 35, 36, 37]
  | 81, 8 => [1, 27, 38, 39, 40, 41, 42, 43, 44, 45, 46, 47, 48, 49, 50]
  | 82, 0 => [0, 2]
  | 82, 2 => [1, 3, 4, 5, 6, 7, 8, 9, 10, 11, 12, 13, 14, 15, 16, 17, 18, 19, 20, 21, 22, 23, 24]
  | 83, 1 => [4]
  | 83, 2 => [0, 5, 6, 7, 8]
  | 83, 3 => [9, 10]
  | 83, 4 => [11, 12]
  | 83, 5 => [11, 13]
  | 84, 1 => [0, 1, 2, 5, 6, 7, 8]
  | 85, 0 => [1, 2]
  | 85, 1 => [11, 12, 13, 14, 15, 16, 17]
  | 85, 2 => [18, 19, 20, 21]
  | 85, 3 => [22, 23]
  | 85, 4 => [22, 24, 25, 26, 27, 28]
  | 85, 5 => [29]
  | 85, 7 => [33, 34, 35, 36]
  | 85, 8 => [37]
  | 85, 9 => [8, 38, 39, 40, 41, 42, 43, 44, 45, 46, 47, 48, 49, 50, 51, 52]
  | 85, 10 => [53, 54, 55]
  | 85, 11 => [9, 10, 53, 56, 57, 58, 59, 60, 61, 62, 63, 64]
  | 85, 12 => [65]
  | 85, 13 => [30, 31, 32, 33, 66, 67]
  | 85, 14 => [0, 4, 5, 7, 68, 69]
  | 85, 15 => [0, 4, 5, 7, 68, 70, 71, 72, 73, 74, 75, 76, 77]
  | 86, 0 => [4]
  | 86, 1 => [6]
  | 86, 3 => [9, 10]
  | 86, 4 => [11, 12, 13, 14, 15]
  | 86, 5 => [0, 1, 5, 7, 8, 16, 17]
  | 86, 6 => [5, 16, 18]
  | 86, 7 => [0, 1, 7, 8, 9]
  | 87, 0 => [4]
  | 87, 1 => [6]
  | 87, 3 => [9, 10]
  | 87, 4 => [11, 12, 13, 14, 15]
  | 87, 5 => [0, 1, 5, 7, 8, 16, 17]
  | 87, 6 => [5, 16, 18]
  | 87, 7 => [0, 1, 7, 8, 9]
  | 88, 0 => [0]
  | 88, 1 => [9, 10, 11, 12]
  | 88, 2 => [1, 2, 3, 13, 14, 15]
  | 88, 3 => [1, 2, 3, 8, 13, 16, 17, 18, 19, 20, 21, 22, 23, 24]
  | 88, 4 => [7, 25]
  | 89, 0 => [0, 2]
  | 89, 1 => [5]
  | 89, 3 => [8]
  | 89, 4 => [6, 7, 9, 10, 11, 12, 13, 14, 15, 16]
  | 89, 5 => [1, 17]
  | 89, 6 => [7, 19]
  | 89, 7 => [6, 18, 20, 21, 22, 23, 24, 25, 26, 27]
  | 89, 8 => [1, 28]
  | 89, 9 => [18, 30]
  | 89, 10 => [6, 29, 31, 32, 33, 34, 35, 36, 37, 38]
  | 89, 11 => [1, 39]
  | 89, 12 => [29, 41]
  | 89, 13 => [42]
  | 89, 14 => [43]
  | 89, 15 => [6, 44]
  | 89, 16 => [6, 40, 45, 46]
  | 89, 17 => [1, 47]
  | 89, 2 => [1, 6, 40]
  | 89, 18 => [17, 28, 39, 47]
  | 89, 19 => [48, 49, 50, 51]
  | 89, 21 => [52, 55, 56, 57, 58, 59, 60]
  | 89, 22 => [4, 61]
  | 89, 23 => [1, 3, 62]
  | 89, 20 => [53, 54, 62]
  | 89, 24 => [1, 3, 52]
  | 90, 0 => [0, 4]
  | 90, 1 => [1, 2, 5, 6, 7, 8, 9, 10, 11, 12, 13, 14, 15, 16, 17, 18, 19]
  | 90, 2 => [20]
  | 90, 3 => [20]
  | 91, 0 => [0, 1, 5]
  | 91, 1 => [12, 13]
  | 91, 2 => [14, 15]
  | 91, 3 => [6, 7, 16, 17, 18, 19, 20]
  | 91, 4 => [2, 3, 21, 22]
  | 91, 5 => [21, 23]
  | 91, 6 => [2, 3, 25, 26, 27, 28]
  | 91, 7 => [8, 9, 24, 29, 30, 31, 32, 33, 34]
  | 91, 8 => [10, 11, 35, 36]
  | 92, 0 => [2]
  | 92, 2 => [5, 6, 7]
  | 92, 4 => [8, 11, 12, 13, 14, 15]
  | 92, 5 => [4, 16]
  | 92, 6 => [0, 3, 17]
  | 92, 3 => [9, 10, 17]
  | 92, 7 => [0, 3, 8]
  | 93, 0 => [1, 4]
  | 93, 1 => [0, 3, 5, 6, 7, 8, 9]
  | 94, 0 => [2, 7]
  | 94, 1 => [15]
  | 94, 2 => [18]
  | 94, 3 => [16, 17, 19, 20, 21, 22]
  | 94, 4 => [0, 1, 5, 23, 24]
  | 94, 5 => [0, 1, 5, 23, 25, 26, 27, 28, 29, 30, 31, 32, 33, 34, 35, 36, 37, 38, 39, 40, 41, 42, 43, 44, 45]
  | 94, 6 => [8, 9, 46, 47]
  | 94, 7 => [17, 49]
  | 94, 8 => [16, 48, 50, 51, 52, 53, 54, 55, 56]
  | 94, 9 => [0, 1, 5, 57, 58]
  | 94, 10 => [57, 59, 60, 61, 62, 63, 64, 65, 66, 67, 68]
  | 94, 11 => [10]
  | 94, 12 => [0, 1, 5, 69, 70]
  | 94, 13 => [0, 1, 5, 69, 71, 72, 73, 74, 75, 76, 77, 78, 79, 80, 81, 82, 83, 84, 85, 86, 87]
  | 94, 14 => [11, 12, 88, 89]
  | 94, 15 => [16, 48, 91]
  | 94, 16 => [0, 1, 5, 90, 92, 93, 94, 95, 96, 97, 98]
  | 94, 17 => [13, 14, 99, 100]
  | 94, 18 => [0, 1, 5, 90, 101]
  | 95, 0 => [0, 1, 4]
  | 95, 1 => [7, 8, 9, 10, 11, 12, 13, 14, 15, 16, 17, 18, 19, 20, 21, 22, 23, 24, 25, 26]
  | 95, 2 => [2, 3, 27]
  | 95, 3 => [27]
  | 95, 4 => [28, 29, 30, 31]
  | 95, 6 => [32, 35, 36, 37, 38, 39, 40, 41, 42, 43, 44, 45]
  | 95, 7 => [6, 46]
  | 95, 8 => [2, 3, 5, 47]
  | 95, 5 => [33, 34, 47]
  | 95, 9 => [2, 3, 5, 32]
  | 96, 0 => [0, 2]
  | 96, 1 => [1, 3, 5, 6, 7, 8, 9]
  | 96, 2 => [4, 10, 11, 12]
  | 97, 0 => [2, 9]
  | 97, 2 => [14, 15, 16]
  | 97, 4 => [17, 20, 21]
  | 97, 5 => [0, 1, 3, 6, 10, 22, 23]
  | 97, 6 => [22, 24, 25, 26, 27, 28, 29, 30, 31, 32, 33, 34]
  | 97, 7 => [35]
  | 97, 8 => [0, 1, 3, 6, 10, 11, 36, 37, 38]
  | 97, 9 => [11, 36, 39, 40, 41, 42, 43, 44, 45, 46, 47, 48, 49, 50, 51, 52]
  | 97, 10 => [53]
  | 97, 11 => [0, 1, 3, 6, 10, 12, 13, 54, 55, 56]
  | 97, 12 => [12, 13, 54, 57]
  | 97, 3 => [18, 19]
  | 97, 13 => [0, 1, 3, 6, 10, 17, 58]
  | 98, 0 => [0, 2]
  | 98, 1 => [1, 3, 4, 5, 6]
  | 99, 0 => [0, 2]
  | 99, 1 => [1, 3]
  | 100, 0 => [0, 2]
  | 100, 1 => [1, 3, 4, 5]
  | 101, 0 => [5]
  | 101, 1 => [6, 7, 8, 9, 10]
  | 101, 2 => [4]
  | 101, 3 => [0, 1, 2, 3, 11, 12, 13]
  | 101, 4 => [0, 1, 3, 11, 14]
  | 101, 5 => [2, 15, 16]
  | 102, 0 => [0, 2, 3]
  | 103, 0 => [0]
  | 103, 1 => [6, 7, 8, 9]
  | 103, 2 => [1, 10]
  | 103, 4 => [14, 15, 16]
  | 103, 5 => [5, 17, 18, 19, 20, 21, 22, 23]
  | 103, 6 => [24]
  | 103, 7 => [11, 12, 13, 14, 25, 26, 27, 28, 29, 30]
  | 103, 8 => [3, 31]
  | 104, 0 => [1]
  | 104, 1 => [7, 8]
  | 104, 2 => [0, 2, 4, 9, 10]
  | 104, 3 => [9, 11]
  | 104, 4 => [14]
  | 104, 5 => [12, 13, 15, 16, 17, 18]
  | 104, 6 => [19, 20]
  | 104, 7 => [0, 2, 4, 19, 21, 22, 23, 24, 25, 26, 27, 28, 29, 30, 31, 32, 33]
  | 104, 8 => [0, 13, 35]
  | 104, 9 => [36]
  | 104, 10 => [12, 37]
  | 104, 11 => [2, 4, 12, 34, 38, 39, 40, 41, 42, 43, 44, 45, 46, 47]
  | 104, 12 => [2, 12, 34, 48]
  | 104, 13 => [4, 49]
  | 105, 0 => [0]
  | 105, 1 => [5, 6, 7, 8]
  | 105, 2 => [1, 2, 9, 10, 11, 12, 13, 14, 15, 16, 17, 18, 19, 20]
  | 105, 3 => [1, 2, 9, 21, 22, 23, 24, 25, 26, 27, 28, 29]
  | 106, 0 => [0, 6]
  | 106, 1 => [1, 2, 3, 7, 8, 9, 10, 11, 12, 13, 14, 15, 16, 17, 18, 19, 20, 21, 22, 23, 24]
  | 107, 0 => [0]
  | 107, 2 => [6]
  | 107, 4 => [10, 11, 12]
  | 107, 5 => [5, 13, 14, 15, 16, 17]
  | 107, 6 => [18]
  | 107, 7 => [1, 3, 7, 8, 9, 10, 19, 20, 21, 22, 23, 24]
  | 108, 0 => [0, 1, 2, 7]
  | 108, 1 => [11, 12]
  | 108, 2 => [13, 14]
  | 108, 3 => [15, 16, 17, 18, 19, 20, 21, 22, 23]
  | 108, 4 => [9, 15, 24]
  | 108, 5 => [3, 4, 5, 8, 25, 26]
  | 108, 6 => [4, 5, 25, 27, 28, 29, 30, 31, 32, 33]
  | 108, 7 => [9, 34]
  | 108, 8 => [3, 8, 10, 35, 36]
  | 108, 9 => [3, 8, 10, 35, 37, 38, 39, 40, 41]
  | 109, 0 => [0, 6, 7]
  | 109, 1 => [2, 8, 9, 10, 11, 12]
  | 109, 2 => [1, 3, 13, 14, 15, 16, 17]
  | 109, 3 => [1, 3, 13, 18]
  | 110, 0 => [0, 2]
  | 110, 1 => [5, 6, 7, 8, 9, 10, 11, 12, 13, 14, 15, 16, 17]
  | 110, 2 => [1, 18]
  | 110, 3 => [18]
  | 110, 4 => [19, 20, 21, 22]
  | 110, 6 => [23, 26, 27, 28, 29, 30, 31]
  | 110, 7 => [4, 32]
  | 110, 8 => [1, 3, 33]
  | 110, 5 => [24, 25, 33]
  | 110, 9 => [1, 3, 23]
  | 111, 0 => [1, 2]
  | 111, 1 => [11, 12, 13, 14, 15, 16, 17, 18]
  | 111, 2 => [19, 20, 21, 22]
  | 111, 3 => [0, 4, 5, 23, 24, 25]
  | 111, 4 => [23]
  | 111, 6 => [26, 27, 28, 29]
  | 111, 8 => [30, 33]
  | 111, 9 => [34, 35, 36]
  | 111, 10 => [37, 38, 39]
  | 111, 11 => [9, 37, 40, 41, 42, 43, 44, 45, 46, 47]
  | 111, 12 => [48, 49, 50, 51]
  | 111, 13 => [0, 4, 5, 7, 8, 10, 52, 53]
  | 111, 14 => [10, 52, 54, 55, 56, 57]
  | 111, 7 => [31, 32]
  | 111, 15 => [8, 30, 58, 59]
  | 111, 16 => [0, 4, 5, 7, 60, 61, 62, 63, 64, 65, 66, 67]
  | 111, 17 => [0, 4, 5, 7, 60, 68, 69, 70, 71, 72, 73]
  | 112, 0 => [1, 5]
  | 112, 1 => [7, 8]
  | 112, 2 => [6, 9, 10, 11, 12, 13, 14, 15, 16]
  | 112, 3 => [17, 18, 19, 20]
  | 112, 4 => [17, 21, 22, 23, 24]
  | 112, 5 => [0, 3, 25, 26, 27, 28, 29, 30]
  | 112, 6 => [0, 3, 25, 31]
  | 113, 0 => [0]
  | 113, 1 => [8, 9, 10, 11]
  | 113, 2 => [7, 12]
  | 113, 3 => [1, 2, 3, 13, 14, 15]
  | 113, 4 => [1, 2, 3, 13, 16, 17, 18, 19]
  | 114, 0 => [2, 7]
  | 114, 1 => [15, 16, 17, 18, 19, 20, 21]
  | 114, 2 => [0, 1, 5, 22, 23]
  | 114, 3 => [22, 24, 25, 26, 27, 28, 29, 30, 31]
  | 114, 4 => [32, 33, 34, 35, 36, 37]
  | 114, 5 => [0, 1, 5, 8, 38, 39]
  | 114, 6 => [38]
  | 114, 7 => [40, 41, 42, 43]
  | 114, 9 => [44, 47, 48, 49, 50, 51, 52, 53, 54, 55, 56, 57, 58, 59, 60, 61, 62]
  | 114, 10 => [63]
  | 114, 11 => [0, 1, 5, 8, 9, 10, 11, 64, 65, 66]
  | 114, 12 => [10, 11, 64, 67, 68, 69, 70, 71, 72, 73, 74, 75]
  | 114, 13 => [76]
  | 114, 14 => [0, 1, 5, 8, 9, 12, 77, 78, 79]
  | 114, 8 => [12, 45, 46, 77]
  | 114, 15 => [0, 1, 5, 8, 9, 44, 80, 81, 82, 83, 84, 85, 86, 87, 88, 89, 90]
  | 114, 16 => [13, 14, 91, 92]
  | 115, 0 => [0, 2]
  | 115, 2 => [5, 6, 7, 8, 9, 10, 11, 12]
  | 115, 3 => [13, 14, 15, 16, 17, 18, 19, 20]
  | 115, 4 => [21, 22, 23, 24]
  | 115, 5 => [1, 4, 13, 25, 26]
  | 116, 0 => [0]
  | 116, 1 => [5]
  | 116, 2 => [2, 6, 7, 8]
  | 116, 3 => [1, 4, 9]
  | 116, 4 => [1, 6, 10]
  | 117, 0 => [0, 1, 3, 4, 5]
  | 118, 0 => [0, 6]
  | 118, 1 => [10, 11, 12, 13]
  | 118, 2 => [1, 2, 3, 14]
  | 118, 3 => [14, 15]
  | 118, 5 => [19, 20, 21, 22]
  | 118, 6 => [23]
  | 118, 7 => [7, 24, 25, 26, 27, 28, 29, 30, 31, 32]
  | 118, 8 => [33, 34, 35]
  | 118, 9 => [8, 9, 33, 36, 37, 38, 39]
  | 118, 10 => [1, 2, 3, 16, 17, 18, 40]
  | 118, 11 => [40, 41]
  | 118, 12 => [1, 2, 3, 16, 17, 18, 19]
  | 119, 0 => [4, 5]
  | 119, 2 => [0]
  | 119, 4 => [14, 15, 16, 17]
  | 119, 5 => [7, 8, 18, 19, 20, 21, 22, 23, 24]
  | 119, 6 => [10, 25]
  | 119, 7 => [1, 6, 9, 11, 12, 13, 26]
  | 119, 8 => [9, 26, 27, 28, 29, 30]
  | 119, 9 => [31]
  | 119, 10 => [1, 6, 11, 12, 13, 14, 32]
  | 120, 0 => [1, 8]
  | 120, 1 => [2, 10]
  | 120, 2 => [0, 3, 11, 12, 13, 14, 15, 16, 17, 18, 19, 20, 21, 22, 23, 24, 25]
  | 120, 3 => [26, 27, 28]
  | 120, 4 => [4, 6, 9, 26, 29, 30, 31, 32, 33, 34]
  | 121, 1 => [5, 6, 7, 8]
  | 121, 2 => [0, 1, 9, 10, 11, 12, 13]
  | 121, 3 => [0, 1, 9, 14]
  | 122, 0 => [0]
  | 122, 1 => [5, 6, 7, 8]
  | 122, 3 => [9, 10, 11, 12]
  | 122, 5 => [13, 16, 17, 18, 19, 20, 21, 22, 23, 24, 25, 26]
  | 122, 4 => [14, 15]
  | 122, 6 => [1, 4, 13, 27, 28, 29, 30, 31, 32]
  | 122, 7 => [3, 33]
  | 123, 0 => [1]
  | 123, 1 => [9, 10, 11, 12, 13, 14, 15]
  | 123, 2 => [16, 17, 18, 19, 20]
  | 123, 3 => [7, 21]
  | 123, 4 => [0, 2, 4, 22, 23, 24]
  | 123, 5 => [22, 25, 26, 27, 28, 29, 30, 31, 32, 33, 34, 35]
  | 123, 6 => [36, 37, 38, 39]
  | 123, 7 => [0, 2, 4, 40, 41]
  | 123, 8 => [40, 42, 43]
  | 123, 9 => [16, 44, 45]
  | 123, 10 => [0, 2, 4, 46, 47]
  | 123, 11 => [46, 48, 49, 50, 51, 52, 53, 54, 55, 56, 57, 58, 59]
  | 123, 12 => [0, 2, 4, 60, 61, 62]
  | 123, 13 => [0, 60, 63, 64, 65]
  | 123, 14 => [2, 66, 67, 68]
  | 123, 15 => [4, 8, 69, 70, 71, 72, 73, 74]
  | 124, 0 => [0]
  | 124, 1 => [5, 6, 7, 8]
  | 124, 2 => [1, 2, 9, 10, 11, 12, 13, 14, 15, 16, 17, 18, 19, 20]
  | 124, 3 => [1, 2, 9, 21, 22, 23, 24, 25, 26, 27, 28, 29]
  | 125, 0 => [0, 6]
  | 125, 1 => [3, 8, 9]
  | 125, 2 => [1, 2, 7, 10, 11, 12, 13, 14, 15, 16, 17, 18, 19, 20, 21, 22, 23, 24, 25, 26]
  | 126, 0 => [0]
  | 126, 1 => [9, 10, 11, 12, 13]
  | 126, 2 => [14, 15, 16, 17, 18, 19, 20, 21]
  | 126, 3 => [22, 23, 24, 25, 26, 27]
  | 126, 4 => [22]
  | 126, 5 => [28, 29, 30, 31]
  | 126, 7 => [32, 35, 36, 37, 38, 39, 40, 41, 42, 43, 44, 45, 46, 47, 48, 49, 50, 51]
  | 126, 6 => [33, 34]
  | 126, 8 => [1, 2, 3, 7, 8, 32, 52]
  | 127, 0 => [0, 2]
  | 127, 1 => [1, 3]
  | 128, 0 => [0, 2]
  | 128, 1 => [1, 3, 4, 5, 6, 7, 8, 9, 10]
  | 129, 0 => [3, 4, 5, 6, 7, 8, 9, 10]
  | 129, 1 => [11, 12, 13, 14, 15, 16, 17, 18, 19, 20, 21]
  | 129, 2 => [22, 23, 24, 25, 26]
  | _, _ => []
def ordT : Nat → Nat → List Nat
  | 4, 18 => [0, 1, 2, 3, 4, 5, 6, 7, 8, 9, 10, 11, 12, 13, 14, 15, 16, 17, 18, 19]
  | 5, 3 => [1, 2, 3, 0, 4, 5]
  | 5, 4 => [1, 2, 3, 4, 5, 0, 6, 7]
  | 10, 14 => [0, 1, 2, 3, 4, 6, 7, 5, 8, 9]
  | 11, 8 => [0, 1, 2, 3, 4, 5, 6, 7, 8, 9, 10, 11, 12, 13, 14, 15]
  | 13, 6 => [0, 1, 2, 3, 4, 5, 6, 7, 8, 9]
  | 31, 7 => [0, 1, 2, 3, 4, 5, 6, 7, 8, 9]
  | 33, 3 => [0, 1, 2, 3, 4, 5, 6, 7]
  | 36, 3 => [0, 1, 2, 3, 4, 5, 6, 7]
  | 41, 11 => [0, 1, 2, 3, 4, 5, 6, 7, 8, 9, 10, 11, 12]
  | 43, 2 => [0, 1, 2, 3, 4, 6, 7, 8, 9, 10, 11, 12, 13, 5, 14, 15]
  | 43, 6 => [0, 1, 2, 3, 4, 5, 10, 6, 7, 8, 9, 11, 12]
  | 52, 1 => [0, 1, 2, 3, 4, 5, 6, 7, 8, 9, 10]
  | 63, 1 => [0, 1, 2, 3, 4, 5, 6, 7, 8, 9, 10, 11, 12, 13]
  | 65, 3 => [0, 1, 2, 3, 4, 5, 6, 7, 8, 9, 10, 11, 12, 13, 14, 16, 17, 15, 18, 19, 20, 21, 22]
  | 67, 9 => [0, 1, 2, 3, 4, 5, 6, 7, 8, 13, 9, 10, 11, 12, 14, 15]
  | 67, 11 => [0, 1, 2, 3, 4, 5, 6, 7, 8]
  | 68, 6 => [0, 1, 2, 3, 4, 5, 6, 7]
  | 70, 6 => [0, 1, 2, 3, 4, 5, 6, 7, 8, 15, 9, 10, 11, 12, 13, 14, 16, 17]
  | 72, 4 => [0, 1, 2, 3, 4, 5, 7, 8, 9, 10, 11, 12, 13, 14, 6, 15, 16]
  | 73, 5 => [0, 1, 2, 3, 4, 5, 7, 8, 9, 10, 6, 11, 12]
  | 73, 8 => [0, 1, 2, 3, 4, 5, 6, 7]
  | 73, 10 => [0, 1, 2, 3, 4, 5, 6, 7, 8, 9, 10]
  | 73, 13 => [0, 1, 2, 3, 4, 5, 6, 7, 8, 9, 10, 11, 12, 17, 13, 14, 15, 16, 18, 19]
  | 74, 1 => [0, 1, 2, 3, 4, 5, 6]
  | 74, 4 => [0, 1, 2, 3, 4, 5, 7, 8, 9, 10, 6, 11, 12]
  | 76, 6 => [0, 1, 2, 3, 4, 5, 6, 7]
  | 76, 9 => [0, 1, 2, 3, 4, 5, 6, 11, 7, 8, 9, 10, 12, 13]
  | 85, 11 => [0, 1, 2, 3, 4, 5, 6, 7, 8, 9]
  | 85, 15 => [0, 1, 2, 3, 5, 6, 4, 7, 8]
  | 93, 1 => [0, 1, 2, 3, 4, 5]
  | 94, 5 => [0, 1, 2, 3, 4, 5, 6, 7, 8, 9, 10, 11, 12, 13, 15, 16, 21, 14, 17, 18, 19, 20, 22, 23]
  | 94, 8 => [0, 1, 2, 3, 4, 5, 6, 7]
  | 94, 10 => [0, 1, 2, 3, 4, 5, 6, 7, 8, 9, 10]
  | 94, 13 => [0, 1, 2, 3, 4, 5, 6, 7, 8, 9, 10, 11, 12, 17, 13, 14, 15, 16, 18, 19]
  | 95, 6 => [0, 1, 2, 3, 4, 5, 6, 7, 8, 9, 10, 11]
  | 97, 6 => [0, 1, 2, 3, 4, 5, 6, 7, 8, 9, 10, 11]
  | 97, 9 => [0, 1, 2, 3, 4, 5, 6, 7, 8, 9, 14, 10, 11, 12, 13, 15, 16]
  | 103, 5 => [0, 1, 2, 3, 4, 5, 6, 7]
  | 104, 7 => [0, 1, 2, 3, 4, 5, 6, 7, 8, 10, 11, 9, 12, 13]
  | 104, 11 => [0, 1, 2, 3, 4, 5, 6, 7, 8, 9, 10]
  | 111, 11 => [0, 1, 2, 3, 4, 5, 6, 8, 7, 9]
  | 112, 5 => [0, 1, 2, 3, 4, 5, 6]
  | 114, 1 => [0, 1, 2, 3, 4, 5, 6, 7]
  | 114, 3 => [0, 1, 2, 3, 4, 5, 6, 7, 8, 9]
  | 114, 9 => [0, 1, 2, 3, 4, 5, 6, 7, 8, 9, 10, 11, 16, 12, 13, 14, 15, 17, 18]
  | 114, 12 => [0, 1, 2, 3, 4, 5, 6, 7, 8, 9]
  | 115, 5 => [0, 1, 2, 3]
  | 122, 5 => [0, 1, 2, 3, 4, 5, 6, 7, 8, 9, 10, 11]
  | 123, 5 => [0, 1, 2, 3, 4, 5, 6, 7, 8, 9, 10, 11]
  | 126, 7 => [0, 1, 2, 3, 4, 5, 6, 7, 8, 9, 10, 11, 12, 13, 14, 15, 16, 17]
  | 129, 1 => [0, 1, 2, 3, 4, 5, 6, 7, 8, 9, 10]
  | _, _ => []
def roT : Nat → Nat → Bool
  | 4, 18 => true
  | 5, 3 => true
  | 5, 4 => true
  | 10, 14 => true
  | 11, 8 => true
  | 13, 6 => true
  | 43, 2 => true
  | 52, 1 => true
  | 67, 11 => true
  | 68, 6 => true
  | 73, 8 => true
  | 73, 10 => true
  | 74, 1 => true
  | 76, 6 => true
  | 94, 8 => true
  | 94, 10 => true
  | 95, 6 => true
  | 114, 1 => true
  | _, _ => false
noncomputable def C : Cfg := { P := Tryz.prog, esc := escT, thr := [23, 25, 99, 127], clr := clrT', ord := ordT, ro := roT, ext := extT }
theorem C_P : C.P = Tryz.prog := rfl
theorem C_thr : C.thr = [23, 25, 99, 127] := rfl
theorem res_3 : Tryz.f3.results.toList = [.tmp 8] := rfl
theorem esc_3 : C.esc 3 = [] := rfl
theorem clr_3_0 : C.clr 3 0 = [3, 8] := rfl
theorem clr_3_1 : C.clr 3 1 = [21] := rfl
theorem clr_3_2 : C.clr 3 2 = [22, 23, 24] := rfl
theorem clr_3_3 : C.clr 3 3 = [25, 26] := rfl
theorem clr_3_4 : C.clr 3 4 = [27, 28] := rfl
theorem clr_3_5 : C.clr 3 5 = [10, 11, 12, 29, 30, 31, 32, 33, 34, 35, 36, 37, 38, 39, 40, 41] := rfl
theorem clr_3_6 : C.clr 3 6 = [0, 1, 2, 7, 9, 42, 43] := rfl
theorem clr_3_7 : C.clr 3 7 = [9, 42, 44, 45, 46, 47, 48] := rfl
theorem clr_3_8 : C.clr 3 8 = [7, 49, 50, 51, 52] := rfl
theorem clr_3_9 : C.clr 3 9 = [13, 15, 53, 54, 55, 56, 57, 58, 59] := rfl
theorem clr_3_10 : C.clr 3 10 = [14, 17, 60, 61, 62, 63, 64, 65, 66] := rfl
theorem clr_3_11 : C.clr 3 11 = [67, 68, 69, 70] := rfl
theorem clr_3_12 : C.clr 3 12 = [0, 71, 72, 73, 74] := rfl
theorem clr_3_13 : C.clr 3 13 = [1, 2, 16, 18, 19, 20, 75, 76, 77, 78, 79, 80, 81, 82, 83, 84, 85, 86, 87, 88, 89, 90, 91, 92, 93, 94, 95, 96] := rfl
theorem res_4 : Tryz.f4.results.toList = [.tmp 10] := rfl
theorem esc_4 : C.esc 4 = [] := rfl
theorem clr_4_0 : C.clr 4 0 = [10] := rfl
theorem clr_4_1 : C.clr 4 1 = [24] := rfl
theorem clr_4_2 : C.clr 4 2 = [25, 26, 27, 28] := rfl
theorem clr_4_3 : C.clr 4 3 = [29, 30] := rfl
theorem clr_4_4 : C.clr 4 4 = [31, 32] := rfl
theorem clr_4_5 : C.clr 4 5 = [12, 13, 14, 33, 34, 35, 36, 37, 38, 39, 40, 41, 42, 43, 44, 45] := rfl
theorem clr_4_6 : C.clr 4 6 = [0, 1, 2, 3, 4, 11, 46, 47] := rfl
theorem clr_4_7 : C.clr 4 7 = [11, 46, 48, 49, 50, 51, 52, 53] := rfl
theorem clr_4_8 : C.clr 4 8 = [54, 55, 56, 57, 58, 59] := rfl
theorem clr_4_9 : C.clr 4 9 = [60, 61] := rfl
theorem clr_4_10 : C.clr 4 10 = [62, 63] := rfl
theorem clr_4_11 : C.clr 4 11 = [64, 65] := rfl
theorem clr_4_12 : C.clr 4 12 = [66, 67] := rfl
theorem clr_4_13 : C.clr 4 13 = [68, 69, 70, 71, 72, 73, 74, 75, 76, 77, 78] := rfl
theorem clr_4_14 : C.clr 4 14 = [0, 1, 2, 3, 4, 15, 16, 17, 18, 19, 20, 21, 22, 79] := rfl
theorem clr_4_15 : C.clr 4 15 = [79] := rfl
theorem clr_4_16 : C.clr 4 16 = [80, 81, 82] := rfl
theorem clr_4_18 : C.clr 4 18 = [83, 86, 87, 88, 89, 90, 91, 92, 93, 94, 95, 96, 97, 98, 99, 100, 101, 102, 103, 104] := rfl
theorem ord_4_18 : C.ord 4 18 = [0, 1, 2, 3, 4, 5, 6, 7, 8, 9, 10, 11, 12, 13, 14, 15, 16, 17, 18, 19] := rfl
theorem ro_4_18 : C.ro 4 18 = true := rfl
theorem clr_4_19 : C.clr 4 19 = [0, 1, 2, 3, 4, 15, 16, 17, 18, 19, 20, 21, 22, 23, 105] := rfl
theorem clr_4_17 : C.clr 4 17 = [84, 85, 105] := rfl
theorem clr_4_20 : C.clr 4 20 = [0, 1, 2, 3, 4, 15, 16, 17, 18, 19, 20, 21, 22, 23, 83, 106, 107, 108, 109, 110, 111, 112, 113, 114, 115, 116, 117, 118, 119, 120, 121, 122, 123, 124, 125, 126, 127, 128] := rfl
theorem res_5 : Tryz.f5.results.toList = [.tmp 0] := rfl
theorem esc_5 : C.esc 5 = [] := rfl
theorem clr_5_0 : C.clr 5 0 = [0] := rfl
theorem clr_5_1 : C.clr 5 1 = [7, 8, 9] := rfl
theorem clr_5_2 : C.clr 5 2 = [10, 11, 12] := rfl
theorem clr_5_3 : C.clr 5 3 = [13, 14, 15, 16, 17] := rfl
theorem ord_5_3 : C.ord 5 3 = [1, 2, 3, 0, 4, 5] := rfl
theorem ro_5_3 : C.ro 5 3 = true := rfl
theorem clr_5_4 : C.clr 5 4 = [2, 18, 19, 20, 21, 22, 23, 24] := rfl
theorem ord_5_4 : C.ord 5 4 = [1, 2, 3, 4, 5, 0, 6, 7] := rfl
theorem ro_5_4 : C.ro 5 4 = true := rfl
theorem clr_5_5 : C.clr 5 5 = [5, 25, 26, 27, 28, 29, 30] := rfl
theorem clr_5_6 : C.clr 5 6 = [1, 3, 4, 6, 31, 32, 33, 34, 35, 36, 37, 38, 39, 40, 41, 42, 43, 44, 45, 46] := rfl
theorem res_6 : Tryz.f6.results.toList = [.tmp 6] := rfl
theorem esc_6 : C.esc 6 = [] := rfl
theorem clr_6_0 : C.clr 6 0 = [6] := rfl
theorem clr_6_1 : C.clr 6 1 = [0, 12, 13] := rfl
theorem clr_6_2 : C.clr 6 2 = [7, 14, 15, 16, 17, 18, 19] := rfl
theorem clr_6_3 : C.clr 6 3 = [1, 2, 20] := rfl
theorem clr_6_4 : C.clr 6 4 = [20] := rfl
theorem clr_6_5 : C.clr 6 5 = [21, 22, 23] := rfl
theorem clr_6_7 : C.clr 6 7 = [24, 27, 28, 29, 30, 31, 32] := rfl
theorem clr_6_8 : C.clr 6 8 = [33, 34, 35, 36, 37, 38] := rfl
theorem clr_6_9 : C.clr 6 9 = [9, 10, 39, 40, 41, 42, 43] := rfl
theorem clr_6_10 : C.clr 6 10 = [1, 2, 8, 44] := rfl
theorem clr_6_6 : C.clr 6 6 = [25, 26, 44] := rfl
theorem clr_6_11 : C.clr 6 11 = [1, 2, 8, 24, 45, 46] := rfl
theorem clr_6_12 : C.clr 6 12 = [11, 47] := rfl
theorem res_7 : Tryz.f7.results.toList = [.tmp 6] := rfl
theorem esc_7 : C.esc 7 = [] := rfl
theorem clr_7_0 : C.clr 7 0 = [6] := rfl
theorem clr_7_1 : C.clr 7 1 = [9, 10] := rfl
theorem clr_7_2 : C.clr 7 2 = [0, 1, 2, 11] := rfl
theorem clr_7_3 : C.clr 7 3 = [11] := rfl
theorem clr_7_4 : C.clr 7 4 = [12, 13, 14] := rfl
theorem clr_7_6 : C.clr 7 6 = [15, 18, 19, 20, 21, 22, 23, 24] := rfl
theorem clr_7_7 : C.clr 7 7 = [8, 25] := rfl
theorem clr_7_8 : C.clr 7 8 = [0, 1, 2, 7, 26] := rfl
theorem clr_7_5 : C.clr 7 5 = [16, 17, 26] := rfl
theorem clr_7_9 : C.clr 7 9 = [0, 1, 2, 7, 15] := rfl
theorem res_8 : Tryz.f8.results.toList = [.tmp 6] := rfl
theorem esc_8 : C.esc 8 = [] := rfl
theorem clr_8_0 : C.clr 8 0 = [0, 6] := rfl
theorem clr_8_1 : C.clr 8 1 = [8, 9] := rfl
theorem clr_8_2 : C.clr 8 2 = [1, 2, 3, 7, 10, 11, 12, 13, 14, 15, 16, 17, 18, 19, 20, 21, 22] := rfl
theorem res_9 : Tryz.f9.results.toList = [.cell 4 3, .cell 5 33] := rfl
theorem esc_9 : C.esc 9 = [2, 4, 5] := rfl
theorem clr_9_0 : C.clr 9 0 = [0] := rfl
theorem clr_9_1 : C.clr 9 1 = [9, 10] := rfl
theorem clr_9_2 : C.clr 9 2 = [1, 2, 11] := rfl
theorem clr_9_3 : C.clr 9 3 = [1, 11, 12] := rfl
theorem clr_9_4 : C.clr 9 4 = [13, 14] := rfl
theorem clr_9_5 : C.clr 9 5 = [15] := rfl
theorem clr_9_6 : C.clr 9 6 = [2, 7, 16, 17, 18, 19] := rfl
theorem clr_9_7 : C.clr 9 7 = [20] := rfl
theorem clr_9_8 : C.clr 9 8 = [6, 8, 21, 22, 23, 24] := rfl
theorem clr_9_9 : C.clr 9 9 = [2, 13] := rfl
theorem res_10 : Tryz.f10.results.toList = [.cell 10 33] := rfl
theorem esc_10 : C.esc 10 = [5, 6, 7, 8, 10] := rfl
theorem clr_10_0 : C.clr 10 0 = [0, 1, 2, 3] := rfl
theorem clr_10_1 : C.clr 10 1 = [18, 19, 20] := rfl
theorem clr_10_2 : C.clr 10 2 = [4, 5, 6, 7, 8, 17] := rfl
theorem clr_10_3 : C.clr 10 3 = [17, 22, 23, 24, 25, 26] := rfl
theorem clr_10_4 : C.clr 10 4 = [4, 5, 6, 7, 8, 21] := rfl
theorem clr_10_5 : C.clr 10 5 = [4, 21, 27] := rfl
theorem clr_10_6 : C.clr 10 6 = [28, 29] := rfl
theorem clr_10_7 : C.clr 10 7 = [30] := rfl
theorem clr_10_8 : C.clr 10 8 = [8, 31, 32, 33, 34, 35] := rfl
theorem clr_10_9 : C.clr 10 9 = [36, 37, 38, 39, 40, 41, 42] := rfl
theorem clr_10_10 : C.clr 10 10 = [43] := rfl
theorem clr_10_11 : C.clr 10 11 = [5, 6, 7, 11, 12, 13, 14, 15, 44, 45] := rfl
theorem clr_10_12 : C.clr 10 12 = [11, 44, 46, 47, 48, 49, 50, 51, 52, 53, 54, 55] := rfl
theorem clr_10_13 : C.clr 10 13 = [56] := rfl
theorem clr_10_14 : C.clr 10 14 = [5, 7, 14, 16, 57, 58, 59, 60, 61, 62, 63, 64, 65, 66] := rfl
theorem ord_10_14 : C.ord 10 14 = [0, 1, 2, 3, 4, 6, 7, 5, 8, 9] := rfl
theorem ro_10_14 : C.ro 10 14 = true := rfl
theorem clr_10_15 : C.clr 10 15 = [5, 6, 7, 12, 13, 14, 16, 57, 67, 68, 69, 70, 71, 72, 73, 74, 75, 76, 77] := rfl
theorem clr_10_16 : C.clr 10 16 = [78] := rfl
theorem clr_10_17 : C.clr 10 17 = [78, 79] := rfl
theorem clr_10_18 : C.clr 10 18 = [15, 80, 81] := rfl
theorem clr_10_19 : C.clr 10 19 = [5, 6, 7, 8, 28] := rfl
theorem res_11 : Tryz.f11.results.toList = [.tmp 10] := rfl
theorem esc_11 : C.esc 11 = [] := rfl
theorem clr_11_0 : C.clr 11 0 = [10] := rfl
theorem clr_11_1 : C.clr 11 1 = [13, 14] := rfl
theorem clr_11_2 : C.clr 11 2 = [0, 1, 2, 3, 4, 15] := rfl
theorem clr_11_3 : C.clr 11 3 = [15, 16, 17, 18, 19] := rfl
theorem clr_11_4 : C.clr 11 4 = [0, 1, 2, 3, 4, 20] := rfl
theorem clr_11_5 : C.clr 11 5 = [20] := rfl
theorem clr_11_6 : C.clr 11 6 = [21, 22, 23] := rfl
theorem clr_11_8 : C.clr 11 8 = [24, 27, 28, 29, 30, 31, 32, 33, 34, 35, 36, 37, 38, 39, 40, 41] := rfl
theorem ord_11_8 : C.ord 11 8 = [0, 1, 2, 3, 4, 5, 6, 7, 8, 9, 10, 11, 12, 13, 14, 15] := rfl
theorem ro_11_8 : C.ro 11 8 = true := rfl
theorem clr_11_9 : C.clr 11 9 = [42] := rfl
theorem clr_11_10 : C.clr 11 10 = [0, 1, 2, 3, 4, 11, 12, 43, 44] := rfl
theorem clr_11_7 : C.clr 11 7 = [12, 25, 26, 43] := rfl
theorem clr_11_11 : C.clr 11 11 = [0, 1, 2, 3, 4, 11, 24] := rfl
theorem res_12 : Tryz.f12.results.toList = [.tmp 2] := rfl
theorem esc_12 : C.esc 12 = [] := rfl
theorem clr_12_0 : C.clr 12 0 = [2] := rfl
theorem clr_12_1 : C.clr 12 1 = [0, 4, 5] := rfl
theorem clr_12_2 : C.clr 12 2 = [3, 6] := rfl
theorem res_13 : Tryz.f13.results.toList = [.tmp 4, .tmp 5] := rfl
theorem esc_13 : C.esc 13 = [] := rfl
theorem clr_13_0 : C.clr 13 0 = [4, 5] := rfl
theorem clr_13_1 : C.clr 13 1 = [8, 9] := rfl
theorem clr_13_2 : C.clr 13 2 = [0, 1, 10] := rfl
theorem clr_13_3 : C.clr 13 3 = [10] := rfl
theorem clr_13_4 : C.clr 13 4 = [11, 12, 13] := rfl
theorem clr_13_6 : C.clr 13 6 = [14, 17, 18, 19, 20, 21, 22, 23, 24, 25] := rfl
theorem ord_13_6 : C.ord 13 6 = [0, 1, 2, 3, 4, 5, 6, 7, 8, 9] := rfl
theorem ro_13_6 : C.ro 13 6 = true := rfl
theorem clr_13_7 : C.clr 13 7 = [26] := rfl
theorem clr_13_8 : C.clr 13 8 = [0, 1, 6, 7, 27, 28, 29] := rfl
theorem clr_13_5 : C.clr 13 5 = [7, 15, 16, 27] := rfl
theorem clr_13_9 : C.clr 13 9 = [0, 1, 6, 14] := rfl
theorem res_14 : Tryz.f14.results.toList = [.tmp 2] := rfl
theorem esc_14 : C.esc 14 = [] := rfl
theorem clr_14_0 : C.clr 14 0 = [2] := rfl
theorem clr_14_1 : C.clr 14 1 = [] := rfl
theorem clr_14_2 : C.clr 14 2 = [0] := rfl
theorem clr_14_3 : C.clr 14 3 = [] := rfl
theorem clr_14_4 : C.clr 14 4 = [9, 10, 11] := rfl
theorem clr_14_5 : C.clr 14 5 = [5, 12, 13, 14, 15, 16, 17] := rfl
theorem clr_14_6 : C.clr 14 6 = [18] := rfl
theorem clr_14_7 : C.clr 14 7 = [3, 6, 7, 8, 9, 19] := rfl
theorem res_15 : Tryz.f15.results.toList = [.tmp 2] := rfl
theorem esc_15 : C.esc 15 = [] := rfl
theorem clr_15_0 : C.clr 15 0 = [2] := rfl
theorem clr_15_1 : C.clr 15 1 = [] := rfl
theorem clr_15_2 : C.clr 15 2 = [] := rfl
theorem clr_15_3 : C.clr 15 3 = [5, 6, 7] := rfl
theorem clr_15_5 : C.clr 15 5 = [8, 11, 12, 13, 14, 15, 16, 17, 18, 19] := rfl
theorem clr_15_4 : C.clr 15 4 = [9, 10] := rfl
theorem clr_15_6 : C.clr 15 6 = [0, 3, 4, 8, 20] := rfl
theorem res_16 : Tryz.f16.results.toList = [.tmp 2] := rfl
theorem esc_16 : C.esc 16 = [] := rfl
theorem clr_16_0 : C.clr 16 0 = [2] := rfl
theorem clr_16_1 : C.clr 16 1 = [] := rfl
theorem clr_16_2 : C.clr 16 2 = [0] := rfl
theorem clr_16_3 : C.clr 16 3 = [] := rfl
theorem clr_16_4 : C.clr 16 4 = [9, 10, 11] := rfl
theorem clr_16_5 : C.clr 16 5 = [5, 12, 13, 14, 15, 16] := rfl
theorem clr_16_6 : C.clr 16 6 = [17] := rfl
theorem clr_16_7 : C.clr 16 7 = [3, 6, 7, 8, 9, 18] := rfl
theorem res_17 : Tryz.f17.results.toList = [.tmp 2] := rfl
theorem esc_17 : C.esc 17 = [] := rfl
theorem clr_17_0 : C.clr 17 0 = [2] := rfl
theorem clr_17_1 : C.clr 17 1 = [] := rfl
theorem clr_17_2 : C.clr 17 2 = [] := rfl
theorem clr_17_3 : C.clr 17 3 = [5, 6, 7] := rfl
theorem clr_17_5 : C.clr 17 5 = [8, 11, 12, 13, 14, 15, 16, 17, 18] := rfl
theorem clr_17_4 : C.clr 17 4 = [9, 10] := rfl
theorem clr_17_6 : C.clr 17 6 = [0, 3, 4, 8, 19] := rfl
theorem res_18 : Tryz.f18.results.toList = [.tmp 0] := rfl
theorem esc_18 : C.esc 18 = [] := rfl
theorem clr_18_0 : C.clr 18 0 = [0] := rfl
theorem clr_18_1 : C.clr 18 1 = [2] := rfl
theorem clr_18_2 : C.clr 18 2 = [1, 3, 4, 5, 6, 7, 8, 9, 10, 11] := rfl
theorem res_19 : Tryz.f19.results.toList = [.tmp 2] := rfl
theorem esc_19 : C.esc 19 = [] := rfl
theorem clr_19_0 : C.clr 19 0 = [2] := rfl
theorem clr_19_1 : C.clr 19 1 = [5, 6] := rfl
theorem clr_19_2 : C.clr 19 2 = [0, 7] := rfl
theorem clr_19_3 : C.clr 19 3 = [7] := rfl
theorem clr_19_4 : C.clr 19 4 = [8, 9, 10] := rfl
theorem clr_19_6 : C.clr 19 6 = [11, 14, 15, 16, 17, 18, 19] := rfl
theorem clr_19_7 : C.clr 19 7 = [4, 20] := rfl
theorem clr_19_8 : C.clr 19 8 = [0, 3, 21] := rfl
theorem clr_19_5 : C.clr 19 5 = [12, 13, 21] := rfl
theorem clr_19_9 : C.clr 19 9 = [0, 3, 11] := rfl
theorem res_20 : Tryz.f20.results.toList = [.tmp 2] := rfl
theorem esc_20 : C.esc 20 = [] := rfl
theorem clr_20_0 : C.clr 20 0 = [0, 2] := rfl
theorem clr_20_1 : C.clr 20 1 = [5, 6] := rfl
theorem clr_20_2 : C.clr 20 2 = [1, 7] := rfl
theorem clr_20_3 : C.clr 20 3 = [7] := rfl
theorem clr_20_4 : C.clr 20 4 = [8, 9, 10, 11] := rfl
theorem clr_20_6 : C.clr 20 6 = [12, 15, 16, 17, 18, 19, 20] := rfl
theorem clr_20_7 : C.clr 20 7 = [4, 21] := rfl
theorem clr_20_8 : C.clr 20 8 = [1, 3, 22] := rfl
theorem clr_20_5 : C.clr 20 5 = [13, 14, 22] := rfl
theorem clr_20_9 : C.clr 20 9 = [1, 3, 12] := rfl
theorem res_21 : Tryz.f21.results.toList = [.tmp 2] := rfl
theorem esc_21 : C.esc 21 = [] := rfl
theorem clr_21_0 : C.clr 21 0 = [0, 2] := rfl
theorem clr_21_1 : C.clr 21 1 = [] := rfl
theorem clr_21_2 : C.clr 21 2 = [] := rfl
theorem clr_21_3 : C.clr 21 3 = [5, 6, 7, 8] := rfl
theorem clr_21_5 : C.clr 21 5 = [9, 12, 13, 14, 15, 16, 17, 18, 19] := rfl
theorem clr_21_4 : C.clr 21 4 = [10, 11] := rfl
theorem clr_21_6 : C.clr 21 6 = [1, 3, 4, 9, 20] := rfl
theorem res_22 : Tryz.f22.results.toList = [.tmp 2] := rfl
theorem esc_22 : C.esc 22 = [] := rfl
theorem clr_22_0 : C.clr 22 0 = [0, 2] := rfl
theorem clr_22_1 : C.clr 22 1 = [] := rfl
theorem clr_22_2 : C.clr 22 2 = [] := rfl
theorem clr_22_3 : C.clr 22 3 = [6, 7, 8, 9] := rfl
theorem clr_22_5 : C.clr 22 5 = [10, 13, 14, 15, 16, 17, 18] := rfl
theorem clr_22_6 : C.clr 22 6 = [19, 20] := rfl
theorem clr_22_7 : C.clr 22 7 = [5, 21, 22] := rfl
theorem clr_22_4 : C.clr 22 4 = [5, 11, 12, 21] := rfl
theorem clr_22_8 : C.clr 22 8 = [1, 3, 4, 10, 23, 24] := rfl
theorem res_23 : Tryz.f23.results.toList = [.tmp 2] := rfl
theorem esc_23 : C.esc 23 = [1] := rfl
theorem clr_23_0 : C.clr 23 0 = [0, 2] := rfl
theorem clr_23_1 : C.clr 23 1 = [1, 3] := rfl
theorem res_24 : Tryz.f24.results.toList = [.tmp 6] := rfl
theorem esc_24 : C.esc 24 = [] := rfl
theorem clr_24_0 : C.clr 24 0 = [2, 6] := rfl
theorem clr_24_1 : C.clr 24 1 = [8, 9, 10, 11, 12] := rfl
theorem clr_24_2 : C.clr 24 2 = [13] := rfl
theorem clr_24_3 : C.clr 24 3 = [0, 1, 5, 7, 14, 15] := rfl
theorem clr_24_4 : C.clr 24 4 = [7, 14, 16, 17, 18, 19, 20, 21, 22, 23, 24, 25, 26, 27, 28] := rfl
theorem clr_24_5 : C.clr 24 5 = [0, 1, 5, 29] := rfl
theorem clr_24_6 : C.clr 24 6 = [0, 1, 5, 29, 30, 31, 32, 33, 34, 35, 36] := rfl
theorem res_25 : Tryz.f25.results.toList = [.tmp 2] := rfl
theorem esc_25 : C.esc 25 = [1] := rfl
theorem clr_25_0 : C.clr 25 0 = [0, 2] := rfl
theorem clr_25_1 : C.clr 25 1 = [1, 3] := rfl
theorem res_26 : Tryz.f26.results.toList = [.tmp 6, .tmp 7] := rfl
theorem esc_26 : C.esc 26 = [4, 5] := rfl
theorem clr_26_0 : C.clr 26 0 = [1, 2, 6, 7] := rfl
theorem clr_26_1 : C.clr 26 1 = [0, 4, 5, 8, 9, 10, 11, 12] := rfl
theorem res_27 : Tryz.f27.results.toList = [.cell 6 26, .tmp 7] := rfl
theorem esc_27 : C.esc 27 = [] := rfl
theorem clr_27_0 : C.clr 27 0 = [0, 7] := rfl
theorem clr_27_1 : C.clr 27 1 = [10, 11, 12, 13, 14, 15, 16, 17, 18, 19, 20, 21, 22, 23, 24, 25, 26, 27] := rfl
theorem clr_27_2 : C.clr 27 2 = [1, 2, 3, 28, 29] := rfl
theorem clr_27_3 : C.clr 27 3 = [1, 2, 3, 28, 30, 31, 32, 33, 34, 35, 36] := rfl
theorem clr_27_4 : C.clr 27 4 = [38, 39] := rfl
theorem clr_27_5 : C.clr 27 5 = [8, 9, 37, 40, 41] := rfl
theorem clr_27_6 : C.clr 27 6 = [9, 37, 43, 44] := rfl
theorem clr_27_7 : C.clr 27 7 = [8, 42, 45] := rfl
theorem clr_27_8 : C.clr 27 8 = [8, 42, 46] := rfl
theorem res_28 : Tryz.f28.results.toList = [.tmp 10] := rfl
theorem esc_28 : C.esc 28 = [] := rfl
theorem clr_28_0 : C.clr 28 0 = [3, 4, 10] := rfl
theorem clr_28_1 : C.clr 28 1 = [0, 1, 2, 12, 13, 14, 15] := rfl
theorem clr_28_2 : C.clr 28 2 = [16, 17, 18, 19, 20] := rfl
theorem clr_28_3 : C.clr 28 3 = [8, 9, 11, 21] := rfl
theorem clr_28_4 : C.clr 28 4 = [8, 9, 11, 21, 22, 23, 24, 25] := rfl
theorem res_29 : Tryz.f29.results.toList = [.tmp 2] := rfl
theorem esc_29 : C.esc 29 = [] := rfl
theorem clr_29_0 : C.clr 29 0 = [2] := rfl
theorem clr_29_1 : C.clr 29 1 = [] := rfl
theorem clr_29_2 : C.clr 29 2 = [] := rfl
theorem clr_29_3 : C.clr 29 3 = [] := rfl
theorem clr_29_4 : C.clr 29 4 = [12, 13, 14] := rfl
theorem clr_29_5 : C.clr 29 5 = [5, 15, 16, 17, 18] := rfl
theorem clr_29_6 : C.clr 29 6 = [19] := rfl
theorem clr_29_7 : C.clr 29 7 = [20, 21] := rfl
theorem clr_29_8 : C.clr 29 8 = [20, 22] := rfl
theorem clr_29_9 : C.clr 29 9 = [3, 9, 10, 11, 12, 23, 24] := rfl
theorem clr_29_10 : C.clr 29 10 = [0] := rfl
theorem clr_29_11 : C.clr 29 11 = [] := rfl
theorem clr_29_12 : C.clr 29 12 = [28, 29, 30] := rfl
theorem clr_29_13 : C.clr 29 13 = [8, 31, 32, 33] := rfl
theorem clr_29_14 : C.clr 29 14 = [34] := rfl
theorem clr_29_15 : C.clr 29 15 = [6, 25, 26, 27, 28, 35] := rfl
theorem res_30 : Tryz.f30.results.toList = [.tmp 4] := rfl
theorem esc_30 : C.esc 30 = [] := rfl
theorem clr_30_0 : C.clr 30 0 = [0, 4] := rfl
theorem clr_30_1 : C.clr 30 1 = [5, 6] := rfl
theorem clr_30_2 : C.clr 30 2 = [1, 2, 7, 8, 9, 10, 11, 12, 13, 14, 15, 16, 17, 18, 19, 20] := rfl
theorem clr_30_3 : C.clr 30 3 = [1, 2, 7, 21, 22, 23, 24, 25, 26, 27, 28, 29] := rfl
theorem res_31 : Tryz.f31.results.toList = [.tmp 12] := rfl
theorem esc_31 : C.esc 31 = [] := rfl
theorem clr_31_0 : C.clr 31 0 = [3, 5, 12] := rfl
theorem clr_31_1 : C.clr 31 1 = [19, 20, 21, 22, 23, 24, 25] := rfl
theorem clr_31_2 : C.clr 31 2 = [26] := rfl
theorem clr_31_3 : C.clr 31 3 = [0, 1, 2, 4, 9, 11, 13, 14, 27, 28] := rfl
theorem clr_31_4 : C.clr 31 4 = [4, 14, 27, 29, 30, 31, 32, 33, 34, 35, 36, 37, 38] := rfl
theorem clr_31_5 : C.clr 31 5 = [39] := rfl
theorem clr_31_6 : C.clr 31 6 = [0, 1, 2, 9, 11, 13, 15, 16, 40, 41] := rfl
theorem clr_31_7 : C.clr 31 7 = [0, 2, 13, 15, 16, 40, 42, 43, 44, 45, 46, 47, 48, 49, 50] := rfl
theorem ord_31_7 : C.ord 31 7 = [0, 1, 2, 3, 4, 5, 6, 7, 8, 9] := rfl
theorem ro_31_7 : C.ro 31 7 = false := rfl
theorem clr_31_8 : C.clr 31 8 = [51] := rfl
theorem clr_31_9 : C.clr 31 9 = [1, 9, 11, 17, 52, 53] := rfl
theorem clr_31_10 : C.clr 31 10 = [1, 11, 17, 52, 54, 55, 56] := rfl
theorem clr_31_11 : C.clr 31 11 = [9, 18, 57, 58, 59, 60, 61] := rfl
theorem clr_31_12 : C.clr 31 12 = [62] := rfl
theorem clr_31_13 : C.clr 31 13 = [62] := rfl
theorem res_32 : Tryz.f32.results.toList = [.tmp 6] := rfl
theorem esc_32 : C.esc 32 = [] := rfl
theorem clr_32_0 : C.clr 32 0 = [2, 6] := rfl
theorem clr_32_1 : C.clr 32 1 = [8, 9, 10, 11, 12] := rfl
theorem clr_32_2 : C.clr 32 2 = [13] := rfl
theorem clr_32_3 : C.clr 32 3 = [0, 1, 5, 7, 14, 15] := rfl
theorem clr_32_4 : C.clr 32 4 = [7, 14, 16, 17, 18, 19, 20, 21, 22, 23, 24, 25, 26, 27, 28] := rfl
theorem clr_32_5 : C.clr 32 5 = [0, 1, 5, 29] := rfl
theorem clr_32_6 : C.clr 32 6 = [0, 1, 5, 29, 30, 31, 32, 33, 34, 35, 36] := rfl
theorem res_33 : Tryz.f33.results.toList = [] := rfl
theorem esc_33 : C.esc 33 = [] := rfl
theorem clr_33_0 : C.clr 33 0 = [] := rfl
theorem clr_33_1 : C.clr 33 1 = [] := rfl
theorem clr_33_2 : C.clr 33 2 = [8, 9, 10, 11] := rfl
theorem clr_33_3 : C.clr 33 3 = [3, 4, 12, 13, 14, 15, 16, 17, 18] := rfl
theorem ord_33_3 : C.ord 33 3 = [0, 1, 2, 3, 4, 5, 6, 7] := rfl
theorem ro_33_3 : C.ro 33 3 = false := rfl
theorem clr_33_4 : C.clr 33 4 = [19, 20] := rfl
theorem res_34 : Tryz.f34.results.toList = [.tmp 8] := rfl
theorem esc_34 : C.esc 34 = [4, 5, 6, 9] := rfl
theorem clr_34_0 : C.clr 34 0 = [0, 1, 2, 8] := rfl
theorem clr_34_1 : C.clr 34 1 = [12, 13, 14, 15] := rfl
theorem clr_34_2 : C.clr 34 2 = [3, 4, 5, 6, 9, 10, 16, 17, 18, 19, 20, 21] := rfl
theorem clr_34_3 : C.clr 34 3 = [11, 22] := rfl
theorem res_35 : Tryz.f35.results.toList = [.tmp 8] := rfl
theorem esc_35 : C.esc 35 = [] := rfl
theorem clr_35_0 : C.clr 35 0 = [3, 8] := rfl
theorem clr_35_1 : C.clr 35 1 = [0, 1, 2, 10, 11, 12, 13] := rfl
theorem clr_35_2 : C.clr 35 2 = [14, 15, 16, 17] := rfl
theorem clr_35_3 : C.clr 35 3 = [7, 9, 18] := rfl
theorem clr_35_4 : C.clr 35 4 = [7, 9, 18, 19, 20, 21] := rfl
theorem res_36 : Tryz.f36.results.toList = [] := rfl
theorem esc_36 : C.esc 36 = [] := rfl
theorem clr_36_0 : C.clr 36 0 = [] := rfl
theorem clr_36_1 : C.clr 36 1 = [] := rfl
theorem clr_36_2 : C.clr 36 2 = [8, 9, 10, 11] := rfl
theorem clr_36_3 : C.clr 36 3 = [3, 4, 12, 13, 14, 15, 16, 17, 18] := rfl
theorem ord_36_3 : C.ord 36 3 = [0, 1, 2, 3, 4, 5, 6, 7] := rfl
theorem ro_36_3 : C.ro 36 3 = false := rfl
theorem clr_36_4 : C.clr 36 4 = [19, 20] := rfl
theorem res_37 : Tryz.f37.results.toList = [.tmp 4, .tmp 5] := rfl
theorem esc_37 : C.esc 37 = [] := rfl
theorem clr_37_0 : C.clr 37 0 = [4, 5] := rfl
theorem clr_37_1 : C.clr 37 1 = [] := rfl
theorem clr_37_2 : C.clr 37 2 = [0] := rfl
theorem clr_37_3 : C.clr 37 3 = [] := rfl
theorem clr_37_4 : C.clr 37 4 = [14, 15, 16, 17] := rfl
theorem clr_37_5 : C.clr 37 5 = [7, 8, 18, 19, 20, 21, 22, 23, 24] := rfl
theorem clr_37_6 : C.clr 37 6 = [25] := rfl
theorem clr_37_7 : C.clr 37 7 = [1, 6, 9, 10, 11, 12, 13, 26, 27] := rfl
theorem clr_37_8 : C.clr 37 8 = [9, 10, 26, 28, 29, 30, 31] := rfl
theorem clr_37_9 : C.clr 37 9 = [32] := rfl
theorem clr_37_10 : C.clr 37 10 = [1, 6, 11, 12, 13, 14, 33] := rfl
theorem res_38 : Tryz.f38.results.toList = [.cell 6 26, .tmp 7] := rfl
theorem esc_38 : C.esc 38 = [] := rfl
theorem clr_38_0 : C.clr 38 0 = [1, 7] := rfl
theorem clr_38_1 : C.clr 38 1 = [0, 2, 3, 5, 8, 9, 10, 11, 12, 13, 14, 15] := rfl
theorem res_39 : Tryz.f39.results.toList = [.tmp 2] := rfl
theorem esc_39 : C.esc 39 = [] := rfl
theorem clr_39_0 : C.clr 39 0 = [0, 2] := rfl
theorem clr_39_1 : C.clr 39 1 = [1, 3, 4, 5] := rfl
theorem res_40 : Tryz.f40.results.toList = [.tmp 4] := rfl
theorem esc_40 : C.esc 40 = [] := rfl
theorem clr_40_0 : C.clr 40 0 = [4] := rfl
theorem clr_40_1 : C.clr 40 1 = [0, 1, 5, 6, 7, 8] := rfl
theorem res_41 : Tryz.f41.results.toList = [.cell 6 26, .tmp 7] := rfl
theorem esc_41 : C.esc 41 = [3, 4, 5, 8] := rfl
theorem clr_41_0 : C.clr 41 0 = [0, 1, 2, 7] := rfl
theorem clr_41_1 : C.clr 41 1 = [11, 12, 13, 14, 15, 16, 17, 18] := rfl
theorem clr_41_2 : C.clr 41 2 = [8, 19, 20, 21, 22, 23, 24, 25] := rfl
theorem clr_41_3 : C.clr 41 3 = [27, 28] := rfl
theorem clr_41_4 : C.clr 41 4 = [3, 4, 5, 9, 10, 26, 29, 30] := rfl
theorem clr_41_5 : C.clr 41 5 = [10, 26, 32, 33, 34] := rfl
theorem clr_41_6 : C.clr 41 6 = [3, 4, 5, 9, 31, 35, 36, 37, 38, 39, 40] := rfl
theorem clr_41_7 : C.clr 41 7 = [31, 42, 43, 44, 45, 46] := rfl
theorem clr_41_8 : C.clr 41 8 = [3, 4, 5, 9, 41, 47] := rfl
theorem clr_41_9 : C.clr 41 9 = [41, 49, 50] := rfl
theorem clr_41_10 : C.clr 41 10 = [3, 4, 5, 9, 48, 51] := rfl
theorem clr_41_11 : C.clr 41 11 = [3, 4, 5, 9, 48, 52, 53, 54, 55, 56, 57, 58, 59, 60, 61, 62] := rfl
theorem ord_41_11 : C.ord 41 11 = [0, 1, 2, 3, 4, 5, 6, 7, 8, 9, 10, 11, 12] := rfl
theorem ro_41_11 : C.ro 41 11 = false := rfl
theorem res_42 : Tryz.f42.results.toList = [.tmp 4] := rfl
theorem esc_42 : C.esc 42 = [5] := rfl
theorem clr_42_0 : C.clr 42 0 = [0, 4] := rfl
theorem clr_42_1 : C.clr 42 1 = [] := rfl
theorem clr_42_2 : C.clr 42 2 = [1, 7, 8, 9, 10, 11, 12, 13, 14, 15, 16, 17, 18, 19, 20] := rfl
theorem clr_42_3 : C.clr 42 3 = [2, 5, 21] := rfl
theorem clr_42_4 : C.clr 42 4 = [21, 22] := rfl
theorem clr_42_5 : C.clr 42 5 = [2, 5, 6, 23, 24, 25, 26, 27, 28, 29, 30, 31, 32, 33, 34] := rfl
theorem res_43 : Tryz.f43.results.toList = [.tmp 6] := rfl
theorem esc_43 : C.esc 43 = [] := rfl
theorem clr_43_0 : C.clr 43 0 = [0, 1, 2, 6] := rfl
theorem clr_43_1 : C.clr 43 1 = [11, 12, 13, 14, 15, 16, 17, 18] := rfl
theorem clr_43_2 : C.clr 43 2 = [3, 4, 5, 10, 19, 20, 21, 22, 23, 24, 25, 26, 27, 28, 29, 30, 31, 32, 33] := rfl
theorem ord_43_2 : C.ord 43 2 = [0, 1, 2, 3, 4, 6, 7, 8, 9, 10, 11, 12, 13, 5, 14, 15] := rfl
theorem ro_43_2 : C.ro 43 2 = true := rfl
theorem clr_43_3 : C.clr 43 3 = [10, 35, 36, 37, 38, 39, 40, 41, 42] := rfl
theorem clr_43_4 : C.clr 43 4 = [3, 4, 5, 34] := rfl
theorem clr_43_5 : C.clr 43 5 = [34, 43] := rfl
theorem clr_43_6 : C.clr 43 6 = [3, 4, 7, 44, 45, 46, 47, 48, 49, 50, 51, 52, 53] := rfl
theorem ord_43_6 : C.ord 43 6 = [0, 1, 2, 3, 4, 5, 10, 6, 7, 8, 9, 11, 12] := rfl
theorem ro_43_6 : C.ro 43 6 = false := rfl
theorem clr_43_7 : C.clr 43 7 = [5, 8, 54, 55, 56, 57, 58, 59, 60] := rfl
theorem clr_43_8 : C.clr 43 8 = [61] := rfl
theorem clr_43_9 : C.clr 43 9 = [9, 61, 62] := rfl
theorem res_44 : Tryz.f44.results.toList = [.tmp 4] := rfl
theorem esc_44 : C.esc 44 = [] := rfl
theorem clr_44_0 : C.clr 44 0 = [4] := rfl
theorem clr_44_1 : C.clr 44 1 = [5] := rfl
theorem clr_44_2 : C.clr 44 2 = [6, 7] := rfl
theorem clr_44_3 : C.clr 44 3 = [6, 8, 9, 10, 11, 12, 13, 14] := rfl
theorem clr_44_4 : C.clr 44 4 = [15] := rfl
theorem clr_44_5 : C.clr 44 5 = [1, 16, 17, 18, 19, 20, 21, 22, 23, 24, 25] := rfl
theorem clr_44_6 : C.clr 44 6 = [0, 1, 16, 26] := rfl
theorem res_45 : Tryz.f45.results.toList = [.tmp 6, .tmp 7] := rfl
theorem esc_45 : C.esc 45 = [] := rfl
theorem clr_45_0 : C.clr 45 0 = [6, 7] := rfl
theorem clr_45_1 : C.clr 45 1 = [] := rfl
theorem clr_45_2 : C.clr 45 2 = [] := rfl
theorem clr_45_3 : C.clr 45 3 = [12, 13, 14] := rfl
theorem clr_45_5 : C.clr 45 5 = [15, 18, 19, 20, 21, 22, 23, 24, 25, 26, 27, 28, 29] := rfl
theorem clr_45_6 : C.clr 45 6 = [30] := rfl
theorem clr_45_7 : C.clr 45 7 = [0, 1, 2, 8, 9, 10, 11, 31, 32] := rfl
theorem clr_45_8 : C.clr 45 8 = [10, 11, 31, 33, 34, 35, 36] := rfl
theorem clr_45_4 : C.clr 45 4 = [16, 17] := rfl
theorem clr_45_9 : C.clr 45 9 = [0, 1, 2, 8, 9, 15, 37] := rfl
theorem res_46 : Tryz.f46.results.toList = [.cell 6 26, .tmp 7] := rfl
theorem esc_46 : C.esc 46 = [] := rfl
theorem clr_46_0 : C.clr 46 0 = [0, 7] := rfl
theorem clr_46_1 : C.clr 46 1 = [14, 15] := rfl
theorem clr_46_2 : C.clr 46 2 = [8, 16, 17, 18, 19, 20, 21, 22, 23, 24, 25, 26, 27, 28, 29] := rfl
theorem clr_46_3 : C.clr 46 3 = [1, 2, 3, 30, 31] := rfl
theorem clr_46_4 : C.clr 46 4 = [30] := rfl
theorem clr_46_5 : C.clr 46 5 = [32, 33, 34] := rfl
theorem clr_46_7 : C.clr 46 7 = [35, 38, 39, 40, 41, 42] := rfl
theorem clr_46_8 : C.clr 46 8 = [10, 43] := rfl
theorem clr_46_9 : C.clr 46 9 = [1, 2, 3, 9, 44, 45] := rfl
theorem clr_46_6 : C.clr 46 6 = [36, 37, 44] := rfl
theorem clr_46_10 : C.clr 46 10 = [1, 2, 3, 9, 35, 46, 47, 48, 49, 50, 51, 52] := rfl
theorem clr_46_11 : C.clr 46 11 = [53] := rfl
theorem clr_46_12 : C.clr 46 12 = [11, 12, 54, 55, 56] := rfl
theorem clr_46_13 : C.clr 46 13 = [12, 54, 57, 58] := rfl
theorem clr_46_14 : C.clr 46 14 = [13, 59] := rfl
theorem clr_46_15 : C.clr 46 15 = [11, 60, 61] := rfl
theorem clr_46_16 : C.clr 46 16 = [11, 60, 62] := rfl
theorem res_47 : Tryz.f47.results.toList = [.tmp 10] := rfl
theorem esc_47 : C.esc 47 = [25] := rfl
theorem clr_47_0 : C.clr 47 0 = [3, 4, 10] := rfl
theorem clr_47_1 : C.clr 47 1 = [13, 14, 15, 16, 17, 18, 19] := rfl
theorem clr_47_2 : C.clr 47 2 = [11, 20] := rfl
theorem clr_47_3 : C.clr 47 3 = [0, 1, 2, 8, 9, 21] := rfl
theorem clr_47_4 : C.clr 47 4 = [0, 1, 21, 22, 23, 24] := rfl
theorem clr_47_5 : C.clr 47 5 = [2, 8, 9, 12, 25, 26, 27, 28, 29, 30] := rfl
theorem res_48 : Tryz.f48.results.toList = [.tmp 4] := rfl
theorem esc_48 : C.esc 48 = [] := rfl
theorem clr_48_0 : C.clr 48 0 = [0, 4] := rfl
theorem clr_48_1 : C.clr 48 1 = [5, 6] := rfl
theorem clr_48_2 : C.clr 48 2 = [1, 2, 7, 8, 9, 10, 11, 12, 13, 14, 15, 16, 17, 18, 19, 20] := rfl
theorem clr_48_3 : C.clr 48 3 = [1, 2, 7, 21, 22, 23, 24, 25, 26, 27, 28, 29] := rfl
theorem res_49 : Tryz.f49.results.toList = [.tmp 8] := rfl
theorem esc_49 : C.esc 49 = [] := rfl
theorem clr_49_0 : C.clr 49 0 = [8] := rfl
theorem clr_49_1 : C.clr 49 1 = [12, 13] := rfl
theorem clr_49_2 : C.clr 49 2 = [0, 1, 2, 3, 14] := rfl
theorem clr_49_3 : C.clr 49 3 = [2, 14, 15, 16] := rfl
theorem clr_49_4 : C.clr 49 4 = [] := rfl
theorem clr_49_5 : C.clr 49 5 = [17, 18, 19] := rfl
theorem clr_49_7 : C.clr 49 7 = [20, 23, 24, 25, 26, 27, 28, 29, 30] := rfl
theorem clr_49_8 : C.clr 49 8 = [31] := rfl
theorem clr_49_9 : C.clr 49 9 = [0, 1, 3, 9, 10, 11, 32, 33] := rfl
theorem clr_49_10 : C.clr 49 10 = [11, 32, 34, 35, 36, 37, 38, 39, 40] := rfl
theorem clr_49_6 : C.clr 49 6 = [21, 22] := rfl
theorem clr_49_11 : C.clr 49 11 = [0, 1, 3, 9, 10, 20] := rfl
theorem res_50 : Tryz.f50.results.toList = [.tmp 8] := rfl
theorem esc_50 : C.esc 50 = [22] := rfl
theorem clr_50_0 : C.clr 50 0 = [3, 8] := rfl
theorem clr_50_1 : C.clr 50 1 = [11, 12, 13, 14, 15, 16] := rfl
theorem clr_50_2 : C.clr 50 2 = [9, 17] := rfl
theorem clr_50_3 : C.clr 50 3 = [0, 1, 2, 7, 18] := rfl
theorem clr_50_4 : C.clr 50 4 = [0, 1, 18, 19, 20, 21] := rfl
theorem clr_50_5 : C.clr 50 5 = [2, 7, 10, 22, 23, 24, 25, 26] := rfl
theorem res_51 : Tryz.f51.results.toList = [.tmp 4, .tmp 5] := rfl
theorem esc_51 : C.esc 51 = [] := rfl
theorem clr_51_0 : C.clr 51 0 = [4, 5] := rfl
theorem clr_51_1 : C.clr 51 1 = [9, 10] := rfl
theorem clr_51_2 : C.clr 51 2 = [0, 1, 11] := rfl
theorem clr_51_3 : C.clr 51 3 = [0, 11] := rfl
theorem clr_51_4 : C.clr 51 4 = [] := rfl
theorem clr_51_5 : C.clr 51 5 = [15, 16, 17, 18] := rfl
theorem clr_51_6 : C.clr 51 6 = [7, 19, 20, 21, 22] := rfl
theorem clr_51_7 : C.clr 51 7 = [23] := rfl
theorem clr_51_8 : C.clr 51 8 = [1, 6, 8, 12, 13, 14, 24, 25, 26] := rfl
theorem clr_51_9 : C.clr 51 9 = [6, 8, 24, 27] := rfl
theorem clr_51_10 : C.clr 51 10 = [1, 12, 13, 14, 15] := rfl
theorem res_52 : Tryz.f52.results.toList = [.tmp 8] := rfl
theorem esc_52 : C.esc 52 = [] := rfl
theorem clr_52_0 : C.clr 52 0 = [1, 8] := rfl
theorem clr_52_1 : C.clr 52 1 = [0, 2, 3, 4, 5, 7, 9, 10, 11, 12, 13, 14, 15, 16, 17, 18] := rfl
theorem ord_52_1 : C.ord 52 1 = [0, 1, 2, 3, 4, 5, 6, 7, 8, 9, 10] := rfl
theorem ro_52_1 : C.ro 52 1 = true := rfl
theorem res_53 : Tryz.f53.results.toList = [.tmp 4] := rfl
theorem esc_53 : C.esc 53 = [] := rfl
theorem clr_53_0 : C.clr 53 0 = [0, 1, 4] := rfl
theorem clr_53_1 : C.clr 53 1 = [7] := rfl
theorem clr_53_2 : C.clr 53 2 = [10] := rfl
theorem clr_53_3 : C.clr 53 3 = [2, 3, 8, 9, 11, 12, 13] := rfl
theorem clr_53_4 : C.clr 53 4 = [8, 9, 15] := rfl
theorem clr_53_5 : C.clr 53 5 = [14, 16, 17, 18, 19, 20, 21, 22] := rfl
theorem clr_53_6 : C.clr 53 6 = [23] := rfl
theorem clr_53_7 : C.clr 53 7 = [2, 3, 24, 25, 26, 27, 28, 29, 30, 31, 32] := rfl
theorem clr_53_8 : C.clr 53 8 = [2, 3, 5, 24, 33, 34, 35, 36, 37, 38] := rfl
theorem clr_53_9 : C.clr 53 9 = [39] := rfl
theorem clr_53_10 : C.clr 53 10 = [6, 39, 40] := rfl
theorem clr_53_11 : C.clr 53 11 = [2, 3, 14] := rfl
theorem res_54 : Tryz.f54.results.toList = [.tmp 2] := rfl
theorem esc_54 : C.esc 54 = [] := rfl
theorem clr_54_0 : C.clr 54 0 = [0, 2] := rfl
theorem clr_54_1 : C.clr 54 1 = [1, 3, 4, 5, 6, 7, 8, 9, 10, 11, 12, 13, 14] := rfl
theorem res_55 : Tryz.f55.results.toList = [.tmp 4] := rfl
theorem esc_55 : C.esc 55 = [] := rfl
theorem clr_55_0 : C.clr 55 0 = [4] := rfl
theorem clr_55_1 : C.clr 55 1 = [6] := rfl
theorem clr_55_2 : C.clr 55 2 = [] := rfl
theorem clr_55_3 : C.clr 55 3 = [9, 10] := rfl
theorem clr_55_4 : C.clr 55 4 = [11, 12, 13, 14, 15] := rfl
theorem clr_55_5 : C.clr 55 5 = [0, 1, 5, 7, 8, 16, 17] := rfl
theorem clr_55_6 : C.clr 55 6 = [5, 16, 18] := rfl
theorem clr_55_7 : C.clr 55 7 = [0, 1, 7, 8, 9] := rfl
theorem res_56 : Tryz.f56.results.toList = [.cell 8 26, .tmp 9] := rfl
theorem esc_56 : C.esc 56 = [] := rfl
theorem clr_56_0 : C.clr 56 0 = [1, 9] := rfl
theorem clr_56_1 : C.clr 56 1 = [0, 2, 3, 10, 11, 12, 13, 14, 15, 16, 17] := rfl
theorem clr_56_2 : C.clr 56 2 = [4, 5, 7, 18, 19, 20, 21, 22, 23, 24, 25] := rfl
theorem clr_56_3 : C.clr 56 3 = [4, 5, 7, 18, 26, 27, 28, 29, 30, 31] := rfl
theorem res_57 : Tryz.f57.results.toList = [.cell 4 26, .tmp 5] := rfl
theorem esc_57 : C.esc 57 = [2, 3] := rfl
theorem clr_57_0 : C.clr 57 0 = [0, 1, 5] := rfl
theorem clr_57_1 : C.clr 57 1 = [6, 7, 8, 9, 10, 11, 12] := rfl
theorem clr_57_2 : C.clr 57 2 = [2, 3, 13, 14] := rfl
theorem clr_57_3 : C.clr 57 3 = [2, 3, 13, 15, 16, 17, 18] := rfl
theorem res_58 : Tryz.f58.results.toList = [.tmp 2] := rfl
theorem esc_58 : C.esc 58 = [] := rfl
theorem clr_58_0 : C.clr 58 0 = [0, 2] := rfl
theorem clr_58_1 : C.clr 58 1 = [1, 3, 4, 5] := rfl
theorem res_59 : Tryz.f59.results.toList = [.tmp 3] := rfl
theorem esc_59 : C.esc 59 = [] := rfl
theorem clr_59_0 : C.clr 59 0 = [0, 3] := rfl
theorem clr_59_1 : C.clr 59 1 = [1, 2, 4, 5, 6, 7, 8, 9, 10, 11, 12, 13] := rfl
theorem res_60 : Tryz.f60.results.toList = [.tmp 4] := rfl
theorem esc_60 : C.esc 60 = [] := rfl
theorem clr_60_0 : C.clr 60 0 = [4] := rfl
theorem clr_60_1 : C.clr 60 1 = [0, 1, 5, 6, 7, 8] := rfl
theorem res_61 : Tryz.f61.results.toList = [.tmp 3] := rfl
theorem esc_61 : C.esc 61 = [] := rfl
theorem clr_61_0 : C.clr 61 0 = [0, 3] := rfl
theorem clr_61_1 : C.clr 61 1 = [1, 2, 4, 5, 6, 7] := rfl
theorem res_62 : Tryz.f62.results.toList = [.tmp 4] := rfl
theorem esc_62 : C.esc 62 = [] := rfl
theorem clr_62_0 : C.clr 62 0 = [4] := rfl
theorem clr_62_1 : C.clr 62 1 = [0, 1, 5, 6, 7, 8] := rfl
theorem res_63 : Tryz.f63.results.toList = [.cell 4 73] := rfl
theorem esc_63 : C.esc 63 = [] := rfl
theorem clr_63_0 : C.clr 63 0 = [0, 1] := rfl
theorem clr_63_1 : C.clr 63 1 = [3, 5, 6, 7, 8, 9, 10, 11, 12, 13, 14, 15, 16, 17] := rfl
theorem ord_63_1 : C.ord 63 1 = [0, 1, 2, 3, 4, 5, 6, 7, 8, 9, 10, 11, 12, 13] := rfl
theorem ro_63_1 : C.ro 63 1 = false := rfl
theorem clr_63_2 : C.clr 63 2 = [2, 18] := rfl
theorem res_64 : Tryz.f64.results.toList = [.cell 4 26, .tmp 5] := rfl
theorem esc_64 : C.esc 64 = [] := rfl
theorem clr_64_0 : C.clr 64 0 = [0, 1, 2, 3, 5] := rfl
theorem clr_64_1 : C.clr 64 1 = [6] := rfl
theorem res_65 : Tryz.f65.results.toList = [.cell 4 26, .tmp 5] := rfl
theorem esc_65 : C.esc 65 = [] := rfl
theorem clr_65_0 : C.clr 65 0 = [0, 1, 5] := rfl
theorem clr_65_1 : C.clr 65 1 = [6, 7, 8, 9, 10] := rfl
theorem clr_65_2 : C.clr 65 2 = [2, 3, 11, 12] := rfl
theorem clr_65_3 : C.clr 65 3 = [2, 3, 11, 13, 14, 15, 16, 17, 18, 19, 20, 21, 22, 23, 24, 25, 26, 27, 28, 29, 30, 31, 32, 33] := rfl
theorem ord_65_3 : C.ord 65 3 = [0, 1, 2, 3, 4, 5, 6, 7, 8, 9, 10, 11, 12, 13, 14, 16, 17, 15, 18, 19, 20, 21, 22] := rfl
theorem ro_65_3 : C.ro 65 3 = false := rfl
theorem res_66 : Tryz.f66.results.toList = [.cell 4 26, .tmp 5] := rfl
theorem esc_66 : C.esc 66 = [] := rfl
theorem clr_66_0 : C.clr 66 0 = [0, 1, 5] := rfl
theorem clr_66_1 : C.clr 66 1 = [8, 9, 10, 11, 12, 13, 14] := rfl
theorem clr_66_2 : C.clr 66 2 = [15] := rfl
theorem clr_66_3 : C.clr 66 3 = [2, 3, 6, 7, 16, 17, 18] := rfl
theorem clr_66_4 : C.clr 66 4 = [2, 3, 6, 7, 16, 19, 20, 21, 22, 23, 24, 25] := rfl
theorem res_67 : Tryz.f67.results.toList = [.cell 4 26, .tmp 5] := rfl
theorem esc_67 : C.esc 67 = [] := rfl
theorem clr_67_0 : C.clr 67 0 = [0, 1, 5] := rfl
theorem clr_67_1 : C.clr 67 1 = [11, 12, 13, 14, 15] := rfl
theorem clr_67_2 : C.clr 67 2 = [2, 3, 16, 17] := rfl
theorem clr_67_3 : C.clr 67 3 = [16, 18, 19, 20, 21, 22, 23] := rfl
theorem clr_67_4 : C.clr 67 4 = [24, 25, 26, 27, 28, 29] := rfl
theorem clr_67_5 : C.clr 67 5 = [2, 3, 6, 30, 31] := rfl
theorem clr_67_6 : C.clr 67 6 = [30, 32] := rfl
theorem clr_67_7 : C.clr 67 7 = [] := rfl
theorem clr_67_8 : C.clr 67 8 = [36, 37, 38, 39] := rfl
theorem clr_67_9 : C.clr 67 9 = [8, 40, 41, 42, 43, 44, 45, 46, 47, 48, 49, 50, 51, 52] := rfl
theorem ord_67_9 : C.ord 67 9 = [0, 1, 2, 3, 4, 5, 6, 7, 8, 13, 9, 10, 11, 12, 14, 15] := rfl
theorem ro_67_9 : C.ro 67 9 = false := rfl
theorem clr_67_10 : C.clr 67 10 = [53] := rfl
theorem clr_67_11 : C.clr 67 11 = [7, 9, 54, 55, 56, 57, 58, 59, 60, 61, 62] := rfl
theorem ord_67_11 : C.ord 67 11 = [0, 1, 2, 3, 4, 5, 6, 7, 8] := rfl
theorem ro_67_11 : C.ro 67 11 = true := rfl
theorem clr_67_12 : C.clr 67 12 = [7, 9, 54, 63] := rfl
theorem clr_67_13 : C.clr 67 13 = [2, 3, 6, 10, 33, 34, 35, 64, 65, 66] := rfl
theorem clr_67_14 : C.clr 67 14 = [10, 64, 67] := rfl
theorem clr_67_15 : C.clr 67 15 = [2, 3, 6, 33, 34, 35, 36, 68, 69, 70, 71, 72, 73, 74, 75, 76, 77, 78] := rfl
theorem res_68 : Tryz.f68.results.toList = [.tmp 4] := rfl
theorem esc_68 : C.esc 68 = [] := rfl
theorem clr_68_0 : C.clr 68 0 = [0, 1, 4] := rfl
theorem clr_68_1 : C.clr 68 1 = [7, 8, 9, 10, 11, 12, 13, 14, 15, 16, 17, 18, 19, 20, 21, 22, 23, 24, 25, 26] := rfl
theorem clr_68_2 : C.clr 68 2 = [2, 3, 27] := rfl
theorem clr_68_3 : C.clr 68 3 = [2, 27, 28] := rfl
theorem clr_68_4 : C.clr 68 4 = [] := rfl
theorem clr_68_5 : C.clr 68 5 = [32, 33, 34, 35] := rfl
theorem clr_68_6 : C.clr 68 6 = [5, 6, 36, 37, 38, 39, 40, 41, 42] := rfl
theorem ord_68_6 : C.ord 68 6 = [0, 1, 2, 3, 4, 5, 6, 7] := rfl
theorem ro_68_6 : C.ro 68 6 = true := rfl
theorem clr_68_7 : C.clr 68 7 = [3, 29, 30, 31, 43] := rfl
theorem clr_68_8 : C.clr 68 8 = [43, 44] := rfl
theorem clr_68_9 : C.clr 68 9 = [3, 29, 30, 31, 32] := rfl
theorem res_69 : Tryz.f69.results.toList = [.tmp 2] := rfl
theorem esc_69 : C.esc 69 = [] := rfl
theorem clr_69_0 : C.clr 69 0 = [0, 2] := rfl
theorem clr_69_1 : C.clr 69 1 = [4, 5] := rfl
theorem clr_69_2 : C.clr 69 2 = [1, 3, 6, 7, 8, 9, 10, 11, 12, 13, 14, 15, 16] := rfl
theorem res_70 : Tryz.f70.results.toList = [.cell 6 26, .tmp 7] := rfl
theorem esc_70 : C.esc 70 = [] := rfl
theorem clr_70_0 : C.clr 70 0 = [0, 7] := rfl
theorem clr_70_1 : C.clr 70 1 = [17] := rfl
theorem clr_70_2 : C.clr 70 2 = [] := rfl
theorem clr_70_3 : C.clr 70 3 = [] := rfl
theorem clr_70_4 : C.clr 70 4 = [18, 19, 20, 21] := rfl
theorem clr_70_6 : C.clr 70 6 = [22, 25, 26, 27, 28, 29, 30, 31, 32, 33, 34, 35, 36, 37, 38, 39] := rfl
theorem ord_70_6 : C.ord 70 6 = [0, 1, 2, 3, 4, 5, 6, 7, 8, 15, 9, 10, 11, 12, 13, 14, 16, 17] := rfl
theorem ro_70_6 : C.ro 70 6 = false := rfl
theorem clr_70_7 : C.clr 70 7 = [40] := rfl
theorem clr_70_8 : C.clr 70 8 = [1, 2, 3, 8, 9, 10, 11, 12, 41, 42, 43] := rfl
theorem clr_70_9 : C.clr 70 9 = [11, 12, 41, 44, 45, 46, 47] := rfl
theorem clr_70_5 : C.clr 70 5 = [23, 24] := rfl
theorem clr_70_10 : C.clr 70 10 = [10, 22, 48, 49] := rfl
theorem clr_70_11 : C.clr 70 11 = [1, 2, 3, 8, 9, 50, 51, 52, 53, 54, 55, 56] := rfl
theorem clr_70_12 : C.clr 70 12 = [50, 57, 58, 59, 60] := rfl
theorem clr_70_13 : C.clr 70 13 = [1, 2, 3, 8, 9, 61, 62] := rfl
theorem clr_70_14 : C.clr 70 14 = [61] := rfl
theorem clr_70_15 : C.clr 70 15 = [63, 64, 65] := rfl
theorem clr_70_17 : C.clr 70 17 = [66, 69, 70, 71, 72, 73] := rfl
theorem clr_70_18 : C.clr 70 18 = [14, 74] := rfl
theorem clr_70_19 : C.clr 70 19 = [1, 2, 3, 8, 9, 13, 75, 76] := rfl
theorem clr_70_16 : C.clr 70 16 = [67, 68, 75] := rfl
theorem clr_70_20 : C.clr 70 20 = [1, 2, 3, 8, 9, 13, 66, 77, 78, 79, 80, 81, 82, 83, 84, 85, 86, 87, 88] := rfl
theorem clr_70_21 : C.clr 70 21 = [15, 16, 89, 90] := rfl
theorem res_71 : Tryz.f71.results.toList = [.tmp 8] := rfl
theorem esc_71 : C.esc 71 = [] := rfl
theorem clr_71_0 : C.clr 71 0 = [8] := rfl
theorem clr_71_1 : C.clr 71 1 = [16, 17] := rfl
theorem clr_71_2 : C.clr 71 2 = [0, 1, 2, 3, 18] := rfl
theorem clr_71_3 : C.clr 71 3 = [18] := rfl
theorem clr_71_4 : C.clr 71 4 = [19, 20, 21] := rfl
theorem clr_71_6 : C.clr 71 6 = [22, 25, 26, 27, 28, 29, 30] := rfl
theorem clr_71_7 : C.clr 71 7 = [10, 31] := rfl
theorem clr_71_8 : C.clr 71 8 = [0, 1, 2, 3, 9, 32] := rfl
theorem clr_71_5 : C.clr 71 5 = [23, 24, 32] := rfl
theorem clr_71_9 : C.clr 71 9 = [0, 9, 22] := rfl
theorem clr_71_10 : C.clr 71 10 = [33, 34, 35] := rfl
theorem clr_71_12 : C.clr 71 12 = [36, 39, 40, 41, 42, 43, 44] := rfl
theorem clr_71_13 : C.clr 71 13 = [45, 46, 47, 48, 49, 50] := rfl
theorem clr_71_14 : C.clr 71 14 = [12, 13, 51, 52, 53, 54, 55] := rfl
theorem clr_71_15 : C.clr 71 15 = [1, 2, 3, 11, 56] := rfl
theorem clr_71_11 : C.clr 71 11 = [37, 38, 56] := rfl
theorem clr_71_16 : C.clr 71 16 = [1, 2, 11, 36, 57, 58] := rfl
theorem clr_71_17 : C.clr 71 17 = [3, 59, 60] := rfl
theorem clr_71_18 : C.clr 71 18 = [14, 15, 61, 62, 63, 64] := rfl
theorem res_72 : Tryz.f72.results.toList = [.tmp 8] := rfl
theorem esc_72 : C.esc 72 = [] := rfl
theorem clr_72_0 : C.clr 72 0 = [2, 3, 8] := rfl
theorem clr_72_1 : C.clr 72 1 = [12, 13] := rfl
theorem clr_72_2 : C.clr 72 2 = [14, 15, 16] := rfl
theorem clr_72_3 : C.clr 72 3 = [0, 1, 6, 7, 17] := rfl
theorem clr_72_4 : C.clr 72 4 = [0, 1, 6, 7, 17, 18, 19, 20, 21, 22, 23, 24, 25, 26, 27, 28, 29, 30, 31, 32, 33] := rfl
theorem ord_72_4 : C.ord 72 4 = [0, 1, 2, 3, 4, 5, 7, 8, 9, 10, 11, 12, 13, 14, 6, 15, 16] := rfl
theorem ro_72_4 : C.ro 72 4 = false := rfl
theorem clr_72_5 : C.clr 72 5 = [14, 34, 35] := rfl
theorem clr_72_6 : C.clr 72 6 = [0, 1, 6, 7, 36] := rfl
theorem clr_72_7 : C.clr 72 7 = [0, 1, 6, 36, 37, 38, 39, 40, 41, 42, 43] := rfl
theorem clr_72_8 : C.clr 72 8 = [44] := rfl
theorem clr_72_9 : C.clr 72 9 = [7, 9, 10, 45, 46] := rfl
theorem clr_72_10 : C.clr 72 10 = [7, 9, 10, 45, 47, 48, 49] := rfl
theorem clr_72_11 : C.clr 72 11 = [11, 50] := rfl
theorem clr_72_12 : C.clr 72 12 = [51] := rfl
theorem clr_72_13 : C.clr 72 13 = [51] := rfl
theorem res_73 : Tryz.f73.results.toList = [.tmp 6] := rfl
theorem esc_73 : C.esc 73 = [] := rfl
theorem clr_73_0 : C.clr 73 0 = [2, 6] := rfl
theorem clr_73_1 : C.clr 73 1 = [11, 12] := rfl
theorem clr_73_2 : C.clr 73 2 = [13, 14, 15, 16, 17, 18, 19, 20] := rfl
theorem clr_73_3 : C.clr 73 3 = [21] := rfl
theorem clr_73_4 : C.clr 73 4 = [0, 1, 5, 7, 22, 23] := rfl
theorem clr_73_5 : C.clr 73 5 = [0, 1, 5, 7, 22, 24, 25, 26, 27, 28, 29, 30, 31, 32, 33, 34, 35] := rfl
theorem ord_73_5 : C.ord 73 5 = [0, 1, 2, 3, 4, 5, 7, 8, 9, 10, 6, 11, 12] := rfl
theorem ro_73_5 : C.ro 73 5 = false := rfl
theorem clr_73_6 : C.clr 73 6 = [13, 36, 37] := rfl
theorem clr_73_7 : C.clr 73 7 = [0, 1, 5, 38] := rfl
theorem clr_73_8 : C.clr 73 8 = [38, 39, 40, 41, 42, 43, 44, 45] := rfl
theorem ord_73_8 : C.ord 73 8 = [0, 1, 2, 3, 4, 5, 6, 7] := rfl
theorem ro_73_8 : C.ro 73 8 = true := rfl
theorem clr_73_9 : C.clr 73 9 = [0, 1, 5, 46] := rfl
theorem clr_73_10 : C.clr 73 10 = [46, 47, 48, 49, 50, 51, 52, 53, 54, 55, 56] := rfl
theorem ord_73_10 : C.ord 73 10 = [0, 1, 2, 3, 4, 5, 6, 7, 8, 9, 10] := rfl
theorem ro_73_10 : C.ro 73 10 = true := rfl
theorem clr_73_11 : C.clr 73 11 = [8, 57] := rfl
theorem clr_73_12 : C.clr 73 12 = [0, 1, 5, 58] := rfl
theorem clr_73_13 : C.clr 73 13 = [0, 1, 5, 58, 59, 60, 61, 62, 63, 64, 65, 66, 67, 68, 69, 70, 71, 72, 73, 74, 75] := rfl
theorem ord_73_13 : C.ord 73 13 = [0, 1, 2, 3, 4, 5, 6, 7, 8, 9, 10, 11, 12, 17, 13, 14, 15, 16, 18, 19] := rfl
theorem ro_73_13 : C.ro 73 13 = false := rfl
theorem clr_73_14 : C.clr 73 14 = [76] := rfl
theorem clr_73_15 : C.clr 73 15 = [9, 10, 77, 78] := rfl
theorem clr_73_16 : C.clr 73 16 = [9, 10, 77, 79, 80] := rfl
theorem clr_73_17 : C.clr 73 17 = [81] := rfl
theorem clr_73_18 : C.clr 73 18 = [81] := rfl
theorem res_74 : Tryz.f74.results.toList = [.tmp 6] := rfl
theorem esc_74 : C.esc 74 = [] := rfl
theorem clr_74_0 : C.clr 74 0 = [0, 1, 6] := rfl
theorem clr_74_1 : C.clr 74 1 = [8, 9, 10, 11, 12, 13] := rfl
theorem ord_74_1 : C.ord 74 1 = [0, 1, 2, 3, 4, 5, 6] := rfl
theorem ro_74_1 : C.ro 74 1 = true := rfl
theorem clr_74_2 : C.clr 74 2 = [14] := rfl
theorem clr_74_3 : C.clr 74 3 = [2, 3, 4, 7, 15, 16] := rfl
theorem clr_74_4 : C.clr 74 4 = [2, 3, 4, 7, 15, 17, 18, 19, 20, 21, 22, 23, 24, 25, 26, 27, 28] := rfl
theorem ord_74_4 : C.ord 74 4 = [0, 1, 2, 3, 4, 5, 7, 8, 9, 10, 6, 11, 12] := rfl
theorem ro_74_4 : C.ro 74 4 = false := rfl
theorem res_75 : Tryz.f75.results.toList = [.cell 6 26, .tmp 7] := rfl
theorem esc_75 : C.esc 75 = [] := rfl
theorem clr_75_0 : C.clr 75 0 = [0, 7] := rfl
theorem clr_75_1 : C.clr 75 1 = [2, 8, 9, 10, 11, 12, 13, 14, 15, 16, 17, 18, 19, 20, 21, 22] := rfl
theorem clr_75_2 : C.clr 75 2 = [1, 3, 23, 24] := rfl
theorem clr_75_3 : C.clr 75 3 = [1, 3, 23, 25, 26, 27, 28, 29, 30] := rfl
theorem res_76 : Tryz.f76.results.toList = [.cell 6 26, .tmp 7] := rfl
theorem esc_76 : C.esc 76 = [] := rfl
theorem clr_76_0 : C.clr 76 0 = [0, 1, 7] := rfl
theorem clr_76_1 : C.clr 76 1 = [2] := rfl
theorem clr_76_2 : C.clr 76 2 = [] := rfl
theorem clr_76_3 : C.clr 76 3 = [16, 17, 18] := rfl
theorem clr_76_4 : C.clr 76 4 = [19, 20] := rfl
theorem clr_76_5 : C.clr 76 5 = [3, 4, 9, 13, 14, 15, 21, 22] := rfl
theorem clr_76_6 : C.clr 76 6 = [21, 23, 24, 25, 26, 27, 28, 29] := rfl
theorem ord_76_6 : C.ord 76 6 = [0, 1, 2, 3, 4, 5, 6, 7] := rfl
theorem ro_76_6 : C.ro 76 6 = true := rfl
theorem clr_76_7 : C.clr 76 7 = [30] := rfl
theorem clr_76_8 : C.clr 76 8 = [3, 4, 9, 10, 13, 14, 15, 31, 32, 33] := rfl
theorem clr_76_9 : C.clr 76 9 = [9, 10, 31, 34, 35, 36, 37, 38, 39, 40, 41, 42, 43, 44] := rfl
theorem ord_76_9 : C.ord 76 9 = [0, 1, 2, 3, 4, 5, 6, 11, 7, 8, 9, 10, 12, 13] := rfl
theorem ro_76_9 : C.ro 76 9 = false := rfl
theorem clr_76_10 : C.clr 76 10 = [45] := rfl
theorem clr_76_11 : C.clr 76 11 = [3, 4, 11, 12, 13, 14, 15, 46, 47, 48] := rfl
theorem clr_76_12 : C.clr 76 12 = [11, 12, 46, 49] := rfl
theorem clr_76_13 : C.clr 76 13 = [50] := rfl
theorem clr_76_14 : C.clr 76 14 = [3, 4, 13, 14, 15, 16, 51] := rfl
theorem res_77 : Tryz.f77.results.toList = [.tmp 2] := rfl
theorem esc_77 : C.esc 77 = [] := rfl
theorem clr_77_0 : C.clr 77 0 = [0, 2] := rfl
theorem clr_77_1 : C.clr 77 1 = [] := rfl
theorem clr_77_2 : C.clr 77 2 = [1, 6] := rfl
theorem clr_77_3 : C.clr 77 3 = [] := rfl
theorem clr_77_4 : C.clr 77 4 = [10, 11, 12] := rfl
theorem clr_77_5 : C.clr 77 5 = [5, 13, 14, 15, 16] := rfl
theorem clr_77_6 : C.clr 77 6 = [17] := rfl
theorem clr_77_7 : C.clr 77 7 = [3, 7, 8, 9, 10, 18, 19] := rfl
theorem res_78 : Tryz.f78.results.toList = [.tmp 2] := rfl
theorem esc_78 : C.esc 78 = [3] := rfl
theorem clr_78_0 : C.clr 78 0 = [0] := rfl
theorem clr_78_1 : C.clr 78 1 = [] := rfl
theorem clr_78_2 : C.clr 78 2 = [1, 4] := rfl
theorem clr_78_3 : C.clr 78 3 = [2, 3, 5, 6, 7, 8, 9] := rfl
theorem clr_78_4 : C.clr 78 4 = [3, 5, 10] := rfl
theorem res_79 : Tryz.f79.results.toList = [.cell 4 4] := rfl
theorem esc_79 : C.esc 79 = [3, 4] := rfl
theorem clr_79_0 : C.clr 79 0 = [0, 1] := rfl
theorem clr_79_1 : C.clr 79 1 = [2, 7] := rfl
theorem clr_79_2 : C.clr 79 2 = [8, 9] := rfl
theorem clr_79_3 : C.clr 79 3 = [10] := rfl
theorem clr_79_4 : C.clr 79 4 = [3, 5, 6, 11, 12, 13, 14] := rfl
theorem clr_79_5 : C.clr 79 5 = [15] := rfl
theorem clr_79_6 : C.clr 79 6 = [3, 8] := rfl
theorem res_80 : Tryz.f80.results.toList = [.tmp 4] := rfl
theorem esc_80 : C.esc 80 = [] := rfl
theorem clr_80_0 : C.clr 80 0 = [0, 1, 4] := rfl
theorem clr_80_1 : C.clr 80 1 = [3, 5, 6] := rfl
theorem res_81 : Tryz.f81.results.toList = [.tmp 2] := rfl
theorem esc_81 : C.esc 81 = [] := rfl
theorem clr_81_0 : C.clr 81 0 = [0, 2] := rfl
theorem clr_81_1 : C.clr 81 1 = [3] := rfl
theorem clr_81_2 : C.clr 81 2 = [6] := rfl
theorem clr_81_3 : C.clr 81 3 = [1, 4, 5, 7, 8, 9, 10, 11, 12, 13, 14, 15] := rfl
theorem clr_81_4 : C.clr 81 4 = [5, 17] := rfl
theorem clr_81_5 : C.clr 81 5 = [1, 4, 16, 18, 19, 20, 21, 22, 23, 24, 25, 26] := rfl
theorem clr_81_6 : C.clr 81 6 = [4, 16, 28] := rfl
theorem clr_81_7 : C.clr 81 7 = [1, 27, 29, 30, 31, 32, 33, 34, 35, 36, 37] := rfl
theorem clr_81_8 : C.clr 81 8 = [1, 27, 38, 39, 40, 41, 42, 43, 44, 45, 46, 47, 48, 49, 50] := rfl
theorem res_82 : Tryz.f82.results.toList = [.tmp 2] := rfl
theorem esc_82 : C.esc 82 = [] := rfl
theorem clr_82_0 : C.clr 82 0 = [0, 2] := rfl
theorem clr_82_1 : C.clr 82 1 = [] := rfl
theorem clr_82_2 : C.clr 82 2 = [1, 3, 4, 5, 6, 7, 8, 9, 10, 11, 12, 13, 14, 15, 16, 17, 18, 19, 20, 21, 22, 23, 24] := rfl
theorem res_83 : Tryz.f83.results.toList = [.cell 2 26, .cell 3 33] := rfl
theorem esc_83 : C.esc 83 = [2, 3, 7] := rfl
theorem clr_83_0 : C.clr 83 0 = [] := rfl
theorem clr_83_1 : C.clr 83 1 = [4] := rfl
theorem clr_83_2 : C.clr 83 2 = [0, 5, 6, 7, 8] := rfl
theorem clr_83_3 : C.clr 83 3 = [9, 10] := rfl
theorem clr_83_4 : C.clr 83 4 = [11, 12] := rfl
theorem clr_83_5 : C.clr 83 5 = [11, 13] := rfl
theorem res_84 : Tryz.f84.results.toList = [.cell 4 26] := rfl
theorem esc_84 : C.esc 84 = [] := rfl
theorem clr_84_0 : C.clr 84 0 = [] := rfl
theorem clr_84_1 : C.clr 84 1 = [0, 1, 2, 5, 6, 7, 8] := rfl
theorem res_85 : Tryz.f85.results.toList = [.cell 6 26] := rfl
theorem esc_85 : C.esc 85 = [] := rfl
theorem clr_85_0 : C.clr 85 0 = [1, 2] := rfl
theorem clr_85_1 : C.clr 85 1 = [11, 12, 13, 14, 15, 16, 17] := rfl
theorem clr_85_2 : C.clr 85 2 = [18, 19, 20, 21] := rfl
theorem clr_85_3 : C.clr 85 3 = [22, 23] := rfl
theorem clr_85_4 : C.clr 85 4 = [22, 24, 25, 26, 27, 28] := rfl
theorem clr_85_5 : C.clr 85 5 = [29] := rfl
theorem clr_85_6 : C.clr 85 6 = [] := rfl
theorem clr_85_7 : C.clr 85 7 = [33, 34, 35, 36] := rfl
theorem clr_85_8 : C.clr 85 8 = [37] := rfl
theorem clr_85_9 : C.clr 85 9 = [8, 38, 39, 40, 41, 42, 43, 44, 45, 46, 47, 48, 49, 50, 51, 52] := rfl
theorem clr_85_10 : C.clr 85 10 = [53, 54, 55] := rfl
theorem clr_85_11 : C.clr 85 11 = [9, 10, 53, 56, 57, 58, 59, 60, 61, 62, 63, 64] := rfl
theorem ord_85_11 : C.ord 85 11 = [0, 1, 2, 3, 4, 5, 6, 7, 8, 9] := rfl
theorem ro_85_11 : C.ro 85 11 = false := rfl
theorem clr_85_12 : C.clr 85 12 = [65] := rfl
theorem clr_85_13 : C.clr 85 13 = [30, 31, 32, 33, 66, 67] := rfl
theorem clr_85_14 : C.clr 85 14 = [0, 4, 5, 7, 68, 69] := rfl
theorem clr_85_15 : C.clr 85 15 = [0, 4, 5, 7, 68, 70, 71, 72, 73, 74, 75, 76, 77] := rfl
theorem ord_85_15 : C.ord 85 15 = [0, 1, 2, 3, 5, 6, 4, 7, 8] := rfl
theorem ro_85_15 : C.ro 85 15 = false := rfl
theorem res_86 : Tryz.f86.results.toList = [.tmp 4] := rfl
theorem esc_86 : C.esc 86 = [] := rfl
theorem clr_86_0 : C.clr 86 0 = [4] := rfl
theorem clr_86_1 : C.clr 86 1 = [6] := rfl
theorem clr_86_2 : C.clr 86 2 = [] := rfl
theorem clr_86_3 : C.clr 86 3 = [9, 10] := rfl
theorem clr_86_4 : C.clr 86 4 = [11, 12, 13, 14, 15] := rfl
theorem clr_86_5 : C.clr 86 5 = [0, 1, 5, 7, 8, 16, 17] := rfl
theorem clr_86_6 : C.clr 86 6 = [5, 16, 18] := rfl
theorem clr_86_7 : C.clr 86 7 = [0, 1, 7, 8, 9] := rfl
theorem res_87 : Tryz.f87.results.toList = [.tmp 4] := rfl
theorem esc_87 : C.esc 87 = [] := rfl
theorem clr_87_0 : C.clr 87 0 = [4] := rfl
theorem clr_87_1 : C.clr 87 1 = [6] := rfl
theorem clr_87_2 : C.clr 87 2 = [] := rfl
theorem clr_87_3 : C.clr 87 3 = [9, 10] := rfl
theorem clr_87_4 : C.clr 87 4 = [11, 12, 13, 14, 15] := rfl
theorem clr_87_5 : C.clr 87 5 = [0, 1, 5, 7, 8, 16, 17] := rfl
theorem clr_87_6 : C.clr 87 6 = [5, 16, 18] := rfl
theorem clr_87_7 : C.clr 87 7 = [0, 1, 7, 8, 9] := rfl
theorem res_88 : Tryz.f88.results.toList = [.cell 6 26] := rfl
theorem esc_88 : C.esc 88 = [] := rfl
theorem clr_88_0 : C.clr 88 0 = [0] := rfl
theorem clr_88_1 : C.clr 88 1 = [9, 10, 11, 12] := rfl
theorem clr_88_2 : C.clr 88 2 = [1, 2, 3, 13, 14, 15] := rfl
theorem clr_88_3 : C.clr 88 3 = [1, 2, 3, 8, 13, 16, 17, 18, 19, 20, 21, 22, 23, 24] := rfl
theorem clr_88_4 : C.clr 88 4 = [7, 25] := rfl
theorem res_89 : Tryz.f89.results.toList = [.tmp 2] := rfl
theorem esc_89 : C.esc 89 = [] := rfl
theorem clr_89_0 : C.clr 89 0 = [0, 2] := rfl
theorem clr_89_1 : C.clr 89 1 = [5] := rfl
theorem clr_89_3 : C.clr 89 3 = [8] := rfl
theorem clr_89_4 : C.clr 89 4 = [6, 7, 9, 10, 11, 12, 13, 14, 15, 16] := rfl
theorem clr_89_5 : C.clr 89 5 = [1, 17] := rfl
theorem clr_89_6 : C.clr 89 6 = [7, 19] := rfl
theorem clr_89_7 : C.clr 89 7 = [6, 18, 20, 21, 22, 23, 24, 25, 26, 27] := rfl
theorem clr_89_8 : C.clr 89 8 = [1, 28] := rfl
theorem clr_89_9 : C.clr 89 9 = [18, 30] := rfl
theorem clr_89_10 : C.clr 89 10 = [6, 29, 31, 32, 33, 34, 35, 36, 37, 38] := rfl
theorem clr_89_11 : C.clr 89 11 = [1, 39] := rfl
theorem clr_89_12 : C.clr 89 12 = [29, 41] := rfl
theorem clr_89_13 : C.clr 89 13 = [42] := rfl
theorem clr_89_14 : C.clr 89 14 = [43] := rfl
theorem clr_89_15 : C.clr 89 15 = [6, 44] := rfl
theorem clr_89_16 : C.clr 89 16 = [6, 40, 45, 46] := rfl
theorem clr_89_17 : C.clr 89 17 = [1, 47] := rfl
theorem clr_89_2 : C.clr 89 2 = [1, 6, 40] := rfl
theorem clr_89_18 : C.clr 89 18 = [17, 28, 39, 47] := rfl
theorem clr_89_19 : C.clr 89 19 = [48, 49, 50, 51] := rfl
theorem clr_89_21 : C.clr 89 21 = [52, 55, 56, 57, 58, 59, 60] := rfl
theorem clr_89_22 : C.clr 89 22 = [4, 61] := rfl
theorem clr_89_23 : C.clr 89 23 = [1, 3, 62] := rfl
theorem clr_89_20 : C.clr 89 20 = [53, 54, 62] := rfl
theorem clr_89_24 : C.clr 89 24 = [1, 3, 52] := rfl
theorem res_90 : Tryz.f90.results.toList = [.tmp 4] := rfl
theorem esc_90 : C.esc 90 = [] := rfl
theorem clr_90_0 : C.clr 90 0 = [0, 4] := rfl
theorem clr_90_1 : C.clr 90 1 = [1, 2, 5, 6, 7, 8, 9, 10, 11, 12, 13, 14, 15, 16, 17, 18, 19] := rfl
theorem clr_90_2 : C.clr 90 2 = [20] := rfl
theorem clr_90_3 : C.clr 90 3 = [20] := rfl
theorem res_91 : Tryz.f91.results.toList = [.cell 4 26, .tmp 5] := rfl
theorem esc_91 : C.esc 91 = [24] := rfl
theorem clr_91_0 : C.clr 91 0 = [0, 1, 5] := rfl
theorem clr_91_1 : C.clr 91 1 = [12, 13] := rfl
theorem clr_91_2 : C.clr 91 2 = [14, 15] := rfl
theorem clr_91_3 : C.clr 91 3 = [6, 7, 16, 17, 18, 19, 20] := rfl
theorem clr_91_4 : C.clr 91 4 = [2, 3, 21, 22] := rfl
theorem clr_91_5 : C.clr 91 5 = [21, 23] := rfl
theorem clr_91_6 : C.clr 91 6 = [2, 3, 25, 26, 27, 28] := rfl
theorem clr_91_7 : C.clr 91 7 = [8, 9, 24, 29, 30, 31, 32, 33, 34] := rfl
theorem clr_91_8 : C.clr 91 8 = [10, 11, 35, 36] := rfl
theorem res_92 : Tryz.f92.results.toList = [.tmp 2] := rfl
theorem esc_92 : C.esc 92 = [] := rfl
theorem clr_92_0 : C.clr 92 0 = [2] := rfl
theorem clr_92_1 : C.clr 92 1 = [] := rfl
theorem clr_92_2 : C.clr 92 2 = [5, 6, 7] := rfl
theorem clr_92_4 : C.clr 92 4 = [8, 11, 12, 13, 14, 15] := rfl
theorem clr_92_5 : C.clr 92 5 = [4, 16] := rfl
theorem clr_92_6 : C.clr 92 6 = [0, 3, 17] := rfl
theorem clr_92_3 : C.clr 92 3 = [9, 10, 17] := rfl
theorem clr_92_7 : C.clr 92 7 = [0, 3, 8] := rfl
theorem res_93 : Tryz.f93.results.toList = [.tmp 4] := rfl
theorem esc_93 : C.esc 93 = [] := rfl
theorem clr_93_0 : C.clr 93 0 = [1, 4] := rfl
theorem clr_93_1 : C.clr 93 1 = [0, 3, 5, 6, 7, 8, 9] := rfl
theorem ord_93_1 : C.ord 93 1 = [0, 1, 2, 3, 4, 5] := rfl
theorem ro_93_1 : C.ro 93 1 = false := rfl
theorem res_94 : Tryz.f94.results.toList = [.cell 6 26, .tmp 7] := rfl
theorem esc_94 : C.esc 94 = [] := rfl
theorem clr_94_0 : C.clr 94 0 = [2, 7] := rfl
theorem clr_94_1 : C.clr 94 1 = [15] := rfl
theorem clr_94_2 : C.clr 94 2 = [18] := rfl
theorem clr_94_3 : C.clr 94 3 = [16, 17, 19, 20, 21, 22] := rfl
theorem clr_94_4 : C.clr 94 4 = [0, 1, 5, 23, 24] := rfl
theorem clr_94_5 : C.clr 94 5 = [0, 1, 5, 23, 25, 26, 27, 28, 29, 30, 31, 32, 33, 34, 35, 36, 37, 38, 39, 40, 41, 42, 43, 44, 45] := rfl
theorem ord_94_5 : C.ord 94 5 = [0, 1, 2, 3, 4, 5, 6, 7, 8, 9, 10, 11, 12, 13, 15, 16, 21, 14, 17, 18, 19, 20, 22, 23] := rfl
theorem ro_94_5 : C.ro 94 5 = false := rfl
theorem clr_94_6 : C.clr 94 6 = [8, 9, 46, 47] := rfl
theorem clr_94_7 : C.clr 94 7 = [17, 49] := rfl
theorem clr_94_8 : C.clr 94 8 = [16, 48, 50, 51, 52, 53, 54, 55, 56] := rfl
theorem ord_94_8 : C.ord 94 8 = [0, 1, 2, 3, 4, 5, 6, 7] := rfl
theorem ro_94_8 : C.ro 94 8 = true := rfl
theorem clr_94_9 : C.clr 94 9 = [0, 1, 5, 57, 58] := rfl
theorem clr_94_10 : C.clr 94 10 = [57, 59, 60, 61, 62, 63, 64, 65, 66, 67, 68] := rfl
theorem ord_94_10 : C.ord 94 10 = [0, 1, 2, 3, 4, 5, 6, 7, 8, 9, 10] := rfl
theorem ro_94_10 : C.ro 94 10 = true := rfl
theorem clr_94_11 : C.clr 94 11 = [10] := rfl
theorem clr_94_12 : C.clr 94 12 = [0, 1, 5, 69, 70] := rfl
theorem clr_94_13 : C.clr 94 13 = [0, 1, 5, 69, 71, 72, 73, 74, 75, 76, 77, 78, 79, 80, 81, 82, 83, 84, 85, 86, 87] := rfl
theorem ord_94_13 : C.ord 94 13 = [0, 1, 2, 3, 4, 5, 6, 7, 8, 9, 10, 11, 12, 17, 13, 14, 15, 16, 18, 19] := rfl
theorem ro_94_13 : C.ro 94 13 = false := rfl
theorem clr_94_14 : C.clr 94 14 = [11, 12, 88, 89] := rfl
theorem clr_94_15 : C.clr 94 15 = [16, 48, 91] := rfl
theorem clr_94_16 : C.clr 94 16 = [0, 1, 5, 90, 92, 93, 94, 95, 96, 97, 98] := rfl
theorem clr_94_17 : C.clr 94 17 = [13, 14, 99, 100] := rfl
theorem clr_94_18 : C.clr 94 18 = [0, 1, 5, 90, 101] := rfl
theorem res_95 : Tryz.f95.results.toList = [.tmp 4] := rfl
theorem esc_95 : C.esc 95 = [] := rfl
theorem clr_95_0 : C.clr 95 0 = [0, 1, 4] := rfl
theorem clr_95_1 : C.clr 95 1 = [7, 8, 9, 10, 11, 12, 13, 14, 15, 16, 17, 18, 19, 20, 21, 22, 23, 24, 25, 26] := rfl
theorem clr_95_2 : C.clr 95 2 = [2, 3, 27] := rfl
theorem clr_95_3 : C.clr 95 3 = [27] := rfl
theorem clr_95_4 : C.clr 95 4 = [28, 29, 30, 31] := rfl
theorem clr_95_6 : C.clr 95 6 = [32, 35, 36, 37, 38, 39, 40, 41, 42, 43, 44, 45] := rfl
theorem ord_95_6 : C.ord 95 6 = [0, 1, 2, 3, 4, 5, 6, 7, 8, 9, 10, 11] := rfl
theorem ro_95_6 : C.ro 95 6 = true := rfl
theorem clr_95_7 : C.clr 95 7 = [6, 46] := rfl
theorem clr_95_8 : C.clr 95 8 = [2, 3, 5, 47] := rfl
theorem clr_95_5 : C.clr 95 5 = [33, 34, 47] := rfl
theorem clr_95_9 : C.clr 95 9 = [2, 3, 5, 32] := rfl
theorem res_96 : Tryz.f96.results.toList = [.tmp 2] := rfl
theorem esc_96 : C.esc 96 = [] := rfl
theorem clr_96_0 : C.clr 96 0 = [0, 2] := rfl
theorem clr_96_1 : C.clr 96 1 = [1, 3, 5, 6, 7, 8, 9] := rfl
theorem clr_96_2 : C.clr 96 2 = [4, 10, 11, 12] := rfl
theorem res_97 : Tryz.f97.results.toList = [.cell 8 26, .tmp 9] := rfl
theorem esc_97 : C.esc 97 = [] := rfl
theorem clr_97_0 : C.clr 97 0 = [2, 9] := rfl
theorem clr_97_1 : C.clr 97 1 = [] := rfl
theorem clr_97_2 : C.clr 97 2 = [14, 15, 16] := rfl
theorem clr_97_4 : C.clr 97 4 = [17, 20, 21] := rfl
theorem clr_97_5 : C.clr 97 5 = [0, 1, 3, 6, 10, 22, 23] := rfl
theorem clr_97_6 : C.clr 97 6 = [22, 24, 25, 26, 27, 28, 29, 30, 31, 32, 33, 34] := rfl
theorem ord_97_6 : C.ord 97 6 = [0, 1, 2, 3, 4, 5, 6, 7, 8, 9, 10, 11] := rfl
theorem ro_97_6 : C.ro 97 6 = false := rfl
theorem clr_97_7 : C.clr 97 7 = [35] := rfl
theorem clr_97_8 : C.clr 97 8 = [0, 1, 3, 6, 10, 11, 36, 37, 38] := rfl
theorem clr_97_9 : C.clr 97 9 = [11, 36, 39, 40, 41, 42, 43, 44, 45, 46, 47, 48, 49, 50, 51, 52] := rfl
theorem ord_97_9 : C.ord 97 9 = [0, 1, 2, 3, 4, 5, 6, 7, 8, 9, 14, 10, 11, 12, 13, 15, 16] := rfl
theorem ro_97_9 : C.ro 97 9 = false := rfl
theorem clr_97_10 : C.clr 97 10 = [53] := rfl
theorem clr_97_11 : C.clr 97 11 = [0, 1, 3, 6, 10, 12, 13, 54, 55, 56] := rfl
theorem clr_97_12 : C.clr 97 12 = [12, 13, 54, 57] := rfl
theorem clr_97_3 : C.clr 97 3 = [18, 19] := rfl
theorem clr_97_13 : C.clr 97 13 = [0, 1, 3, 6, 10, 17, 58] := rfl
theorem res_98 : Tryz.f98.results.toList = [.tmp 2] := rfl
theorem esc_98 : C.esc 98 = [] := rfl
theorem clr_98_0 : C.clr 98 0 = [0, 2] := rfl
theorem clr_98_1 : C.clr 98 1 = [1, 3, 4, 5, 6] := rfl
theorem res_99 : Tryz.f99.results.toList = [.tmp 2] := rfl
theorem esc_99 : C.esc 99 = [1] := rfl
theorem clr_99_0 : C.clr 99 0 = [0, 2] := rfl
theorem clr_99_1 : C.clr 99 1 = [1, 3] := rfl
theorem res_100 : Tryz.f100.results.toList = [.tmp 2] := rfl
theorem esc_100 : C.esc 100 = [] := rfl
theorem clr_100_0 : C.clr 100 0 = [0, 2] := rfl
theorem clr_100_1 : C.clr 100 1 = [1, 3, 4, 5] := rfl
theorem res_101 : Tryz.f101.results.toList = [] := rfl
theorem esc_101 : C.esc 101 = [] := rfl
theorem clr_101_0 : C.clr 101 0 = [5] := rfl
theorem clr_101_1 : C.clr 101 1 = [6, 7, 8, 9, 10] := rfl
theorem clr_101_2 : C.clr 101 2 = [4] := rfl
theorem clr_101_3 : C.clr 101 3 = [0, 1, 2, 3, 11, 12, 13] := rfl
theorem clr_101_4 : C.clr 101 4 = [0, 1, 3, 11, 14] := rfl
theorem clr_101_5 : C.clr 101 5 = [2, 15, 16] := rfl
theorem res_102 : Tryz.f102.results.toList = [] := rfl
theorem esc_102 : C.esc 102 = [] := rfl
theorem clr_102_0 : C.clr 102 0 = [0, 2, 3] := rfl
theorem res_103 : Tryz.f103.results.toList = [.cell 2 84] := rfl
theorem esc_103 : C.esc 103 = [] := rfl
theorem clr_103_0 : C.clr 103 0 = [0] := rfl
theorem clr_103_1 : C.clr 103 1 = [6, 7, 8, 9] := rfl
theorem clr_103_2 : C.clr 103 2 = [1, 10] := rfl
theorem clr_103_3 : C.clr 103 3 = [] := rfl
theorem clr_103_4 : C.clr 103 4 = [14, 15, 16] := rfl
theorem clr_103_5 : C.clr 103 5 = [5, 17, 18, 19, 20, 21, 22, 23] := rfl
theorem ord_103_5 : C.ord 103 5 = [0, 1, 2, 3, 4, 5, 6, 7] := rfl
theorem ro_103_5 : C.ro 103 5 = false := rfl
theorem clr_103_6 : C.clr 103 6 = [24] := rfl
theorem clr_103_7 : C.clr 103 7 = [11, 12, 13, 14, 25, 26, 27, 28, 29, 30] := rfl
theorem clr_103_8 : C.clr 103 8 = [3, 31] := rfl
theorem res_104 : Tryz.f104.results.toList = [.cell 6 26] := rfl
theorem esc_104 : C.esc 104 = [] := rfl
theorem clr_104_0 : C.clr 104 0 = [1] := rfl
theorem clr_104_1 : C.clr 104 1 = [7, 8] := rfl
theorem clr_104_2 : C.clr 104 2 = [0, 2, 4, 9, 10] := rfl
theorem clr_104_3 : C.clr 104 3 = [9, 11] := rfl
theorem clr_104_4 : C.clr 104 4 = [14] := rfl
theorem clr_104_5 : C.clr 104 5 = [12, 13, 15, 16, 17, 18] := rfl
theorem clr_104_6 : C.clr 104 6 = [19, 20] := rfl
theorem clr_104_7 : C.clr 104 7 = [0, 2, 4, 19, 21, 22, 23, 24, 25, 26, 27, 28, 29, 30, 31, 32, 33] := rfl
theorem ord_104_7 : C.ord 104 7 = [0, 1, 2, 3, 4, 5, 6, 7, 8, 10, 11, 9, 12, 13] := rfl
theorem ro_104_7 : C.ro 104 7 = false := rfl
theorem clr_104_8 : C.clr 104 8 = [0, 13, 35] := rfl
theorem clr_104_9 : C.clr 104 9 = [36] := rfl
theorem clr_104_10 : C.clr 104 10 = [12, 37] := rfl
theorem clr_104_11 : C.clr 104 11 = [2, 4, 12, 34, 38, 39, 40, 41, 42, 43, 44, 45, 46, 47] := rfl
theorem ord_104_11 : C.ord 104 11 = [0, 1, 2, 3, 4, 5, 6, 7, 8, 9, 10] := rfl
theorem ro_104_11 : C.ro 104 11 = false := rfl
theorem clr_104_12 : C.clr 104 12 = [2, 12, 34, 48] := rfl
theorem clr_104_13 : C.clr 104 13 = [4, 49] := rfl
theorem res_105 : Tryz.f105.results.toList = [.cell 4 26] := rfl
theorem esc_105 : C.esc 105 = [] := rfl
theorem clr_105_0 : C.clr 105 0 = [0] := rfl
theorem clr_105_1 : C.clr 105 1 = [5, 6, 7, 8] := rfl
theorem clr_105_2 : C.clr 105 2 = [1, 2, 9, 10, 11, 12, 13, 14, 15, 16, 17, 18, 19, 20] := rfl
theorem clr_105_3 : C.clr 105 3 = [1, 2, 9, 21, 22, 23, 24, 25, 26, 27, 28, 29] := rfl
theorem res_106 : Tryz.f106.results.toList = [.tmp 6] := rfl
theorem esc_106 : C.esc 106 = [] := rfl
theorem clr_106_0 : C.clr 106 0 = [0, 6] := rfl
theorem clr_106_1 : C.clr 106 1 = [1, 2, 3, 7, 8, 9, 10, 11, 12, 13, 14, 15, 16, 17, 18, 19, 20, 21, 22, 23, 24] := rfl
theorem res_107 : Tryz.f107.results.toList = [.cell 2 26] := rfl
theorem esc_107 : C.esc 107 = [] := rfl
theorem clr_107_0 : C.clr 107 0 = [0] := rfl
theorem clr_107_1 : C.clr 107 1 = [] := rfl
theorem clr_107_2 : C.clr 107 2 = [6] := rfl
theorem clr_107_3 : C.clr 107 3 = [] := rfl
theorem clr_107_4 : C.clr 107 4 = [10, 11, 12] := rfl
theorem clr_107_5 : C.clr 107 5 = [5, 13, 14, 15, 16, 17] := rfl
theorem clr_107_6 : C.clr 107 6 = [18] := rfl
theorem clr_107_7 : C.clr 107 7 = [1, 3, 7, 8, 9, 10, 19, 20, 21, 22, 23, 24] := rfl
theorem res_108 : Tryz.f108.results.toList = [.cell 6 26, .tmp 7] := rfl
theorem esc_108 : C.esc 108 = [3, 4, 5] := rfl
theorem clr_108_0 : C.clr 108 0 = [0, 1, 2, 7] := rfl
theorem clr_108_1 : C.clr 108 1 = [11, 12] := rfl
theorem clr_108_2 : C.clr 108 2 = [13, 14] := rfl
theorem clr_108_3 : C.clr 108 3 = [15, 16, 17, 18, 19, 20, 21, 22, 23] := rfl
theorem clr_108_4 : C.clr 108 4 = [9, 15, 24] := rfl
theorem clr_108_5 : C.clr 108 5 = [3, 4, 5, 8, 25, 26] := rfl
theorem clr_108_6 : C.clr 108 6 = [4, 5, 25, 27, 28, 29, 30, 31, 32, 33] := rfl
theorem clr_108_7 : C.clr 108 7 = [9, 34] := rfl
theorem clr_108_8 : C.clr 108 8 = [3, 8, 10, 35, 36] := rfl
theorem clr_108_9 : C.clr 108 9 = [3, 8, 10, 35, 37, 38, 39, 40, 41] := rfl
theorem res_109 : Tryz.f109.results.toList = [.tmp 6, .tmp 7] := rfl
theorem esc_109 : C.esc 109 = [] := rfl
theorem clr_109_0 : C.clr 109 0 = [0, 6, 7] := rfl
theorem clr_109_1 : C.clr 109 1 = [2, 8, 9, 10, 11, 12] := rfl
theorem clr_109_2 : C.clr 109 2 = [1, 3, 13, 14, 15, 16, 17] := rfl
theorem clr_109_3 : C.clr 109 3 = [1, 3, 13, 18] := rfl
theorem res_110 : Tryz.f110.results.toList = [.tmp 2] := rfl
theorem esc_110 : C.esc 110 = [] := rfl
theorem clr_110_0 : C.clr 110 0 = [0, 2] := rfl
theorem clr_110_1 : C.clr 110 1 = [5, 6, 7, 8, 9, 10, 11, 12, 13, 14, 15, 16, 17] := rfl
theorem clr_110_2 : C.clr 110 2 = [1, 18] := rfl
theorem clr_110_3 : C.clr 110 3 = [18] := rfl
theorem clr_110_4 : C.clr 110 4 = [19, 20, 21, 22] := rfl
theorem clr_110_6 : C.clr 110 6 = [23, 26, 27, 28, 29, 30, 31] := rfl
theorem clr_110_7 : C.clr 110 7 = [4, 32] := rfl
theorem clr_110_8 : C.clr 110 8 = [1, 3, 33] := rfl
theorem clr_110_5 : C.clr 110 5 = [24, 25, 33] := rfl
theorem clr_110_9 : C.clr 110 9 = [1, 3, 23] := rfl
theorem res_111 : Tryz.f111.results.toList = [.cell 6 26] := rfl
theorem esc_111 : C.esc 111 = [] := rfl
theorem clr_111_0 : C.clr 111 0 = [1, 2] := rfl
theorem clr_111_1 : C.clr 111 1 = [11, 12, 13, 14, 15, 16, 17, 18] := rfl
theorem clr_111_2 : C.clr 111 2 = [19, 20, 21, 22] := rfl
theorem clr_111_3 : C.clr 111 3 = [0, 4, 5, 23, 24, 25] := rfl
theorem clr_111_4 : C.clr 111 4 = [23] := rfl
theorem clr_111_5 : C.clr 111 5 = [] := rfl
theorem clr_111_6 : C.clr 111 6 = [26, 27, 28, 29] := rfl
theorem clr_111_8 : C.clr 111 8 = [30, 33] := rfl
theorem clr_111_9 : C.clr 111 9 = [34, 35, 36] := rfl
theorem clr_111_10 : C.clr 111 10 = [37, 38, 39] := rfl
theorem clr_111_11 : C.clr 111 11 = [9, 37, 40, 41, 42, 43, 44, 45, 46, 47] := rfl
theorem ord_111_11 : C.ord 111 11 = [0, 1, 2, 3, 4, 5, 6, 8, 7, 9] := rfl
theorem ro_111_11 : C.ro 111 11 = false := rfl
theorem clr_111_12 : C.clr 111 12 = [48, 49, 50, 51] := rfl
theorem clr_111_13 : C.clr 111 13 = [0, 4, 5, 7, 8, 10, 52, 53] := rfl
theorem clr_111_14 : C.clr 111 14 = [10, 52, 54, 55, 56, 57] := rfl
theorem clr_111_7 : C.clr 111 7 = [31, 32] := rfl
theorem clr_111_15 : C.clr 111 15 = [8, 30, 58, 59] := rfl
theorem clr_111_16 : C.clr 111 16 = [0, 4, 5, 7, 60, 61, 62, 63, 64, 65, 66, 67] := rfl
theorem clr_111_17 : C.clr 111 17 = [0, 4, 5, 7, 60, 68, 69, 70, 71, 72, 73] := rfl
theorem res_112 : Tryz.f112.results.toList = [.cell 4 26, .tmp 5] := rfl
theorem esc_112 : C.esc 112 = [] := rfl
theorem clr_112_0 : C.clr 112 0 = [1, 5] := rfl
theorem clr_112_1 : C.clr 112 1 = [7, 8] := rfl
theorem clr_112_2 : C.clr 112 2 = [6, 9, 10, 11, 12, 13, 14, 15, 16] := rfl
theorem clr_112_3 : C.clr 112 3 = [17, 18, 19, 20] := rfl
theorem clr_112_4 : C.clr 112 4 = [17, 21, 22, 23, 24] := rfl
theorem clr_112_5 : C.clr 112 5 = [0, 3, 25, 26, 27, 28, 29, 30] := rfl
theorem ord_112_5 : C.ord 112 5 = [0, 1, 2, 3, 4, 5, 6] := rfl
theorem ro_112_5 : C.ro 112 5 = false := rfl
theorem clr_112_6 : C.clr 112 6 = [0, 3, 25, 31] := rfl
theorem res_113 : Tryz.f113.results.toList = [.cell 6 26] := rfl
theorem esc_113 : C.esc 113 = [] := rfl
theorem clr_113_0 : C.clr 113 0 = [0] := rfl
theorem clr_113_1 : C.clr 113 1 = [8, 9, 10, 11] := rfl
theorem clr_113_2 : C.clr 113 2 = [7, 12] := rfl
theorem clr_113_3 : C.clr 113 3 = [1, 2, 3, 13, 14, 15] := rfl
theorem clr_113_4 : C.clr 113 4 = [1, 2, 3, 13, 16, 17, 18, 19] := rfl
theorem res_114 : Tryz.f114.results.toList = [.cell 6 26, .tmp 7] := rfl
theorem esc_114 : C.esc 114 = [] := rfl
theorem clr_114_0 : C.clr 114 0 = [2, 7] := rfl
theorem clr_114_1 : C.clr 114 1 = [15, 16, 17, 18, 19, 20, 21] := rfl
theorem ord_114_1 : C.ord 114 1 = [0, 1, 2, 3, 4, 5, 6, 7] := rfl
theorem ro_114_1 : C.ro 114 1 = true := rfl
theorem clr_114_2 : C.clr 114 2 = [0, 1, 5, 22, 23] := rfl
theorem clr_114_3 : C.clr 114 3 = [22, 24, 25, 26, 27, 28, 29, 30, 31] := rfl
theorem ord_114_3 : C.ord 114 3 = [0, 1, 2, 3, 4, 5, 6, 7, 8, 9] := rfl
theorem ro_114_3 : C.ro 114 3 = false := rfl
theorem clr_114_4 : C.clr 114 4 = [32, 33, 34, 35, 36, 37] := rfl
theorem clr_114_5 : C.clr 114 5 = [0, 1, 5, 8, 38, 39] := rfl
theorem clr_114_6 : C.clr 114 6 = [38] := rfl
theorem clr_114_7 : C.clr 114 7 = [40, 41, 42, 43] := rfl
theorem clr_114_9 : C.clr 114 9 = [44, 47, 48, 49, 50, 51, 52, 53, 54, 55, 56, 57, 58, 59, 60, 61, 62] := rfl
theorem ord_114_9 : C.ord 114 9 = [0, 1, 2, 3, 4, 5, 6, 7, 8, 9, 10, 11, 16, 12, 13, 14, 15, 17, 18] := rfl
theorem ro_114_9 : C.ro 114 9 = false := rfl
theorem clr_114_10 : C.clr 114 10 = [63] := rfl
theorem clr_114_11 : C.clr 114 11 = [0, 1, 5, 8, 9, 10, 11, 64, 65, 66] := rfl
theorem clr_114_12 : C.clr 114 12 = [10, 11, 64, 67, 68, 69, 70, 71, 72, 73, 74, 75] := rfl
theorem ord_114_12 : C.ord 114 12 = [0, 1, 2, 3, 4, 5, 6, 7, 8, 9] := rfl
theorem ro_114_12 : C.ro 114 12 = false := rfl
theorem clr_114_13 : C.clr 114 13 = [76] := rfl
theorem clr_114_14 : C.clr 114 14 = [0, 1, 5, 8, 9, 12, 77, 78, 79] := rfl
theorem clr_114_8 : C.clr 114 8 = [12, 45, 46, 77] := rfl
theorem clr_114_15 : C.clr 114 15 = [0, 1, 5, 8, 9, 44, 80, 81, 82, 83, 84, 85, 86, 87, 88, 89, 90] := rfl
theorem clr_114_16 : C.clr 114 16 = [13, 14, 91, 92] := rfl
theorem res_115 : Tryz.f115.results.toList = [.tmp 2, .cell 3 26] := rfl
theorem esc_115 : C.esc 115 = [] := rfl
theorem clr_115_0 : C.clr 115 0 = [0, 2] := rfl
theorem clr_115_1 : C.clr 115 1 = [] := rfl
theorem clr_115_2 : C.clr 115 2 = [5, 6, 7, 8, 9, 10, 11, 12] := rfl
theorem clr_115_3 : C.clr 115 3 = [13, 14, 15, 16, 17, 18, 19, 20] := rfl
theorem clr_115_4 : C.clr 115 4 = [21, 22, 23, 24] := rfl
theorem clr_115_5 : C.clr 115 5 = [1, 4, 13, 25, 26] := rfl
theorem ord_115_5 : C.ord 115 5 = [0, 1, 2, 3] := rfl
theorem ro_115_5 : C.ro 115 5 = false := rfl
theorem res_116 : Tryz.f116.results.toList = [.cell 2 26] := rfl
theorem esc_116 : C.esc 116 = [1] := rfl
theorem clr_116_0 : C.clr 116 0 = [0] := rfl
theorem clr_116_1 : C.clr 116 1 = [5] := rfl
theorem clr_116_2 : C.clr 116 2 = [2, 6, 7, 8] := rfl
theorem clr_116_3 : C.clr 116 3 = [1, 4, 9] := rfl
theorem clr_116_4 : C.clr 116 4 = [1, 6, 10] := rfl
theorem res_117 : Tryz.f117.results.toList = [] := rfl
theorem esc_117 : C.esc 117 = [] := rfl
theorem clr_117_0 : C.clr 117 0 = [0, 1, 3, 4, 5] := rfl
theorem res_118 : Tryz.f118.results.toList = [.tmp 6] := rfl
theorem esc_118 : C.esc 118 = [] := rfl
theorem clr_118_0 : C.clr 118 0 = [0, 6] := rfl
theorem clr_118_1 : C.clr 118 1 = [10, 11, 12, 13] := rfl
theorem clr_118_2 : C.clr 118 2 = [1, 2, 3, 14] := rfl
theorem clr_118_3 : C.clr 118 3 = [14, 15] := rfl
theorem clr_118_4 : C.clr 118 4 = [] := rfl
theorem clr_118_5 : C.clr 118 5 = [19, 20, 21, 22] := rfl
theorem clr_118_6 : C.clr 118 6 = [23] := rfl
theorem clr_118_7 : C.clr 118 7 = [7, 24, 25, 26, 27, 28, 29, 30, 31, 32] := rfl
theorem clr_118_8 : C.clr 118 8 = [33, 34, 35] := rfl
theorem clr_118_9 : C.clr 118 9 = [8, 9, 33, 36, 37, 38, 39] := rfl
theorem clr_118_10 : C.clr 118 10 = [1, 2, 3, 16, 17, 18, 40] := rfl
theorem clr_118_11 : C.clr 118 11 = [40, 41] := rfl
theorem clr_118_12 : C.clr 118 12 = [1, 2, 3, 16, 17, 18, 19] := rfl
theorem res_119 : Tryz.f119.results.toList = [.tmp 4, .tmp 5] := rfl
theorem esc_119 : C.esc 119 = [] := rfl
theorem clr_119_0 : C.clr 119 0 = [4, 5] := rfl
theorem clr_119_1 : C.clr 119 1 = [] := rfl
theorem clr_119_2 : C.clr 119 2 = [0] := rfl
theorem clr_119_3 : C.clr 119 3 = [] := rfl
theorem clr_119_4 : C.clr 119 4 = [14, 15, 16, 17] := rfl
theorem clr_119_5 : C.clr 119 5 = [7, 8, 18, 19, 20, 21, 22, 23, 24] := rfl
theorem clr_119_6 : C.clr 119 6 = [10, 25] := rfl
theorem clr_119_7 : C.clr 119 7 = [1, 6, 9, 11, 12, 13, 26] := rfl
theorem clr_119_8 : C.clr 119 8 = [9, 26, 27, 28, 29, 30] := rfl
theorem clr_119_9 : C.clr 119 9 = [31] := rfl
theorem clr_119_10 : C.clr 119 10 = [1, 6, 11, 12, 13, 14, 32] := rfl
theorem res_120 : Tryz.f120.results.toList = [.cell 7 26, .tmp 8] := rfl
theorem esc_120 : C.esc 120 = [] := rfl
theorem clr_120_0 : C.clr 120 0 = [1, 8] := rfl
theorem clr_120_1 : C.clr 120 1 = [2, 10] := rfl
theorem clr_120_2 : C.clr 120 2 = [0, 3, 11, 12, 13, 14, 15, 16, 17, 18, 19, 20, 21, 22, 23, 24, 25] := rfl
theorem clr_120_3 : C.clr 120 3 = [26, 27, 28] := rfl
theorem clr_120_4 : C.clr 120 4 = [4, 6, 9, 26, 29, 30, 31, 32, 33, 34] := rfl
theorem res_121 : Tryz.f121.results.toList = [.cell 4 26] := rfl
theorem esc_121 : C.esc 121 = [] := rfl
theorem clr_121_0 : C.clr 121 0 = [] := rfl
theorem clr_121_1 : C.clr 121 1 = [5, 6, 7, 8] := rfl
theorem clr_121_2 : C.clr 121 2 = [0, 1, 9, 10, 11, 12, 13] := rfl
theorem clr_121_3 : C.clr 121 3 = [0, 1, 9, 14] := rfl
theorem res_122 : Tryz.f122.results.toList = [.cell 2 84] := rfl
theorem esc_122 : C.esc 122 = [] := rfl
theorem clr_122_0 : C.clr 122 0 = [0] := rfl
theorem clr_122_1 : C.clr 122 1 = [5, 6, 7, 8] := rfl
theorem clr_122_2 : C.clr 122 2 = [] := rfl
theorem clr_122_3 : C.clr 122 3 = [9, 10, 11, 12] := rfl
theorem clr_122_5 : C.clr 122 5 = [13, 16, 17, 18, 19, 20, 21, 22, 23, 24, 25, 26] := rfl
theorem ord_122_5 : C.ord 122 5 = [0, 1, 2, 3, 4, 5, 6, 7, 8, 9, 10, 11] := rfl
theorem ro_122_5 : C.ro 122 5 = false := rfl
theorem clr_122_4 : C.clr 122 4 = [14, 15] := rfl
theorem clr_122_6 : C.clr 122 6 = [1, 4, 13, 27, 28, 29, 30, 31, 32] := rfl
theorem clr_122_7 : C.clr 122 7 = [3, 33] := rfl
theorem res_123 : Tryz.f123.results.toList = [.cell 6 26] := rfl
theorem esc_123 : C.esc 123 = [] := rfl
theorem clr_123_0 : C.clr 123 0 = [1] := rfl
theorem clr_123_1 : C.clr 123 1 = [9, 10, 11, 12, 13, 14, 15] := rfl
theorem clr_123_2 : C.clr 123 2 = [16, 17, 18, 19, 20] := rfl
theorem clr_123_3 : C.clr 123 3 = [7, 21] := rfl
theorem clr_123_4 : C.clr 123 4 = [0, 2, 4, 22, 23, 24] := rfl
theorem clr_123_5 : C.clr 123 5 = [22, 25, 26, 27, 28, 29, 30, 31, 32, 33, 34, 35] := rfl
theorem ord_123_5 : C.ord 123 5 = [0, 1, 2, 3, 4, 5, 6, 7, 8, 9, 10, 11] := rfl
theorem ro_123_5 : C.ro 123 5 = false := rfl
theorem clr_123_6 : C.clr 123 6 = [36, 37, 38, 39] := rfl
theorem clr_123_7 : C.clr 123 7 = [0, 2, 4, 40, 41] := rfl
theorem clr_123_8 : C.clr 123 8 = [40, 42, 43] := rfl
theorem clr_123_9 : C.clr 123 9 = [16, 44, 45] := rfl
theorem clr_123_10 : C.clr 123 10 = [0, 2, 4, 46, 47] := rfl
theorem clr_123_11 : C.clr 123 11 = [46, 48, 49, 50, 51, 52, 53, 54, 55, 56, 57, 58, 59] := rfl
theorem clr_123_12 : C.clr 123 12 = [0, 2, 4, 60, 61, 62] := rfl
theorem clr_123_13 : C.clr 123 13 = [0, 60, 63, 64, 65] := rfl
theorem clr_123_14 : C.clr 123 14 = [2, 66, 67, 68] := rfl
theorem clr_123_15 : C.clr 123 15 = [4, 8, 69, 70, 71, 72, 73, 74] := rfl
theorem res_124 : Tryz.f124.results.toList = [.cell 4 26] := rfl
theorem esc_124 : C.esc 124 = [] := rfl
theorem clr_124_0 : C.clr 124 0 = [0] := rfl
theorem clr_124_1 : C.clr 124 1 = [5, 6, 7, 8] := rfl
theorem clr_124_2 : C.clr 124 2 = [1, 2, 9, 10, 11, 12, 13, 14, 15, 16, 17, 18, 19, 20] := rfl
theorem clr_124_3 : C.clr 124 3 = [1, 2, 9, 21, 22, 23, 24, 25, 26, 27, 28, 29] := rfl
theorem res_125 : Tryz.f125.results.toList = [.tmp 6] := rfl
theorem esc_125 : C.esc 125 = [] := rfl
theorem clr_125_0 : C.clr 125 0 = [0, 6] := rfl
theorem clr_125_1 : C.clr 125 1 = [3, 8, 9] := rfl
theorem clr_125_2 : C.clr 125 2 = [1, 2, 7, 10, 11, 12, 13, 14, 15, 16, 17, 18, 19, 20, 21, 22, 23, 24, 25, 26] := rfl
theorem res_126 : Tryz.f126.results.toList = [.cell 6 26] := rfl
theorem esc_126 : C.esc 126 = [] := rfl
theorem clr_126_0 : C.clr 126 0 = [0] := rfl
theorem clr_126_1 : C.clr 126 1 = [9, 10, 11, 12, 13] := rfl
theorem clr_126_2 : C.clr 126 2 = [14, 15, 16, 17, 18, 19, 20, 21] := rfl
theorem clr_126_3 : C.clr 126 3 = [22, 23, 24, 25, 26, 27] := rfl
theorem clr_126_4 : C.clr 126 4 = [22] := rfl
theorem clr_126_5 : C.clr 126 5 = [28, 29, 30, 31] := rfl
theorem clr_126_7 : C.clr 126 7 = [32, 35, 36, 37, 38, 39, 40, 41, 42, 43, 44, 45, 46, 47, 48, 49, 50, 51] := rfl
theorem ord_126_7 : C.ord 126 7 = [0, 1, 2, 3, 4, 5, 6, 7, 8, 9, 10, 11, 12, 13, 14, 15, 16, 17] := rfl
theorem ro_126_7 : C.ro 126 7 = false := rfl
theorem clr_126_6 : C.clr 126 6 = [33, 34] := rfl
theorem clr_126_8 : C.clr 126 8 = [1, 2, 3, 7, 8, 32, 52] := rfl
theorem res_127 : Tryz.f127.results.toList = [.tmp 2] := rfl
theorem esc_127 : C.esc 127 = [1] := rfl
theorem clr_127_0 : C.clr 127 0 = [0, 2] := rfl
theorem clr_127_1 : C.clr 127 1 = [1, 3] := rfl
theorem res_128 : Tryz.f128.results.toList = [.tmp 2] := rfl
theorem esc_128 : C.esc 128 = [] := rfl
theorem clr_128_0 : C.clr 128 0 = [0, 2] := rfl
theorem clr_128_1 : C.clr 128 1 = [1, 3, 4, 5, 6, 7, 8, 9, 10] := rfl
theorem res_129 : Tryz.f129.results.toList = [] := rfl
theorem esc_129 : C.esc 129 = [] := rfl
theorem clr_129_0 : C.clr 129 0 = [3, 4, 5, 6, 7, 8, 9, 10] := rfl
theorem clr_129_1 : C.clr 129 1 = [11, 12, 13, 14, 15, 16, 17, 18, 19, 20, 21] := rfl
theorem ord_129_1 : C.ord 129 1 = [0, 1, 2, 3, 4, 5, 6, 7, 8, 9, 10] := rfl
theorem ro_129_1 : C.ro 129 1 = false := rfl
theorem clr_129_2 : C.clr 129 2 = [22, 23, 24, 25, 26] := rfl
attribute [go_sem] tsz_1 tag_1 tcon_1 tstr_1 tbool_1 tslc_1 tarr_1 tby_1 tzr_1 tsz_2 tag_2 tcon_2 tstr_2 tbool_2 tslc_2 tarr_2 tby_2 tzr_2 tsz_3 tag_3 tcon_3 tstr_3 tbool_3 tslc_3 tarr_3 tby_3 tzr_3 tsz_4 tag_4 tcon_4 tstr_4 tbool_4 tslc_4 tarr_4 tby_4 tzr_4 tsz_5 tag_5 tcon_5 tstr_5
attribute [go_sem] tbool_5 tslc_5 tarr_5 tby_5 tzr_5 tsz_9 tag_9 tcon_9 tstr_9 tbool_9 tslc_9 tarr_9 tby_9 tzr_9 tsz_12 tag_12 tcon_12 tstr_12 tbool_12 tslc_12 tarr_12 tby_12 tzr_12 tsz_20 tag_20 tcon_20 tstr_20 tbool_20 tslc_20 tarr_20 tby_20 tzr_20 tsz_21 tag_21 tcon_21 tstr_21 tbool_21 tslc_21 tarr_21 tby_21
attribute [go_sem] tzr_21 tsz_22 tag_22 tcon_22 tstr_22 tbool_22 tslc_22 tarr_22 tby_22 tzr_22 tsz_23 tag_23 tcon_23 tstr_23 tbool_23 tslc_23 tarr_23 tby_23 tzr_23 tsz_24 tag_24 tcon_24 tstr_24 tbool_24 tslc_24 tarr_24 tby_24 tzr_24 tsz_25 tag_25 tcon_25 tstr_25 tbool_25 tslc_25 tarr_25 tby_25 tzr_25 tfld_25_0 place_25_0 tfld_25_1
attribute [go_sem] place_25_1 tfld_25_2 place_25_2 tbld_25 tsz_26 tag_26 tcon_26 tstr_26 tbool_26 tslc_26 tarr_26 tby_26 tzr_26 tfld_26_0 place_26_0 tfld_26_1 place_26_1 tfld_26_2 place_26_2 tbld_26 tsz_27 tag_27 tcon_27 tstr_27 tbool_27 tslc_27 tarr_27 tby_27 tzr_27 tsz_28 tag_28 tcon_28 tstr_28 tbool_28 tslc_28 tarr_28 tby_28 tzr_28 tsz_29 tag_29
attribute [go_sem] tcon_29 tstr_29 tbool_29 tslc_29 tarr_29 tby_29 tzr_29 tsz_30 tag_30 tcon_30 tstr_30 tbool_30 tslc_30 tarr_30 tby_30 tzr_30 tsz_31 tag_31 tcon_31 tstr_31 tbool_31 tslc_31 tarr_31 tby_31 tzr_31 tfld_31_0 place_31_0 tfld_31_1 place_31_1 tfld_31_2 place_31_2 tbld_31 tsz_32 tag_32 tcon_32 tstr_32 tbool_32 tslc_32 tarr_32 tby_32
attribute [go_sem] tzr_32 tfld_32_0 place_32_0 tfld_32_1 place_32_1 tfld_32_2 place_32_2 tbld_32 tsz_33 tag_33 tcon_33 tstr_33 tbool_33 tslc_33 tarr_33 tby_33 tzr_33 tsz_35 tag_35 tcon_35 tstr_35 tbool_35 tslc_35 tarr_35 tby_35 tzr_35 tsz_36 tag_36 tcon_36 tstr_36 tbool_36 tslc_36 tarr_36 tby_36 tzr_36 tsz_37 tag_37 tcon_37 tstr_37 tbool_37
attribute [go_sem] tslc_37 tarr_37 tby_37 tzr_37 tsz_38 tag_38 tcon_38 tstr_38 tbool_38 tslc_38 tarr_38 tby_38 tzr_38 tsz_39 tag_39 tcon_39 tstr_39 tbool_39 tslc_39 tarr_39 tby_39 tzr_39 tsz_40 tag_40 tcon_40 tstr_40 tbool_40 tslc_40 tarr_40 tby_40 tzr_40 tsz_41 tag_41 tcon_41 tstr_41 tbool_41 tslc_41 tarr_41 tby_41 tzr_41
attribute [go_sem] tsz_42 tag_42 tcon_42 tstr_42 tbool_42 tslc_42 tarr_42 tby_42 tzr_42 tsz_43 tag_43 tcon_43 tstr_43 tbool_43 tslc_43 tarr_43 tby_43 tzr_43 tsz_44 tag_44 tcon_44 tstr_44 tbool_44 tslc_44 tarr_44 tby_44 tzr_44 tsz_45 tag_45 tcon_45 tstr_45 tbool_45 tslc_45 tarr_45 tby_45 tzr_45 tsz_46 tag_46 tcon_46 tstr_46
attribute [go_sem] tbool_46 tslc_46 tarr_46 tby_46 tzr_46 tsz_47 tag_47 tcon_47 tstr_47 tbool_47 tslc_47 tarr_47 tby_47 tzr_47 tsz_48 tag_48 tcon_48 tstr_48 tbool_48 tslc_48 tarr_48 tby_48 tzr_48 tsz_49 tag_49 tcon_49 tstr_49 tbool_49 tslc_49 tarr_49 tby_49 tzr_49 tsz_50 tag_50 tcon_50 tstr_50 tbool_50 tslc_50 tarr_50 tby_50
attribute [go_sem] tzr_50 tsz_51 tag_51 tcon_51 tstr_51 tbool_51 tslc_51 tarr_51 tby_51 tzr_51 tsz_52 tag_52 tcon_52 tstr_52 tbool_52 tslc_52 tarr_52 tby_52 tzr_52 tsz_53 tag_53 tcon_53 tstr_53 tbool_53 tslc_53 tarr_53 tby_53 tzr_53 tsz_54 tag_54 tcon_54 tstr_54 tbool_54 tslc_54 tarr_54 tby_54 tzr_54 tsz_56 tag_56 tcon_56
attribute [go_sem] tstr_56 tbool_56 tslc_56 tarr_56 tby_56 tzr_56 tsz_58 tag_58 tcon_58 tstr_58 tbool_58 tslc_58 tarr_58 tby_58 tzr_58 tsz_59 tag_59 tcon_59 tstr_59 tbool_59 tslc_59 tarr_59 tby_59 tzr_59 tsz_60 tag_60 tcon_60 tstr_60 tbool_60 tslc_60 tarr_60 tby_60 tzr_60 tsz_61 tag_61 tcon_61 tstr_61 tbool_61 tslc_61 tarr_61
attribute [go_sem] tby_61 tzr_61 tsz_62 tag_62 tcon_62 tstr_62 tbool_62 tslc_62 tarr_62 tby_62 tzr_62 tsz_63 tag_63 tcon_63 tstr_63 tbool_63 tslc_63 tarr_63 tby_63 tzr_63 tfld_63_0 place_63_0 tfld_63_1 place_63_1 tbld_63 tsz_64 tag_64 tcon_64 tstr_64 tbool_64 tslc_64 tarr_64 tby_64 tzr_64 tfld_64_0 place_64_0 tfld_64_1 place_64_1 tbld_64 tsz_65
attribute [go_sem] tag_65 tcon_65 tstr_65 tbool_65 tslc_65 tarr_65 tby_65 tzr_65 tsz_66 tag_66 tcon_66 tstr_66 tbool_66 tslc_66 tarr_66 tby_66 tzr_66 tsz_67 tag_67 tcon_67 tstr_67 tbool_67 tslc_67 tarr_67 tby_67 tzr_67 tsz_68 tag_68 tcon_68 tstr_68 tbool_68 tslc_68 tarr_68 tby_68 tzr_68 tsz_69 tag_69 tcon_69 tstr_69 tbool_69
attribute [go_sem] tslc_69 tarr_69 tby_69 tzr_69 tsz_70 tag_70 tcon_70 tstr_70 tbool_70 tslc_70 tarr_70 tby_70 tzr_70 tsz_71 tag_71 tcon_71 tstr_71 tbool_71 tslc_71 tarr_71 tby_71 tzr_71 tsz_72 tag_72 tcon_72 tstr_72 tbool_72 tslc_72 tarr_72 tby_72 tzr_72 tfld_72_0 place_72_0 tfld_72_1 place_72_1 tfld_72_2 place_72_2 tbld_72 tsz_73 tag_73
attribute [go_sem] tcon_73 tstr_73 tbool_73 tslc_73 tarr_73 tby_73 tzr_73 tfld_73_0 place_73_0 tfld_73_1 place_73_1 tfld_73_2 place_73_2 tbld_73 tsz_74 tag_74 tcon_74 tstr_74 tbool_74 tslc_74 tarr_74 tby_74 tzr_74 tsz_75 tag_75 tcon_75 tstr_75 tbool_75 tslc_75 tarr_75 tby_75 tzr_75 tsz_76 tag_76 tcon_76 tstr_76 tbool_76 tslc_76 tarr_76 tby_76
attribute [go_sem] tzr_76 tsz_77 tag_77 tcon_77 tstr_77 tbool_77 tslc_77 tarr_77 tby_77 tzr_77 tsz_78 tag_78 tcon_78 tstr_78 tbool_78 tslc_78 tarr_78 tby_78 tzr_78 tsz_79 tag_79 tcon_79 tstr_79 tbool_79 tslc_79 tarr_79 tby_79 tzr_79 tsz_80 tag_80 tcon_80 tstr_80 tbool_80 tslc_80 tarr_80 tby_80 tzr_80 tsz_81 tag_81 tcon_81
attribute [go_sem] tstr_81 tbool_81 tslc_81 tarr_81 tby_81 tzr_81 tsz_82 tag_82 tcon_82 tstr_82 tbool_82 tslc_82 tarr_82 tby_82 tzr_82 tsz_83 tag_83 tcon_83 tstr_83 tbool_83 tslc_83 tarr_83 tby_83 tzr_83 tfld_83_0 place_83_0 tfld_83_1 place_83_1 tbld_83 tsz_84 tag_84 tcon_84 tstr_84 tbool_84 tslc_84 tarr_84 tby_84 tzr_84 tfld_84_0 place_84_0
attribute [go_sem] tfld_84_1 place_84_1 tbld_84 tsz_85 tag_85 tcon_85 tstr_85 tbool_85 tslc_85 tarr_85 tby_85 tzr_85 tsz_86 tag_86 tcon_86 tstr_86 tbool_86 tslc_86 tarr_86 tby_86 tzr_86 tsz_87 tag_87 tcon_87 tstr_87 tbool_87 tslc_87 tarr_87 tby_87 tzr_87 tsz_88 tag_88 tcon_88 tstr_88 tbool_88 tslc_88 tarr_88 tby_88 tzr_88 tsz_89
attribute [go_sem] tag_89 tcon_89 tstr_89 tbool_89 tslc_89 tarr_89 tby_89 tzr_89 tsz_90 tag_90 tcon_90 tstr_90 tbool_90 tslc_90 tarr_90 tby_90 tzr_90 tsz_91 tag_91 tcon_91 tstr_91 tbool_91 tslc_91 tarr_91 tby_91 tzr_91 tsz_92 tag_92 tcon_92 tstr_92 tbool_92 tslc_92 tarr_92 tby_92 tzr_92 place_92_0 place_92_1 place_92_2 place_92_3 place_92_4
attribute [go_sem] place_92_5 place_92_6 tbld_92 tsz_93 tag_93 tcon_93 tstr_93 tbool_93 tslc_93 tarr_93 tby_93 tzr_93 tsz_94 tag_94 tcon_94 tstr_94 tbool_94 tslc_94 tarr_94 tby_94 tzr_94 tsz_95 tag_95 tcon_95 tstr_95 tbool_95 tslc_95 tarr_95 tby_95 tzr_95 tsz_96 tag_96 tcon_96 tstr_96 tbool_96 tslc_96 tarr_96 tby_96 tzr_96 tfld_96_0
attribute [go_sem] place_96_0 tfld_96_1 place_96_1 tbld_96 tsz_97 tag_97 tcon_97 tstr_97 tbool_97 tslc_97 tarr_97 tby_97 tzr_97 tfld_97_0 place_97_0 tfld_97_1 place_97_1 tbld_97 tsz_98 tag_98 tcon_98 tstr_98 tbool_98 tslc_98 tarr_98 tby_98 tzr_98 tsz_99 tag_99 tcon_99 tstr_99 tbool_99 tslc_99 tarr_99 tby_99 tzr_99 tsz_100 tag_100 tcon_100 tstr_100
attribute [go_sem] tbool_100 tslc_100 tarr_100 tby_100 tzr_100 tsz_101 tag_101 tcon_101 tstr_101 tbool_101 tslc_101 tarr_101 tby_101 tzr_101 tsz_102 tag_102 tcon_102 tstr_102 tbool_102 tslc_102 tarr_102 tby_102 tzr_102 tsz_103 tag_103 tcon_103 tstr_103 tbool_103 tslc_103 tarr_103 tby_103 tzr_103 tsz_104 tag_104 tcon_104 tstr_104 tbool_104 tslc_104 tarr_104 tby_104
attribute [go_sem] tzr_104 tsz_105 tag_105 tcon_105 tstr_105 tbool_105 tslc_105 tarr_105 tby_105 tzr_105 tsz_106 tag_106 tcon_106 tstr_106 tbool_106 tslc_106 tarr_106 tby_106 tzr_106 tsz_107 tag_107 tcon_107 tstr_107 tbool_107 tslc_107 tarr_107 tby_107 tzr_107 tsz_108 tag_108 tcon_108 tstr_108 tbool_108 tslc_108 tarr_108 tby_108 tzr_108 tsz_109 tag_109 tcon_109
attribute [go_sem] tstr_109 tbool_109 tslc_109 tarr_109 tby_109 tzr_109 tsz_110 tag_110 tcon_110 tstr_110 tbool_110 tslc_110 tarr_110 tby_110 tzr_110 tsz_111 tag_111 tcon_111 tstr_111 tbool_111 tslc_111 tarr_111 tby_111 tzr_111 tsz_112 tag_112 tcon_112 tstr_112 tbool_112 tslc_112 tarr_112 tby_112 tzr_112 tsz_113 tag_113 tcon_113 tstr_113 tbool_113 tslc_113 tarr_113
attribute [go_sem] tby_113 tzr_113 tsz_114 tag_114 tcon_114 tstr_114 tbool_114 tslc_114 tarr_114 tby_114 tzr_114 tsz_115 tag_115 tcon_115 tstr_115 tbool_115 tslc_115 tarr_115 tby_115 tzr_115 tsz_116 tag_116 tcon_116 tstr_116 tbool_116 tslc_116 tarr_116 tby_116 tzr_116 tsz_117 tag_117 tcon_117 tstr_117 tbool_117 tslc_117 tarr_117 tby_117 tzr_117 tsz_118 tag_118
attribute [go_sem] tcon_118 tstr_118 tbool_118 tslc_118 tarr_118 tby_118 tzr_118 tsz_119 tag_119 tcon_119 tstr_119 tbool_119 tslc_119 tarr_119 tby_119 tzr_119 tsz_120 tag_120 tcon_120 tstr_120 tbool_120 tslc_120 tarr_120 tby_120 tzr_120 tsz_121 tag_121 tcon_121 tstr_121 tbool_121 tslc_121 tarr_121 tby_121 tzr_121 tsz_123 tag_123 tcon_123 tstr_123 tbool_123 tslc_123
attribute [go_sem] tarr_123 tby_123 tzr_123 tfld_123_0 place_123_0 tbld_123 tsz_124 tag_124 tcon_124 tstr_124 tbool_124 tslc_124 tarr_124 tby_124 tzr_124 tfld_124_0 place_124_0 tbld_124 tsz_125 tag_125 tcon_125 tstr_125 tbool_125 tslc_125 tarr_125 tby_125 tzr_125 tsz_126 tag_126 tcon_126 tstr_126 tbool_126 tslc_126 tarr_126 tby_126 tzr_126 tsz_127 tag_127 tcon_127 tstr_127
attribute [go_sem] tbool_127 tslc_127 tarr_127 tby_127 tzr_127 tsz_128 tag_128 tcon_128 tstr_128 tbool_128 tslc_128 tarr_128 tby_128 tzr_128 tsz_129 tag_129 tcon_129 tstr_129 tbool_129 tslc_129 tarr_129 tby_129 tzr_129 tsz_131 tag_131 tcon_131 tstr_131 tbool_131 tslc_131 tarr_131 tby_131 tzr_131 tsz_132 tag_132 tcon_132 tstr_132 tbool_132 tslc_132 tarr_132 tby_132
attribute [go_sem] tzr_132 tsz_133 tag_133 tcon_133 tstr_133 tbool_133 tslc_133 tarr_133 tby_133 tzr_133 tfld_133_0 place_133_0 tfld_133_1 place_133_1 tbld_133 tsz_134 tag_134 tcon_134 tstr_134 tbool_134 tslc_134 tarr_134 tby_134 tzr_134 tfld_134_0 place_134_0 tfld_134_1 place_134_1 tbld_134 tsz_135 tag_135 tcon_135 tstr_135 tbool_135 tslc_135 tarr_135 tby_135 tzr_135 tsz_136 tag_136
attribute [go_sem] tcon_136 tstr_136 tbool_136 tslc_136 tarr_136 tby_136 tzr_136 tfld_136_0 place_136_0 tfld_136_1 place_136_1 tbld_136 tsz_137 tag_137 tcon_137 tstr_137 tbool_137 tslc_137 tarr_137 tby_137 tzr_137 tfld_137_0 place_137_0 tfld_137_1 place_137_1 tbld_137 tsz_139 tag_139 tcon_139 tstr_139 tbool_139 tslc_139 tarr_139 tby_139 tzr_139 tsz_140 tag_140 tcon_140 tstr_140 tbool_140
attribute [go_sem] tslc_140 tarr_140 tby_140 tzr_140 tsz_143 tag_143 tcon_143 tstr_143 tbool_143 tslc_143 tarr_143 tby_143 tzr_143 tsz_144 tag_144 tcon_144 tstr_144 tbool_144 tslc_144 tarr_144 tby_144 tzr_144 tsz_145 tag_145 tcon_145 tstr_145 tbool_145 tslc_145 tarr_145 tby_145 tzr_145 tsz_146 tag_146 tcon_146 tstr_146 tbool_146 tslc_146 tarr_146 tby_146 tzr_146
attribute [go_sem] tsz_147 tag_147 tcon_147 tstr_147 tbool_147 tslc_147 tarr_147 tby_147 tzr_147 tsz_148 tag_148 tcon_148 tstr_148 tbool_148 tslc_148 tarr_148 tby_148 tzr_148 tsz_149 tag_149 tcon_149 tstr_149 tbool_149 tslc_149 tarr_149 tby_149 tzr_149 tsz_155 tag_155 tcon_155 tstr_155 tbool_155 tslc_155 tarr_155 tby_155 tzr_155 tsz_156 tag_156 tcon_156 tstr_156
attribute [go_sem] tbool_156 tslc_156 tarr_156 tby_156 tzr_156 tsz_159 tag_159 tcon_159 tstr_159 tbool_159 tslc_159 tarr_159 tby_159 tzr_159 tsz_160 tag_160 tcon_160 tstr_160 tbool_160 tslc_160 tarr_160 tby_160 tzr_160 C_P C_thr esc_3 Tryz.ntmps3 res_3 clr_3_0 clr_3_1 clr_3_2 clr_3_3 clr_3_4 clr_3_5 clr_3_6 clr_3_7 clr_3_8 clr_3_9 clr_3_10 clr_3_11
attribute [go_sem] clr_3_12 clr_3_13 esc_4 Tryz.ntmps4 res_4 clr_4_0 clr_4_1 clr_4_2 clr_4_3 clr_4_4 clr_4_5 clr_4_6 clr_4_7 clr_4_8 clr_4_9 clr_4_10 clr_4_11 clr_4_12 clr_4_13 clr_4_14 clr_4_15 clr_4_16 clr_4_18 ord_4_18 ro_4_18 clr_4_19 clr_4_17 clr_4_20 esc_5 Tryz.ntmps5 res_5 clr_5_0 clr_5_1 clr_5_2 clr_5_3 ord_5_3 ro_5_3 clr_5_4 ord_5_4 ro_5_4
attribute [go_sem] clr_5_5 clr_5_6 esc_6 Tryz.ntmps6 res_6 clr_6_0 clr_6_1 clr_6_2 clr_6_3 clr_6_4 clr_6_5 clr_6_7 clr_6_8 clr_6_9 clr_6_10 clr_6_6 clr_6_11 clr_6_12 esc_7 Tryz.ntmps7 res_7 clr_7_0 clr_7_1 clr_7_2 clr_7_3 clr_7_4 clr_7_6 clr_7_7 clr_7_8 clr_7_5 clr_7_9 esc_8 Tryz.ntmps8 res_8 clr_8_0 clr_8_1 clr_8_2 esc_9 Tryz.ntmps9 res_9
attribute [go_sem] clr_9_0 clr_9_1 clr_9_2 clr_9_3 clr_9_4 clr_9_5 clr_9_6 clr_9_7 clr_9_8 clr_9_9 esc_10 Tryz.ntmps10 res_10 clr_10_0 clr_10_1 clr_10_2 clr_10_3 clr_10_4 clr_10_5 clr_10_6 clr_10_7 clr_10_8 clr_10_9 clr_10_10 clr_10_11 clr_10_12 clr_10_13 clr_10_14 ord_10_14 ro_10_14 clr_10_15 clr_10_16 clr_10_17 clr_10_18 clr_10_19 esc_11 Tryz.ntmps11 res_11 clr_11_0 clr_11_1
attribute [go_sem] clr_11_2 clr_11_3 clr_11_4 clr_11_5 clr_11_6 clr_11_8 ord_11_8 ro_11_8 clr_11_9 clr_11_10 clr_11_7 clr_11_11 esc_12 Tryz.ntmps12 res_12 clr_12_0 clr_12_1 clr_12_2 esc_13 Tryz.ntmps13 res_13 clr_13_0 clr_13_1 clr_13_2 clr_13_3 clr_13_4 clr_13_6 ord_13_6 ro_13_6 clr_13_7 clr_13_8 clr_13_5 clr_13_9 esc_14 Tryz.ntmps14 res_14 clr_14_0 clr_14_1 clr_14_2 clr_14_3
attribute [go_sem] clr_14_4 clr_14_5 clr_14_6 clr_14_7 esc_15 Tryz.ntmps15 res_15 clr_15_0 clr_15_1 clr_15_2 clr_15_3 clr_15_5 clr_15_4 clr_15_6 esc_16 Tryz.ntmps16 res_16 clr_16_0 clr_16_1 clr_16_2 clr_16_3 clr_16_4 clr_16_5 clr_16_6 clr_16_7 esc_17 Tryz.ntmps17 res_17 clr_17_0 clr_17_1 clr_17_2 clr_17_3 clr_17_5 clr_17_4 clr_17_6 esc_18 Tryz.ntmps18 res_18 clr_18_0 clr_18_1
attribute [go_sem] clr_18_2 esc_19 Tryz.ntmps19 res_19 clr_19_0 clr_19_1 clr_19_2 clr_19_3 clr_19_4 clr_19_6 clr_19_7 clr_19_8 clr_19_5 clr_19_9 esc_20 Tryz.ntmps20 res_20 clr_20_0 clr_20_1 clr_20_2 clr_20_3 clr_20_4 clr_20_6 clr_20_7 clr_20_8 clr_20_5 clr_20_9 esc_21 Tryz.ntmps21 res_21 clr_21_0 clr_21_1 clr_21_2 clr_21_3 clr_21_5 clr_21_4 clr_21_6 esc_22 Tryz.ntmps22 res_22
attribute [go_sem] clr_22_0 clr_22_1 clr_22_2 clr_22_3 clr_22_5 clr_22_6 clr_22_7 clr_22_4 clr_22_8 esc_23 Tryz.ntmps23 res_23 clr_23_0 clr_23_1 esc_24 Tryz.ntmps24 res_24 clr_24_0 clr_24_1 clr_24_2 clr_24_3 clr_24_4 clr_24_5 clr_24_6 esc_25 Tryz.ntmps25 res_25 clr_25_0 clr_25_1 esc_26 Tryz.ntmps26 res_26 clr_26_0 clr_26_1 esc_27 Tryz.ntmps27 res_27 clr_27_0 clr_27_1 clr_27_2
attribute [go_sem] clr_27_3 clr_27_4 clr_27_5 clr_27_6 clr_27_7 clr_27_8 esc_28 Tryz.ntmps28 res_28 clr_28_0 clr_28_1 clr_28_2 clr_28_3 clr_28_4 esc_29 Tryz.ntmps29 res_29 clr_29_0 clr_29_1 clr_29_2 clr_29_3 clr_29_4 clr_29_5 clr_29_6 clr_29_7 clr_29_8 clr_29_9 clr_29_10 clr_29_11 clr_29_12 clr_29_13 clr_29_14 clr_29_15 esc_30 Tryz.ntmps30 res_30 clr_30_0 clr_30_1 clr_30_2 clr_30_3
attribute [go_sem] esc_31 Tryz.ntmps31 res_31 clr_31_0 clr_31_1 clr_31_2 clr_31_3 clr_31_4 clr_31_5 clr_31_6 clr_31_7 ord_31_7 ro_31_7 clr_31_8 clr_31_9 clr_31_10 clr_31_11 clr_31_12 clr_31_13 esc_32 Tryz.ntmps32 res_32 clr_32_0 clr_32_1 clr_32_2 clr_32_3 clr_32_4 clr_32_5 clr_32_6 esc_33 Tryz.ntmps33 res_33 clr_33_0 clr_33_1 clr_33_2 clr_33_3 ord_33_3 ro_33_3 clr_33_4 esc_34
attribute [go_sem] Tryz.ntmps34 res_34 clr_34_0 clr_34_1 clr_34_2 clr_34_3 esc_35 Tryz.ntmps35 res_35 clr_35_0 clr_35_1 clr_35_2 clr_35_3 clr_35_4 esc_36 Tryz.ntmps36 res_36 clr_36_0 clr_36_1 clr_36_2 clr_36_3 ord_36_3 ro_36_3 clr_36_4 esc_37 Tryz.ntmps37 res_37 clr_37_0 clr_37_1 clr_37_2 clr_37_3 clr_37_4 clr_37_5 clr_37_6 clr_37_7 clr_37_8 clr_37_9 clr_37_10 esc_38 Tryz.ntmps38
attribute [go_sem] res_38 clr_38_0 clr_38_1 esc_39 Tryz.ntmps39 res_39 clr_39_0 clr_39_1 esc_40 Tryz.ntmps40 res_40 clr_40_0 clr_40_1 esc_41 Tryz.ntmps41 res_41 clr_41_0 clr_41_1 clr_41_2 clr_41_3 clr_41_4 clr_41_5 clr_41_6 clr_41_7 clr_41_8 clr_41_9 clr_41_10 clr_41_11 ord_41_11 ro_41_11 esc_42 Tryz.ntmps42 res_42 clr_42_0 clr_42_1 clr_42_2 clr_42_3 clr_42_4 clr_42_5 esc_43
attribute [go_sem] Tryz.ntmps43 res_43 clr_43_0 clr_43_1 clr_43_2 ord_43_2 ro_43_2 clr_43_3 clr_43_4 clr_43_5 clr_43_6 ord_43_6 ro_43_6 clr_43_7 clr_43_8 clr_43_9 esc_44 Tryz.ntmps44 res_44 clr_44_0 clr_44_1 clr_44_2 clr_44_3 clr_44_4 clr_44_5 clr_44_6 esc_45 Tryz.ntmps45 res_45 clr_45_0 clr_45_1 clr_45_2 clr_45_3 clr_45_5 clr_45_6 clr_45_7 clr_45_8 clr_45_4 clr_45_9 esc_46
attribute [go_sem] Tryz.ntmps46 res_46 clr_46_0 clr_46_1 clr_46_2 clr_46_3 clr_46_4 clr_46_5 clr_46_7 clr_46_8 clr_46_9 clr_46_6 clr_46_10 clr_46_11 clr_46_12 clr_46_13 clr_46_14 clr_46_15 clr_46_16 esc_47 Tryz.ntmps47 res_47 clr_47_0 clr_47_1 clr_47_2 clr_47_3 clr_47_4 clr_47_5 esc_48 Tryz.ntmps48 res_48 clr_48_0 clr_48_1 clr_48_2 clr_48_3 esc_49 Tryz.ntmps49 res_49 clr_49_0 clr_49_1
attribute [go_sem] clr_49_2 clr_49_3 clr_49_4 clr_49_5 clr_49_7 clr_49_8 clr_49_9 clr_49_10 clr_49_6 clr_49_11 esc_50 Tryz.ntmps50 res_50 clr_50_0 clr_50_1 clr_50_2 clr_50_3 clr_50_4 clr_50_5 esc_51 Tryz.ntmps51 res_51 clr_51_0 clr_51_1 clr_51_2 clr_51_3 clr_51_4 clr_51_5 clr_51_6 clr_51_7 clr_51_8 clr_51_9 clr_51_10 esc_52 Tryz.ntmps52 res_52 clr_52_0 clr_52_1 ord_52_1 ro_52_1
attribute [go_sem] esc_53 Tryz.ntmps53 res_53 clr_53_0 clr_53_1 clr_53_2 clr_53_3 clr_53_4 clr_53_5 clr_53_6 clr_53_7 clr_53_8 clr_53_9 clr_53_10 clr_53_11 esc_54 Tryz.ntmps54 res_54 clr_54_0 clr_54_1 esc_55 Tryz.ntmps55 res_55 clr_55_0 clr_55_1 clr_55_2 clr_55_3 clr_55_4 clr_55_5 clr_55_6 clr_55_7 esc_56 Tryz.ntmps56 res_56 clr_56_0 clr_56_1 clr_56_2 clr_56_3 esc_57 Tryz.ntmps57
attribute [go_sem] res_57 clr_57_0 clr_57_1 clr_57_2 clr_57_3 esc_58 Tryz.ntmps58 res_58 clr_58_0 clr_58_1 esc_59 Tryz.ntmps59 res_59 clr_59_0 clr_59_1 esc_60 Tryz.ntmps60 res_60 clr_60_0 clr_60_1 esc_61 Tryz.ntmps61 res_61 clr_61_0 clr_61_1 esc_62 Tryz.ntmps62 res_62 clr_62_0 clr_62_1 esc_63 Tryz.ntmps63 res_63 clr_63_0 clr_63_1 ord_63_1 ro_63_1 clr_63_2 esc_64 Tryz.ntmps64
attribute [go_sem] res_64 clr_64_0 clr_64_1 esc_65 Tryz.ntmps65 res_65 clr_65_0 clr_65_1 clr_65_2 clr_65_3 ord_65_3 ro_65_3 esc_66 Tryz.ntmps66 res_66 clr_66_0 clr_66_1 clr_66_2 clr_66_3 clr_66_4 esc_67 Tryz.ntmps67 res_67 clr_67_0 clr_67_1 clr_67_2 clr_67_3 clr_67_4 clr_67_5 clr_67_6 clr_67_7 clr_67_8 clr_67_9 ord_67_9 ro_67_9 clr_67_10 clr_67_11 ord_67_11 ro_67_11 clr_67_12
attribute [go_sem] clr_67_13 clr_67_14 clr_67_15 esc_68 Tryz.ntmps68 res_68 clr_68_0 clr_68_1 clr_68_2 clr_68_3 clr_68_4 clr_68_5 clr_68_6 ord_68_6 ro_68_6 clr_68_7 clr_68_8 clr_68_9 esc_69 Tryz.ntmps69 res_69 clr_69_0 clr_69_1 clr_69_2 esc_70 Tryz.ntmps70 res_70 clr_70_0 clr_70_1 clr_70_2 clr_70_3 clr_70_4 clr_70_6 ord_70_6 ro_70_6 clr_70_7 clr_70_8 clr_70_9 clr_70_5 clr_70_10
attribute [go_sem] clr_70_11 clr_70_12 clr_70_13 clr_70_14 clr_70_15 clr_70_17 clr_70_18 clr_70_19 clr_70_16 clr_70_20 clr_70_21 esc_71 Tryz.ntmps71 res_71 clr_71_0 clr_71_1 clr_71_2 clr_71_3 clr_71_4 clr_71_6 clr_71_7 clr_71_8 clr_71_5 clr_71_9 clr_71_10 clr_71_12 clr_71_13 clr_71_14 clr_71_15 clr_71_11 clr_71_16 clr_71_17 clr_71_18 esc_72 Tryz.ntmps72 res_72 clr_72_0 clr_72_1 clr_72_2 clr_72_3
attribute [go_sem] clr_72_4 ord_72_4 ro_72_4 clr_72_5 clr_72_6 clr_72_7 clr_72_8 clr_72_9 clr_72_10 clr_72_11 clr_72_12 clr_72_13 esc_73 Tryz.ntmps73 res_73 clr_73_0 clr_73_1 clr_73_2 clr_73_3 clr_73_4 clr_73_5 ord_73_5 ro_73_5 clr_73_6 clr_73_7 clr_73_8 ord_73_8 ro_73_8 clr_73_9 clr_73_10 ord_73_10 ro_73_10 clr_73_11 clr_73_12 clr_73_13 ord_73_13 ro_73_13 clr_73_14 clr_73_15 clr_73_16
attribute [go_sem] clr_73_17 clr_73_18 esc_74 Tryz.ntmps74 res_74 clr_74_0 clr_74_1 ord_74_1 ro_74_1 clr_74_2 clr_74_3 clr_74_4 ord_74_4 ro_74_4 esc_75 Tryz.ntmps75 res_75 clr_75_0 clr_75_1 clr_75_2 clr_75_3 esc_76 Tryz.ntmps76 res_76 clr_76_0 clr_76_1 clr_76_2 clr_76_3 clr_76_4 clr_76_5 clr_76_6 ord_76_6 ro_76_6 clr_76_7 clr_76_8 clr_76_9 ord_76_9 ro_76_9 clr_76_10 clr_76_11
attribute [go_sem] clr_76_12 clr_76_13 clr_76_14 esc_77 Tryz.ntmps77 res_77 clr_77_0 clr_77_1 clr_77_2 clr_77_3 clr_77_4 clr_77_5 clr_77_6 clr_77_7 esc_78 Tryz.ntmps78 res_78 clr_78_0 clr_78_1 clr_78_2 clr_78_3 clr_78_4 esc_79 Tryz.ntmps79 res_79 clr_79_0 clr_79_1 clr_79_2 clr_79_3 clr_79_4 clr_79_5 clr_79_6 esc_80 Tryz.ntmps80 res_80 clr_80_0 clr_80_1 esc_81 Tryz.ntmps81 res_81
attribute [go_sem] clr_81_0 clr_81_1 clr_81_2 clr_81_3 clr_81_4 clr_81_5 clr_81_6 clr_81_7 clr_81_8 esc_82 Tryz.ntmps82 res_82 clr_82_0 clr_82_1 clr_82_2 esc_83 Tryz.ntmps83 res_83 clr_83_0 clr_83_1 clr_83_2 clr_83_3 clr_83_4 clr_83_5 esc_84 Tryz.ntmps84 res_84 clr_84_0 clr_84_1 esc_85 Tryz.ntmps85 res_85 clr_85_0 clr_85_1 clr_85_2 clr_85_3 clr_85_4 clr_85_5 clr_85_6 clr_85_7
attribute [go_sem] clr_85_8 clr_85_9 clr_85_10 clr_85_11 ord_85_11 ro_85_11 clr_85_12 clr_85_13 clr_85_14 clr_85_15 ord_85_15 ro_85_15 esc_86 Tryz.ntmps86 res_86 clr_86_0 clr_86_1 clr_86_2 clr_86_3 clr_86_4 clr_86_5 clr_86_6 clr_86_7 esc_87 Tryz.ntmps87 res_87 clr_87_0 clr_87_1 clr_87_2 clr_87_3 clr_87_4 clr_87_5 clr_87_6 clr_87_7 esc_88 Tryz.ntmps88 res_88 clr_88_0 clr_88_1 clr_88_2
attribute [go_sem] clr_88_3 clr_88_4 esc_89 Tryz.ntmps89 res_89 clr_89_0 clr_89_1 clr_89_3 clr_89_4 clr_89_5 clr_89_6 clr_89_7 clr_89_8 clr_89_9 clr_89_10 clr_89_11 clr_89_12 clr_89_13 clr_89_14 clr_89_15 clr_89_16 clr_89_17 clr_89_2 clr_89_18 clr_89_19 clr_89_21 clr_89_22 clr_89_23 clr_89_20 clr_89_24 esc_90 Tryz.ntmps90 res_90 clr_90_0 clr_90_1 clr_90_2 clr_90_3 esc_91 Tryz.ntmps91 res_91
attribute [go_sem] clr_91_0 clr_91_1 clr_91_2 clr_91_3 clr_91_4 clr_91_5 clr_91_6 clr_91_7 clr_91_8 esc_92 Tryz.ntmps92 res_92 clr_92_0 clr_92_1 clr_92_2 clr_92_4 clr_92_5 clr_92_6 clr_92_3 clr_92_7 esc_93 Tryz.ntmps93 res_93 clr_93_0 clr_93_1 ord_93_1 ro_93_1 esc_94 Tryz.ntmps94 res_94 clr_94_0 clr_94_1 clr_94_2 clr_94_3 clr_94_4 clr_94_5 ord_94_5 ro_94_5 clr_94_6 clr_94_7
attribute [go_sem] clr_94_8 ord_94_8 ro_94_8 clr_94_9 clr_94_10 ord_94_10 ro_94_10 clr_94_11 clr_94_12 clr_94_13 ord_94_13 ro_94_13 clr_94_14 clr_94_15 clr_94_16 clr_94_17 clr_94_18 esc_95 Tryz.ntmps95 res_95 clr_95_0 clr_95_1 clr_95_2 clr_95_3 clr_95_4 clr_95_6 ord_95_6 ro_95_6 clr_95_7 clr_95_8 clr_95_5 clr_95_9 esc_96 Tryz.ntmps96 res_96 clr_96_0 clr_96_1 clr_96_2 esc_97 Tryz.ntmps97
attribute [go_sem] res_97 clr_97_0 clr_97_1 clr_97_2 clr_97_4 clr_97_5 clr_97_6 ord_97_6 ro_97_6 clr_97_7 clr_97_8 clr_97_9 ord_97_9 ro_97_9 clr_97_10 clr_97_11 clr_97_12 clr_97_3 clr_97_13 esc_98 Tryz.ntmps98 res_98 clr_98_0 clr_98_1 esc_99 Tryz.ntmps99 res_99 clr_99_0 clr_99_1 esc_100 Tryz.ntmps100 res_100 clr_100_0 clr_100_1 esc_101 Tryz.ntmps101 res_101 clr_101_0 clr_101_1 clr_101_2
attribute [go_sem] clr_101_3 clr_101_4 clr_101_5 esc_102 Tryz.ntmps102 res_102 clr_102_0 esc_103 Tryz.ntmps103 res_103 clr_103_0 clr_103_1 clr_103_2 clr_103_3 clr_103_4 clr_103_5 ord_103_5 ro_103_5 clr_103_6 clr_103_7 clr_103_8 esc_104 Tryz.ntmps104 res_104 clr_104_0 clr_104_1 clr_104_2 clr_104_3 clr_104_4 clr_104_5 clr_104_6 clr_104_7 ord_104_7 ro_104_7 clr_104_8 clr_104_9 clr_104_10 clr_104_11 ord_104_11 ro_104_11
attribute [go_sem] clr_104_12 clr_104_13 esc_105 Tryz.ntmps105 res_105 clr_105_0 clr_105_1 clr_105_2 clr_105_3 esc_106 Tryz.ntmps106 res_106 clr_106_0 clr_106_1 esc_107 Tryz.ntmps107 res_107 clr_107_0 clr_107_1 clr_107_2 clr_107_3 clr_107_4 clr_107_5 clr_107_6 clr_107_7 esc_108 Tryz.ntmps108 res_108 clr_108_0 clr_108_1 clr_108_2 clr_108_3 clr_108_4 clr_108_5 clr_108_6 clr_108_7 clr_108_8 clr_108_9 esc_109 Tryz.ntmps109
attribute [go_sem] res_109 clr_109_0 clr_109_1 clr_109_2 clr_109_3 esc_110 Tryz.ntmps110 res_110 clr_110_0 clr_110_1 clr_110_2 clr_110_3 clr_110_4 clr_110_6 clr_110_7 clr_110_8 clr_110_5 clr_110_9 esc_111 Tryz.ntmps111 res_111 clr_111_0 clr_111_1 clr_111_2 clr_111_3 clr_111_4 clr_111_5 clr_111_6 clr_111_8 clr_111_9 clr_111_10 clr_111_11 ord_111_11 ro_111_11 clr_111_12 clr_111_13 clr_111_14 clr_111_7 clr_111_15 clr_111_16
attribute [go_sem] clr_111_17 esc_112 Tryz.ntmps112 res_112 clr_112_0 clr_112_1 clr_112_2 clr_112_3 clr_112_4 clr_112_5 ord_112_5 ro_112_5 clr_112_6 esc_113 Tryz.ntmps113 res_113 clr_113_0 clr_113_1 clr_113_2 clr_113_3 clr_113_4 esc_114 Tryz.ntmps114 res_114 clr_114_0 clr_114_1 ord_114_1 ro_114_1 clr_114_2 clr_114_3 ord_114_3 ro_114_3 clr_114_4 clr_114_5 clr_114_6 clr_114_7 clr_114_9 ord_114_9 ro_114_9 clr_114_10
attribute [go_sem] clr_114_11 clr_114_12 ord_114_12 ro_114_12 clr_114_13 clr_114_14 clr_114_8 clr_114_15 clr_114_16 esc_115 Tryz.ntmps115 res_115 clr_115_0 clr_115_1 clr_115_2 clr_115_3 clr_115_4 clr_115_5 ord_115_5 ro_115_5 esc_116 Tryz.ntmps116 res_116 clr_116_0 clr_116_1 clr_116_2 clr_116_3 clr_116_4 esc_117 Tryz.ntmps117 res_117 clr_117_0 esc_118 Tryz.ntmps118 res_118 clr_118_0 clr_118_1 clr_118_2 clr_118_3 clr_118_4
attribute [go_sem] clr_118_5 clr_118_6 clr_118_7 clr_118_8 clr_118_9 clr_118_10 clr_118_11 clr_118_12 esc_119 Tryz.ntmps119 res_119 clr_119_0 clr_119_1 clr_119_2 clr_119_3 clr_119_4 clr_119_5 clr_119_6 clr_119_7 clr_119_8 clr_119_9 clr_119_10 esc_120 Tryz.ntmps120 res_120 clr_120_0 clr_120_1 clr_120_2 clr_120_3 clr_120_4 esc_121 Tryz.ntmps121 res_121 clr_121_0 clr_121_1 clr_121_2 clr_121_3 esc_122 Tryz.ntmps122 res_122
attribute [go_sem] clr_122_0 clr_122_1 clr_122_2 clr_122_3 clr_122_5 ord_122_5 ro_122_5 clr_122_4 clr_122_6 clr_122_7 esc_123 Tryz.ntmps123 res_123 clr_123_0 clr_123_1 clr_123_2 clr_123_3 clr_123_4 clr_123_5 ord_123_5 ro_123_5 clr_123_6 clr_123_7 clr_123_8 clr_123_9 clr_123_10 clr_123_11 clr_123_12 clr_123_13 clr_123_14 clr_123_15 esc_124 Tryz.ntmps124 res_124 clr_124_0 clr_124_1 clr_124_2 clr_124_3 esc_125 Tryz.ntmps125
attribute [go_sem] res_125 clr_125_0 clr_125_1 clr_125_2 esc_126 Tryz.ntmps126 res_126 clr_126_0 clr_126_1 clr_126_2 clr_126_3 clr_126_4 clr_126_5 clr_126_7 ord_126_7 ro_126_7 clr_126_6 clr_126_8 esc_127 Tryz.ntmps127 res_127 clr_127_0 clr_127_1 esc_128 Tryz.ntmps128 res_128 clr_128_0 clr_128_1 esc_129 Tryz.ntmps129 res_129 clr_129_0 clr_129_1 ord_129_1 ro_129_1 clr_129_2
end Go.Proofs.YtkmpfdecjmnccaaGreat

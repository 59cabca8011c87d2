/- What closed calls of this program answer, put together. No condition. Printed by mkaw.py. -/
import Derived.Test.YtnglahcjemgcaaaGreatDoorK16
import Derived.Test.YtnglahcjemgcaaaGreatDoorK17
import Derived.Test.YtnglahcjemgcaaaGreatDoorK18
import Derived.Test.YtnglahcjemgcaaaGreatDoorK19
import Derived.Test.YtnglahcjemgcaaaGreatDoorK20
import Derived.Test.YtnglahcjemgcaaaGreatDoorK21
import Derived.Test.YtnglahcjemgcaaaGreatDoorK22
import Derived.Test.YtnglahcjemgcaaaGreatDoorK23
import Derived.Test.YtnglahcjemgcaaaGreatDoorK24
import Derived.Test.YtnglahcjemgcaaaGreatDoorK25
import Derived.Test.YtnglahcjemgcaaaGreatDoorK26
import Derived.Test.YtnglahcjemgcaaaGreatDoorK27
import Derived.Test.YtnglahcjemgcaaaGreatDoorK28
import Derived.Test.YtnglahcjemgcaaaGreatDoorK29
import Derived.Test.YtnglahcjemgcaaaGreatDoorK30
import Derived.Test.YtnglahcjemgcaaaGreatDoorK31
import Derived.Test.YtnglahcjemgcaaaGreatDoorK32
import Derived.Test.YtnglahcjemgcaaaGreatDoorK33
import Derived.Test.YtnglahcjemgcaaaGreatDoorK34
import Derived.Test.YtnglahcjemgcaaaGreatDoorK35
import Derived.Test.YtnglahcjemgcaaaGreatDoorK36
import Derived.Test.YtnglahcjemgcaaaGreatDoorK37
import Derived.Test.YtnglahcjemgcaaaGreatDoorK38
import Derived.Test.YtnglahcjemgcaaaGreatDoorK39
import Derived.Test.YtnglahcjemgcaaaGreatDoorK40
import Derived.Test.YtnglahcjemgcaaaGreatDoorK41
import Derived.Test.YtnglahcjemgcaaaGreatDoorK42
import Derived.Test.YtnglahcjemgcaaaGreatDoorK43
import Derived.Test.YtnglahcjemgcaaaGreatDoorK44
import Derived.Test.YtnglahcjemgcaaaGreatDoorK45
import Derived.Test.YtnglahcjemgcaaaGreatDoorK46
import Derived.Test.YtnglahcjemgcaaaGreatDoorK47
namespace Go.Proofs.YtnglahcjemgcaaaGreatDoor
open Go.RowKit

theorem axk0_hk : HookOk Tryz.prog tabI axk0_h := (noHook _ _)
theorem axk1_hk : HookOk Tryz.prog tabI axk1_h := (noHook _ _)
theorem axk2_hk : HookOk Tryz.prog tabI axk2_h := (cut_ok tabI_ok mixed_ok axk0_hk (cut_ok tabI_ok mixed_ok axk1_hk (noHook _ _) axk1 100000 axk1_ok axk1_run) axk0 100000 axk0_ok axk0_run)
theorem axk3_hk : HookOk Tryz.prog tabI axk3_h := (cut_ok tabI_ok mixed_ok axk2_hk (noHook _ _) axk2 100000 axk2_ok axk2_run)
theorem axk4_hk : HookOk Tryz.prog tabI axk4_h := (noHook _ _)
theorem axk5_hk : HookOk Tryz.prog tabI axk5_h := (noHook _ _)
theorem axk6_hk : HookOk Tryz.prog tabI axk6_h := (noHook _ _)
theorem axk7_hk : HookOk Tryz.prog tabI axk7_h := (noHook _ _)
theorem axk8_hk : HookOk Tryz.prog tabI axk8_h := (noHook _ _)
theorem axk9_hk : HookOk Tryz.prog tabI axk9_h := (cut_ok tabI_ok mixed_ok axk7_hk (cut_ok tabI_ok mixed_ok axk8_hk (noHook _ _) axk8 100000 axk8_ok axk8_run) axk7 100000 axk7_ok axk7_run)
theorem axk10_hk : HookOk Tryz.prog tabI axk10_h := (cut_ok tabI_ok mixed_ok axk9_hk (noHook _ _) axk9 100000 axk9_ok axk9_run)
theorem axk11_hk : HookOk Tryz.prog tabI axk11_h := (cut_ok tabI_ok mixed_ok axk4_hk (cut_ok tabI_ok mixed_ok axk5_hk (cut_ok tabI_ok mixed_ok axk6_hk (cut_ok tabI_ok mixed_ok axk10_hk (noHook _ _) axk10 100000 axk10_ok axk10_run) axk6 100000 axk6_ok axk6_run) axk5 100000 axk5_ok axk5_run) axk4 100000 axk4_ok axk4_run)
theorem axk12_hk : HookOk Tryz.prog tabI axk12_h := (cut_ok tabI_ok mixed_ok axk11_hk (noHook _ _) axk11 100000 axk11_ok axk11_run)
theorem axk13_hk : HookOk Tryz.prog tabI axk13_h := (noHook _ _)
theorem axk14_hk : HookOk Tryz.prog tabI axk14_h := (noHook _ _)
theorem axk15_hk : HookOk Tryz.prog tabI axk15_h := (cut_ok tabI_ok mixed_ok axk13_hk (cut_ok tabI_ok mixed_ok axk14_hk (noHook _ _) axk14 100000 axk14_ok axk14_run) axk13 100000 axk13_ok axk13_run)
theorem axk16_hk : HookOk Tryz.prog tabI axk16_h := (cut_ok tabI_ok mixed_ok axk15_hk (noHook _ _) axk15 100000 axk15_ok axk15_run)
theorem axk17_hk : HookOk Tryz.prog tabI axk17_h := (noHook _ _)
theorem axk18_hk : HookOk Tryz.prog tabI axk18_h := (cut_ok tabI_ok mixed_ok axk17_hk (noHook _ _) axk17 100000 axk17_ok axk17_run)
theorem axk19_hk : HookOk Tryz.prog tabI axk19_h := (noHook _ _)
theorem axk20_hk : HookOk Tryz.prog tabI axk20_h := (cut_ok tabI_ok mixed_ok axk19_hk (noHook _ _) axk19 100000 axk19_ok axk19_run)
theorem axk21_hk : HookOk Tryz.prog tabI axk21_h := (noHook _ _)
theorem axk22_hk : HookOk Tryz.prog tabI axk22_h := (noHook _ _)
theorem axk23_hk : HookOk Tryz.prog tabI axk23_h := (noHook _ _)
theorem axk24_hk : HookOk Tryz.prog tabI axk24_h := (noHook _ _)
theorem axk25_hk : HookOk Tryz.prog tabI axk25_h := (cut_ok tabI_ok mixed_ok axk24_hk (noHook _ _) axk24 100000 axk24_ok axk24_run)
theorem axk26_hk : HookOk Tryz.prog tabI axk26_h := (cut_ok tabI_ok mixed_ok axk25_hk (noHook _ _) axk25 100000 axk25_ok axk25_run)
theorem axk27_hk : HookOk Tryz.prog tabI axk27_h := (cut_ok tabI_ok mixed_ok axk20_hk (cut_ok tabI_ok mixed_ok axk21_hk (cut_ok tabI_ok mixed_ok axk22_hk (cut_ok tabI_ok mixed_ok axk23_hk (cut_ok tabI_ok mixed_ok axk26_hk (noHook _ _) axk26 100000 axk26_ok axk26_run) axk23 100000 axk23_ok axk23_run) axk22 100000 axk22_ok axk22_run) axk21 100000 axk21_ok axk21_run) axk20 100000 axk20_ok axk20_run)
theorem axk28_hk : HookOk Tryz.prog tabI axk28_h := (noHook _ _)
theorem axk29_hk : HookOk Tryz.prog tabI axk29_h := (noHook _ _)
theorem axk30_hk : HookOk Tryz.prog tabI axk30_h := (noHook _ _)
theorem axk31_hk : HookOk Tryz.prog tabI axk31_h := (noHook _ _)
theorem axk32_hk : HookOk Tryz.prog tabI axk32_h := (cut_ok tabI_ok mixed_ok axk31_hk (noHook _ _) axk31 100000 axk31_ok axk31_run)
theorem axk33_hk : HookOk Tryz.prog tabI axk33_h := (cut_ok tabI_ok mixed_ok axk32_hk (noHook _ _) axk32 100000 axk32_ok axk32_run)
theorem axk34_hk : HookOk Tryz.prog tabI axk34_h := (cut_ok tabI_ok mixed_ok axk27_hk (cut_ok tabI_ok mixed_ok axk28_hk (cut_ok tabI_ok mixed_ok axk29_hk (cut_ok tabI_ok mixed_ok axk30_hk (cut_ok tabI_ok mixed_ok axk33_hk (noHook _ _) axk33 100000 axk33_ok axk33_run) axk30 100000 axk30_ok axk30_run) axk29 100000 axk29_ok axk29_run) axk28 100000 axk28_ok axk28_run) axk27 100000 axk27_ok axk27_run)
theorem axk35_hk : HookOk Tryz.prog tabI axk35_h := (noHook _ _)
theorem axk36_hk : HookOk Tryz.prog tabI axk36_h := (cut_ok tabI_ok mixed_ok axk35_hk (noHook _ _) axk35 100000 axk35_ok axk35_run)
theorem axk37_hk : HookOk Tryz.prog tabI axk37_h := (noHook _ _)
theorem axk38_hk : HookOk Tryz.prog tabI axk38_h := (noHook _ _)
theorem axk39_hk : HookOk Tryz.prog tabI axk39_h := (noHook _ _)
theorem axk40_hk : HookOk Tryz.prog tabI axk40_h := (noHook _ _)
theorem axk41_hk : HookOk Tryz.prog tabI axk41_h := (cut_ok tabI_ok mixed_ok axk40_hk (noHook _ _) axk40 100000 axk40_ok axk40_run)
theorem axk42_hk : HookOk Tryz.prog tabI axk42_h := (cut_ok tabI_ok mixed_ok axk41_hk (noHook _ _) axk41 100000 axk41_ok axk41_run)
theorem axk43_hk : HookOk Tryz.prog tabI axk43_h := (cut_ok tabI_ok mixed_ok axk36_hk (cut_ok tabI_ok mixed_ok axk37_hk (cut_ok tabI_ok mixed_ok axk38_hk (cut_ok tabI_ok mixed_ok axk39_hk (cut_ok tabI_ok mixed_ok axk42_hk (noHook _ _) axk42 100000 axk42_ok axk42_run) axk39 100000 axk39_ok axk39_run) axk38 100000 axk38_ok axk38_run) axk37 100000 axk37_ok axk37_run) axk36 100000 axk36_ok axk36_run)
theorem axk44_hk : HookOk Tryz.prog tabI axk44_h := (noHook _ _)
theorem axk45_hk : HookOk Tryz.prog tabI axk45_h := (cut_ok tabI_ok mixed_ok axk44_hk (noHook _ _) axk44 100000 axk44_ok axk44_run)
theorem axk46_hk : HookOk Tryz.prog tabI axk46_h := (noHook _ _)
theorem axk47_hk : HookOk Tryz.prog tabI axk47_h := (cut_ok tabI_ok mixed_ok axk46_hk (noHook _ _) axk46 100000 axk46_ok axk46_run)
theorem axk48_hk : HookOk Tryz.prog tabI axk48_h := (noHook _ _)
theorem axk49_hk : HookOk Tryz.prog tabI axk49_h := (cut_ok tabI_ok mixed_ok axk48_hk (noHook _ _) axk48 100000 axk48_ok axk48_run)
theorem axk50_hk : HookOk Tryz.prog tabI axk50_h := (noHook _ _)
theorem axk51_hk : HookOk Tryz.prog tabI axk51_h := (noHook _ _)
theorem axk52_hk : HookOk Tryz.prog tabI axk52_h := (noHook _ _)
theorem axk53_hk : HookOk Tryz.prog tabI axk53_h := (noHook _ _)
theorem axk54_hk : HookOk Tryz.prog tabI axk54_h := (cut_ok tabI_ok mixed_ok axk53_hk (noHook _ _) axk53 100000 axk53_ok axk53_run)
theorem axk55_hk : HookOk Tryz.prog tabI axk55_h := (cut_ok tabI_ok mixed_ok axk54_hk (noHook _ _) axk54 100000 axk54_ok axk54_run)
theorem axk56_hk : HookOk Tryz.prog tabI axk56_h := (cut_ok tabI_ok mixed_ok axk49_hk (cut_ok tabI_ok mixed_ok axk50_hk (cut_ok tabI_ok mixed_ok axk51_hk (cut_ok tabI_ok mixed_ok axk52_hk (cut_ok tabI_ok mixed_ok axk55_hk (noHook _ _) axk55 100000 axk55_ok axk55_run) axk52 100000 axk52_ok axk52_run) axk51 100000 axk51_ok axk51_run) axk50 100000 axk50_ok axk50_run) axk49 100000 axk49_ok axk49_run)
theorem axk57_hk : HookOk Tryz.prog tabI axk57_h := (noHook _ _)
theorem axk58_hk : HookOk Tryz.prog tabI axk58_h := (noHook _ _)
theorem axk59_hk : HookOk Tryz.prog tabI axk59_h := (noHook _ _)
theorem axk60_hk : HookOk Tryz.prog tabI axk60_h := (noHook _ _)
theorem axk61_hk : HookOk Tryz.prog tabI axk61_h := (noHook _ _)
theorem axk62_hk : HookOk Tryz.prog tabI axk62_h := (noHook _ _)
theorem axk63_hk : HookOk Tryz.prog tabI axk63_h := (noHook _ _)
theorem axk64_hk : HookOk Tryz.prog tabI axk64_h := (noHook _ _)
theorem axk65_hk : HookOk Tryz.prog tabI axk65_h := (noHook _ _)
theorem axk66_hk : HookOk Tryz.prog tabI axk66_h := (noHook _ _)
theorem axk67_hk : HookOk Tryz.prog tabI axk67_h := (noHook _ _)
theorem axk68_hk : HookOk Tryz.prog tabI axk68_h := (noHook _ _)
theorem axk69_hk : HookOk Tryz.prog tabI axk69_h := (noHook _ _)
theorem axk70_hk : HookOk Tryz.prog tabI axk70_h := (noHook _ _)
theorem axk71_hk : HookOk Tryz.prog tabI axk71_h := (noHook _ _)
theorem axk72_hk : HookOk Tryz.prog tabI axk72_h := (noHook _ _)
theorem axk73_hk : HookOk Tryz.prog tabI axk73_h := (noHook _ _)
theorem axk74_hk : HookOk Tryz.prog tabI axk74_h := (noHook _ _)
theorem axk75_hk : HookOk Tryz.prog tabI axk75_h := (noHook _ _)
theorem axk76_hk : HookOk Tryz.prog tabI axk76_h := (noHook _ _)
theorem axk77_hk : HookOk Tryz.prog tabI axk77_h := (noHook _ _)
theorem axk78_hk : HookOk Tryz.prog tabI axk78_h := (noHook _ _)
theorem axk79_hk : HookOk Tryz.prog tabI axk79_h := (noHook _ _)
theorem axk80_hk : HookOk Tryz.prog tabI axk80_h := (noHook _ _)
theorem axk81_hk : HookOk Tryz.prog tabI axk81_h := (noHook _ _)
theorem axk82_hk : HookOk Tryz.prog tabI axk82_h := (noHook _ _)
theorem axk83_hk : HookOk Tryz.prog tabI axk83_h := (noHook _ _)
theorem axk84_hk : HookOk Tryz.prog tabI axk84_h := (noHook _ _)
theorem axk85_hk : HookOk Tryz.prog tabI axk85_h := (noHook _ _)
theorem axk86_hk : HookOk Tryz.prog tabI axk86_h := (noHook _ _)
theorem axk87_hk : HookOk Tryz.prog tabI axk87_h := (noHook _ _)
theorem axk88_hk : HookOk Tryz.prog tabI axk88_h := (noHook _ _)
theorem axk89_hk : HookOk Tryz.prog tabI axk89_h := (noHook _ _)
theorem axk90_hk : HookOk Tryz.prog tabI axk90_h := (noHook _ _)
theorem axk91_hk : HookOk Tryz.prog tabI axk91_h := (noHook _ _)
theorem axk92_hk : HookOk Tryz.prog tabI axk92_h := (noHook _ _)
theorem axk93_hk : HookOk Tryz.prog tabI axk93_h := (noHook _ _)
theorem axk94_hk : HookOk Tryz.prog tabI axk94_h := (noHook _ _)
theorem axk95_hk : HookOk Tryz.prog tabI axk95_h := (noHook _ _)
theorem axk96_hk : HookOk Tryz.prog tabI axk96_h := (noHook _ _)
theorem axk97_hk : HookOk Tryz.prog tabI axk97_h := (noHook _ _)
theorem axk98_hk : HookOk Tryz.prog tabI axk98_h := (noHook _ _)
theorem axk99_hk : HookOk Tryz.prog tabI axk99_h := (noHook _ _)
theorem axk100_hk : HookOk Tryz.prog tabI axk100_h := (noHook _ _)
theorem axk101_hk : HookOk Tryz.prog tabI axk101_h := (noHook _ _)
theorem axk102_hk : HookOk Tryz.prog tabI axk102_h := (noHook _ _)
theorem axk103_hk : HookOk Tryz.prog tabI axk103_h := (noHook _ _)
theorem axk104_hk : HookOk Tryz.prog tabI axk104_h := (noHook _ _)
theorem axk105_hk : HookOk Tryz.prog tabI axk105_h := (cut_ok tabI_ok mixed_ok axk104_hk (noHook _ _) axk104 100000 axk104_ok axk104_run)
theorem axk106_hk : HookOk Tryz.prog tabI axk106_h := (cut_ok tabI_ok mixed_ok axk105_hk (noHook _ _) axk105 100000 axk105_ok axk105_run)
theorem axk107_hk : HookOk Tryz.prog tabI axk107_h := (cut_ok tabI_ok mixed_ok axk101_hk (cut_ok tabI_ok mixed_ok axk102_hk (cut_ok tabI_ok mixed_ok axk103_hk (cut_ok tabI_ok mixed_ok axk106_hk (noHook _ _) axk106 100000 axk106_ok axk106_run) axk103 100000 axk103_ok axk103_run) axk102 100000 axk102_ok axk102_run) axk101 100000 axk101_ok axk101_run)
theorem axk108_hk : HookOk Tryz.prog tabI axk108_h := (cut_ok tabI_ok mixed_ok axk107_hk (noHook _ _) axk107 100000 axk107_ok axk107_run)
theorem axk109_hk : HookOk Tryz.prog tabI axk109_h := (noHook _ _)
theorem axk110_hk : HookOk Tryz.prog tabI axk110_h := (noHook _ _)
theorem axk111_hk : HookOk Tryz.prog tabI axk111_h := (noHook _ _)
theorem axk112_hk : HookOk Tryz.prog tabI axk112_h := (noHook _ _)
theorem axk113_hk : HookOk Tryz.prog tabI axk113_h := (noHook _ _)
theorem axk114_hk : HookOk Tryz.prog tabI axk114_h := (noHook _ _)
theorem axk115_hk : HookOk Tryz.prog tabI axk115_h := (noHook _ _)
theorem axk116_hk : HookOk Tryz.prog tabI axk116_h := (noHook _ _)
theorem axk117_hk : HookOk Tryz.prog tabI axk117_h := (noHook _ _)
theorem axk118_hk : HookOk Tryz.prog tabI axk118_h := (noHook _ _)
theorem axk119_hk : HookOk Tryz.prog tabI axk119_h := (noHook _ _)
theorem axk120_hk : HookOk Tryz.prog tabI axk120_h := (noHook _ _)
theorem axk121_hk : HookOk Tryz.prog tabI axk121_h := (noHook _ _)
theorem axk122_hk : HookOk Tryz.prog tabI axk122_h := (noHook _ _)
theorem axk123_hk : HookOk Tryz.prog tabI axk123_h := (noHook _ _)
theorem axk124_hk : HookOk Tryz.prog tabI axk124_h := (noHook _ _)
theorem axk125_hk : HookOk Tryz.prog tabI axk125_h := (noHook _ _)
theorem axk126_hk : HookOk Tryz.prog tabI axk126_h := (noHook _ _)
theorem axk127_hk : HookOk Tryz.prog tabI axk127_h := (noHook _ _)
theorem axk128_hk : HookOk Tryz.prog tabI axk128_h := (noHook _ _)
theorem axk129_hk : HookOk Tryz.prog tabI axk129_h := (noHook _ _)
theorem axk130_hk : HookOk Tryz.prog tabI axk130_h := (noHook _ _)
theorem axk131_hk : HookOk Tryz.prog tabI axk131_h := (noHook _ _)
theorem axk132_hk : HookOk Tryz.prog tabI axk132_h := (noHook _ _)
theorem axk133_hk : HookOk Tryz.prog tabI axk133_h := (noHook _ _)
theorem axk134_hk : HookOk Tryz.prog tabI axk134_h := (noHook _ _)
theorem axk135_hk : HookOk Tryz.prog tabI axk135_h := (noHook _ _)
theorem axk136_hk : HookOk Tryz.prog tabI axk136_h := (noHook _ _)
theorem axk137_hk : HookOk Tryz.prog tabI axk137_h := (noHook _ _)
theorem axk138_hk : HookOk Tryz.prog tabI axk138_h := (noHook _ _)
theorem axk139_hk : HookOk Tryz.prog tabI axk139_h := (noHook _ _)
theorem axk140_hk : HookOk Tryz.prog tabI axk140_h := (noHook _ _)
theorem axk141_hk : HookOk Tryz.prog tabI axk141_h := (noHook _ _)
theorem axk142_hk : HookOk Tryz.prog tabI axk142_h := (noHook _ _)
theorem axk143_hk : HookOk Tryz.prog tabI axk143_h := (noHook _ _)
theorem axk144_hk : HookOk Tryz.prog tabI axk144_h := (noHook _ _)
theorem axk145_hk : HookOk Tryz.prog tabI axk145_h := (noHook _ _)
theorem axk146_hk : HookOk Tryz.prog tabI axk146_h := (noHook _ _)
theorem axk147_hk : HookOk Tryz.prog tabI axk147_h := (noHook _ _)
theorem axk148_hk : HookOk Tryz.prog tabI axk148_h := (noHook _ _)
theorem axk149_hk : HookOk Tryz.prog tabI axk149_h := (noHook _ _)
theorem axk150_hk : HookOk Tryz.prog tabI axk150_h := (noHook _ _)
theorem axk151_hk : HookOk Tryz.prog tabI axk151_h := (noHook _ _)
theorem axk152_hk : HookOk Tryz.prog tabI axk152_h := (noHook _ _)
theorem axk153_hk : HookOk Tryz.prog tabI axk153_h := (noHook _ _)
theorem axk154_hk : HookOk Tryz.prog tabI axk154_h := (noHook _ _)
theorem axk155_hk : HookOk Tryz.prog tabI axk155_h := (noHook _ _)
theorem axk156_hk : HookOk Tryz.prog tabI axk156_h := (noHook _ _)
theorem axk157_hk : HookOk Tryz.prog tabI axk157_h := (noHook _ _)
theorem axk158_hk : HookOk Tryz.prog tabI axk158_h := (noHook _ _)
theorem axk159_hk : HookOk Tryz.prog tabI axk159_h := (noHook _ _)
theorem axk160_hk : HookOk Tryz.prog tabI axk160_h := (noHook _ _)
theorem axk161_hk : HookOk Tryz.prog tabI axk161_h := (noHook _ _)
theorem axk162_hk : HookOk Tryz.prog tabI axk162_h := (noHook _ _)
theorem axk163_hk : HookOk Tryz.prog tabI axk163_h := (noHook _ _)
theorem axk164_hk : HookOk Tryz.prog tabI axk164_h := (noHook _ _)
theorem axk165_hk : HookOk Tryz.prog tabI axk165_h := (noHook _ _)
theorem axk166_hk : HookOk Tryz.prog tabI axk166_h := (noHook _ _)
theorem axk167_hk : HookOk Tryz.prog tabI axk167_h := (noHook _ _)
theorem axk168_hk : HookOk Tryz.prog tabI axk168_h := (noHook _ _)
theorem axk169_hk : HookOk Tryz.prog tabI axk169_h := (noHook _ _)
theorem axk170_hk : HookOk Tryz.prog tabI axk170_h := (noHook _ _)
theorem axk171_hk : HookOk Tryz.prog tabI axk171_h := (noHook _ _)
theorem axk172_hk : HookOk Tryz.prog tabI axk172_h := (noHook _ _)
theorem axk173_hk : HookOk Tryz.prog tabI axk173_h := (noHook _ _)
theorem axk174_hk : HookOk Tryz.prog tabI axk174_h := (noHook _ _)
theorem axk175_hk : HookOk Tryz.prog tabI axk175_h := (noHook _ _)
theorem axk176_hk : HookOk Tryz.prog tabI axk176_h := (noHook _ _)
theorem axk177_hk : HookOk Tryz.prog tabI axk177_h := (noHook _ _)
theorem axk178_hk : HookOk Tryz.prog tabI axk178_h := (noHook _ _)
theorem axk179_hk : HookOk Tryz.prog tabI axk179_h := (noHook _ _)
theorem axk180_hk : HookOk Tryz.prog tabI axk180_h := (noHook _ _)
theorem axk181_hk : HookOk Tryz.prog tabI axk181_h := (noHook _ _)
theorem axk182_hk : HookOk Tryz.prog tabI axk182_h := (noHook _ _)
theorem axk183_hk : HookOk Tryz.prog tabI axk183_h := (noHook _ _)
theorem axk184_hk : HookOk Tryz.prog tabI axk184_h := (noHook _ _)
theorem axk185_hk : HookOk Tryz.prog tabI axk185_h := (noHook _ _)
theorem axk186_hk : HookOk Tryz.prog tabI axk186_h := (noHook _ _)
theorem axk187_hk : HookOk Tryz.prog tabI axk187_h := (noHook _ _)
theorem axk188_hk : HookOk Tryz.prog tabI axk188_h := (noHook _ _)
theorem axk189_hk : HookOk Tryz.prog tabI axk189_h := (noHook _ _)
theorem axk190_hk : HookOk Tryz.prog tabI axk190_h := (noHook _ _)
theorem axk191_hk : HookOk Tryz.prog tabI axk191_h := (noHook _ _)
theorem axk192_hk : HookOk Tryz.prog tabI axk192_h := (noHook _ _)
theorem axk193_hk : HookOk Tryz.prog tabI axk193_h := (noHook _ _)
theorem axk194_hk : HookOk Tryz.prog tabI axk194_h := (noHook _ _)
theorem axk195_hk : HookOk Tryz.prog tabI axk195_h := (noHook _ _)
theorem axk196_hk : HookOk Tryz.prog tabI axk196_h := (noHook _ _)
theorem axk197_hk : HookOk Tryz.prog tabI axk197_h := (noHook _ _)
theorem axk198_hk : HookOk Tryz.prog tabI axk198_h := (noHook _ _)
theorem axk199_hk : HookOk Tryz.prog tabI axk199_h := (noHook _ _)
theorem axk200_hk : HookOk Tryz.prog tabI axk200_h := (noHook _ _)
theorem axk201_hk : HookOk Tryz.prog tabI axk201_h := (noHook _ _)
theorem axk202_hk : HookOk Tryz.prog tabI axk202_h := (noHook _ _)
theorem axk203_hk : HookOk Tryz.prog tabI axk203_h := (noHook _ _)
theorem axk204_hk : HookOk Tryz.prog tabI axk204_h := (noHook _ _)
theorem axk205_hk : HookOk Tryz.prog tabI axk205_h := (noHook _ _)
theorem axk206_hk : HookOk Tryz.prog tabI axk206_h := (noHook _ _)
theorem axk207_hk : HookOk Tryz.prog tabI axk207_h := (noHook _ _)
theorem axk208_hk : HookOk Tryz.prog tabI axk208_h := (noHook _ _)
theorem axk209_hk : HookOk Tryz.prog tabI axk209_h := (noHook _ _)
theorem axk210_hk : HookOk Tryz.prog tabI axk210_h := (noHook _ _)
theorem axk211_hk : HookOk Tryz.prog tabI axk211_h := (noHook _ _)
theorem axk212_hk : HookOk Tryz.prog tabI axk212_h := (noHook _ _)
theorem axk213_hk : HookOk Tryz.prog tabI axk213_h := (noHook _ _)
theorem axk214_hk : HookOk Tryz.prog tabI axk214_h := (noHook _ _)
theorem axk215_hk : HookOk Tryz.prog tabI axk215_h := (noHook _ _)
theorem axk216_hk : HookOk Tryz.prog tabI axk216_h := (noHook _ _)
theorem axk217_hk : HookOk Tryz.prog tabI axk217_h := (noHook _ _)
theorem axk218_hk : HookOk Tryz.prog tabI axk218_h := (noHook _ _)
theorem axk219_hk : HookOk Tryz.prog tabI axk219_h := (noHook _ _)
theorem axk220_hk : HookOk Tryz.prog tabI axk220_h := (noHook _ _)
theorem axk221_hk : HookOk Tryz.prog tabI axk221_h := (noHook _ _)
theorem axk222_hk : HookOk Tryz.prog tabI axk222_h := (noHook _ _)
theorem axk223_hk : HookOk Tryz.prog tabI axk223_h := (noHook _ _)
theorem axk224_hk : HookOk Tryz.prog tabI axk224_h := (noHook _ _)
theorem axk225_hk : HookOk Tryz.prog tabI axk225_h := (noHook _ _)
theorem axk226_hk : HookOk Tryz.prog tabI axk226_h := (cut_ok tabI_ok mixed_ok axk18_hk (cut_ok tabI_ok mixed_ok axk34_hk (cut_ok tabI_ok mixed_ok axk43_hk (cut_ok tabI_ok mixed_ok axk45_hk (cut_ok tabI_ok mixed_ok axk47_hk (cut_ok tabI_ok mixed_ok axk56_hk (cut_ok tabI_ok mixed_ok axk57_hk (cut_ok tabI_ok mixed_ok axk58_hk (cut_ok tabI_ok mixed_ok axk59_hk (cut_ok tabI_ok mixed_ok axk60_hk (cut_ok tabI_ok mixed_ok axk61_hk (cut_ok tabI_ok mixed_ok axk62_hk (cut_ok tabI_ok mixed_ok axk63_hk (cut_ok tabI_ok mixed_ok axk64_hk (cut_ok tabI_ok mixed_ok axk65_hk (cut_ok tabI_ok mixed_ok axk66_hk (cut_ok tabI_ok mixed_ok axk67_hk (cut_ok tabI_ok mixed_ok axk68_hk (cut_ok tabI_ok mixed_ok axk69_hk (cut_ok tabI_ok mixed_ok axk70_hk (cut_ok tabI_ok mixed_ok axk71_hk (cut_ok tabI_ok mixed_ok axk72_hk (cut_ok tabI_ok mixed_ok axk73_hk (cut_ok tabI_ok mixed_ok axk74_hk (cut_ok tabI_ok mixed_ok axk75_hk (cut_ok tabI_ok mixed_ok axk76_hk (cut_ok tabI_ok mixed_ok axk77_hk (cut_ok tabI_ok mixed_ok axk78_hk (cut_ok tabI_ok mixed_ok axk79_hk (cut_ok tabI_ok mixed_ok axk80_hk (cut_ok tabI_ok mixed_ok axk81_hk (cut_ok tabI_ok mixed_ok axk82_hk (cut_ok tabI_ok mixed_ok axk83_hk (cut_ok tabI_ok mixed_ok axk84_hk (cut_ok tabI_ok mixed_ok axk85_hk (cut_ok tabI_ok mixed_ok axk86_hk (cut_ok tabI_ok mixed_ok axk87_hk (cut_ok tabI_ok mixed_ok axk88_hk (cut_ok tabI_ok mixed_ok axk89_hk (cut_ok tabI_ok mixed_ok axk90_hk (cut_ok tabI_ok mixed_ok axk91_hk (cut_ok tabI_ok mixed_ok axk92_hk (cut_ok tabI_ok mixed_ok axk93_hk (cut_ok tabI_ok mixed_ok axk94_hk (cut_ok tabI_ok mixed_ok axk95_hk (cut_ok tabI_ok mixed_ok axk96_hk (cut_ok tabI_ok mixed_ok axk97_hk (cut_ok tabI_ok mixed_ok axk98_hk (cut_ok tabI_ok mixed_ok axk99_hk (cut_ok tabI_ok mixed_ok axk100_hk (cut_ok tabI_ok mixed_ok axk108_hk (cut_ok tabI_ok mixed_ok axk109_hk (cut_ok tabI_ok mixed_ok axk110_hk (cut_ok tabI_ok mixed_ok axk111_hk (cut_ok tabI_ok mixed_ok axk112_hk (cut_ok tabI_ok mixed_ok axk113_hk (cut_ok tabI_ok mixed_ok axk114_hk (cut_ok tabI_ok mixed_ok axk115_hk (cut_ok tabI_ok mixed_ok axk116_hk (cut_ok tabI_ok mixed_ok axk117_hk (cut_ok tabI_ok mixed_ok axk118_hk (cut_ok tabI_ok mixed_ok axk119_hk (cut_ok tabI_ok mixed_ok axk120_hk (cut_ok tabI_ok mixed_ok axk121_hk (cut_ok tabI_ok mixed_ok axk122_hk (cut_ok tabI_ok mixed_ok axk123_hk (cut_ok tabI_ok mixed_ok axk124_hk (cut_ok tabI_ok mixed_ok axk125_hk (cut_ok tabI_ok mixed_ok axk126_hk (cut_ok tabI_ok mixed_ok axk127_hk (cut_ok tabI_ok mixed_ok axk128_hk (cut_ok tabI_ok mixed_ok axk129_hk (cut_ok tabI_ok mixed_ok axk130_hk (cut_ok tabI_ok mixed_ok axk131_hk (cut_ok tabI_ok mixed_ok axk132_hk (cut_ok tabI_ok mixed_ok axk133_hk (cut_ok tabI_ok mixed_ok axk134_hk (cut_ok tabI_ok mixed_ok axk135_hk (cut_ok tabI_ok mixed_ok axk136_hk (cut_ok tabI_ok mixed_ok axk137_hk (cut_ok tabI_ok mixed_ok axk138_hk (cut_ok tabI_ok mixed_ok axk139_hk (cut_ok tabI_ok mixed_ok axk140_hk (cut_ok tabI_ok mixed_ok axk141_hk (cut_ok tabI_ok mixed_ok axk142_hk (cut_ok tabI_ok mixed_ok axk143_hk (cut_ok tabI_ok mixed_ok axk144_hk (cut_ok tabI_ok mixed_ok axk145_hk (cut_ok tabI_ok mixed_ok axk146_hk (cut_ok tabI_ok mixed_ok axk147_hk (cut_ok tabI_ok mixed_ok axk148_hk (cut_ok tabI_ok mixed_ok axk149_hk (cut_ok tabI_ok mixed_ok axk150_hk (cut_ok tabI_ok mixed_ok axk151_hk (cut_ok tabI_ok mixed_ok axk152_hk (cut_ok tabI_ok mixed_ok axk153_hk (cut_ok tabI_ok mixed_ok axk154_hk (cut_ok tabI_ok mixed_ok axk155_hk (cut_ok tabI_ok mixed_ok axk156_hk (cut_ok tabI_ok mixed_ok axk157_hk (cut_ok tabI_ok mixed_ok axk158_hk (cut_ok tabI_ok mixed_ok axk159_hk (cut_ok tabI_ok mixed_ok axk160_hk (cut_ok tabI_ok mixed_ok axk161_hk (cut_ok tabI_ok mixed_ok axk162_hk (cut_ok tabI_ok mixed_ok axk163_hk (cut_ok tabI_ok mixed_ok axk164_hk (cut_ok tabI_ok mixed_ok axk165_hk (cut_ok tabI_ok mixed_ok axk166_hk (cut_ok tabI_ok mixed_ok axk167_hk (cut_ok tabI_ok mixed_ok axk168_hk (cut_ok tabI_ok mixed_ok axk169_hk (cut_ok tabI_ok mixed_ok axk170_hk (cut_ok tabI_ok mixed_ok axk171_hk (cut_ok tabI_ok mixed_ok axk172_hk (cut_ok tabI_ok mixed_ok axk173_hk (cut_ok tabI_ok mixed_ok axk174_hk (cut_ok tabI_ok mixed_ok axk175_hk (cut_ok tabI_ok mixed_ok axk176_hk (cut_ok tabI_ok mixed_ok axk177_hk (cut_ok tabI_ok mixed_ok axk178_hk (cut_ok tabI_ok mixed_ok axk179_hk (cut_ok tabI_ok mixed_ok axk180_hk (cut_ok tabI_ok mixed_ok axk181_hk (cut_ok tabI_ok mixed_ok axk182_hk (cut_ok tabI_ok mixed_ok axk183_hk (cut_ok tabI_ok mixed_ok axk184_hk (cut_ok tabI_ok mixed_ok axk185_hk (cut_ok tabI_ok mixed_ok axk186_hk (cut_ok tabI_ok mixed_ok axk187_hk (cut_ok tabI_ok mixed_ok axk188_hk (cut_ok tabI_ok mixed_ok axk189_hk (cut_ok tabI_ok mixed_ok axk190_hk (cut_ok tabI_ok mixed_ok axk191_hk (cut_ok tabI_ok mixed_ok axk192_hk (cut_ok tabI_ok mixed_ok axk193_hk (cut_ok tabI_ok mixed_ok axk194_hk (cut_ok tabI_ok mixed_ok axk195_hk (cut_ok tabI_ok mixed_ok axk196_hk (cut_ok tabI_ok mixed_ok axk197_hk (cut_ok tabI_ok mixed_ok axk198_hk (cut_ok tabI_ok mixed_ok axk199_hk (cut_ok tabI_ok mixed_ok axk200_hk (cut_ok tabI_ok mixed_ok axk201_hk (cut_ok tabI_ok mixed_ok axk202_hk (cut_ok tabI_ok mixed_ok axk203_hk (cut_ok tabI_ok mixed_ok axk204_hk (cut_ok tabI_ok mixed_ok axk205_hk (cut_ok tabI_ok mixed_ok axk206_hk (cut_ok tabI_ok mixed_ok axk207_hk (cut_ok tabI_ok mixed_ok axk208_hk (cut_ok tabI_ok mixed_ok axk209_hk (cut_ok tabI_ok mixed_ok axk210_hk (cut_ok tabI_ok mixed_ok axk211_hk (cut_ok tabI_ok mixed_ok axk212_hk (cut_ok tabI_ok mixed_ok axk213_hk (cut_ok tabI_ok mixed_ok axk214_hk (cut_ok tabI_ok mixed_ok axk215_hk (cut_ok tabI_ok mixed_ok axk216_hk (cut_ok tabI_ok mixed_ok axk217_hk (cut_ok tabI_ok mixed_ok axk218_hk (cut_ok tabI_ok mixed_ok axk219_hk (cut_ok tabI_ok mixed_ok axk220_hk (cut_ok tabI_ok mixed_ok axk221_hk (cut_ok tabI_ok mixed_ok axk222_hk (cut_ok tabI_ok mixed_ok axk223_hk (cut_ok tabI_ok mixed_ok axk224_hk (cut_ok tabI_ok mixed_ok axk225_hk (noHook _ _) axk225 100000 axk225_ok axk225_run) axk224 100000 axk224_ok axk224_run) axk223 100000 axk223_ok axk223_run) axk222 100000 axk222_ok axk222_run) axk221 100000 axk221_ok axk221_run) axk220 100000 axk220_ok axk220_run) axk219 100000 axk219_ok axk219_run) axk218 100000 axk218_ok axk218_run) axk217 100000 axk217_ok axk217_run) axk216 100000 axk216_ok axk216_run) axk215 100000 axk215_ok axk215_run) axk214 100000 axk214_ok axk214_run) axk213 100000 axk213_ok axk213_run) axk212 100000 axk212_ok axk212_run) axk211 100000 axk211_ok axk211_run) axk210 100000 axk210_ok axk210_run) axk209 100000 axk209_ok axk209_run) axk208 100000 axk208_ok axk208_run) axk207 100000 axk207_ok axk207_run) axk206 100000 axk206_ok axk206_run) axk205 100000 axk205_ok axk205_run) axk204 100000 axk204_ok axk204_run) axk203 100000 axk203_ok axk203_run) axk202 100000 axk202_ok axk202_run) axk201 100000 axk201_ok axk201_run) axk200 100000 axk200_ok axk200_run) axk199 100000 axk199_ok axk199_run) axk198 100000 axk198_ok axk198_run) axk197 100000 axk197_ok axk197_run) axk196 100000 axk196_ok axk196_run) axk195 100000 axk195_ok axk195_run) axk194 100000 axk194_ok axk194_run) axk193 100000 axk193_ok axk193_run) axk192 100000 axk192_ok axk192_run) axk191 100000 axk191_ok axk191_run) axk190 100000 axk190_ok axk190_run) axk189 100000 axk189_ok axk189_run) axk188 100000 axk188_ok axk188_run) axk187 100000 axk187_ok axk187_run) axk186 100000 axk186_ok axk186_run) axk185 100000 axk185_ok axk185_run) axk184 100000 axk184_ok axk184_run) axk183 100000 axk183_ok axk183_run) axk182 100000 axk182_ok axk182_run) axk181 100000 axk181_ok axk181_run) axk180 100000 axk180_ok axk180_run) axk179 100000 axk179_ok axk179_run) axk178 100000 axk178_ok axk178_run) axk177 100000 axk177_ok axk177_run) axk176 100000 axk176_ok axk176_run) axk175 100000 axk175_ok axk175_run) axk174 100000 axk174_ok axk174_run) axk173 100000 axk173_ok axk173_run) axk172 100000 axk172_ok axk172_run) axk171 100000 axk171_ok axk171_run) axk170 100000 axk170_ok axk170_run) axk169 100000 axk169_ok axk169_run) axk168 100000 axk168_ok axk168_run) axk167 100000 axk167_ok axk167_run) axk166 100000 axk166_ok axk166_run) axk165 100000 axk165_ok axk165_run) axk164 100000 axk164_ok axk164_run) axk163 100000 axk163_ok axk163_run) axk162 100000 axk162_ok axk162_run) axk161 100000 axk161_ok axk161_run) axk160 100000 axk160_ok axk160_run) axk159 100000 axk159_ok axk159_run) axk158 100000 axk158_ok axk158_run) axk157 100000 axk157_ok axk157_run) axk156 100000 axk156_ok axk156_run) axk155 100000 axk155_ok axk155_run) axk154 100000 axk154_ok axk154_run) axk153 100000 axk153_ok axk153_run) axk152 100000 axk152_ok axk152_run) axk151 100000 axk151_ok axk151_run) axk150 100000 axk150_ok axk150_run) axk149 100000 axk149_ok axk149_run) axk148 100000 axk148_ok axk148_run) axk147 100000 axk147_ok axk147_run) axk146 100000 axk146_ok axk146_run) axk145 100000 axk145_ok axk145_run) axk144 100000 axk144_ok axk144_run) axk143 100000 axk143_ok axk143_run) axk142 100000 axk142_ok axk142_run) axk141 100000 axk141_ok axk141_run) axk140 100000 axk140_ok axk140_run) axk139 100000 axk139_ok axk139_run) axk138 100000 axk138_ok axk138_run) axk137 100000 axk137_ok axk137_run) axk136 100000 axk136_ok axk136_run) axk135 100000 axk135_ok axk135_run) axk134 100000 axk134_ok axk134_run) axk133 100000 axk133_ok axk133_run) axk132 100000 axk132_ok axk132_run) axk131 100000 axk131_ok axk131_run) axk130 100000 axk130_ok axk130_run) axk129 100000 axk129_ok axk129_run) axk128 100000 axk128_ok axk128_run) axk127 100000 axk127_ok axk127_run) axk126 100000 axk126_ok axk126_run) axk125 100000 axk125_ok axk125_run) axk124 100000 axk124_ok axk124_run) axk123 100000 axk123_ok axk123_run) axk122 100000 axk122_ok axk122_run) axk121 100000 axk121_ok axk121_run) axk120 100000 axk120_ok axk120_run) axk119 100000 axk119_ok axk119_run) axk118 100000 axk118_ok axk118_run) axk117 100000 axk117_ok axk117_run) axk116 100000 axk116_ok axk116_run) axk115 100000 axk115_ok axk115_run) axk114 100000 axk114_ok axk114_run) axk113 100000 axk113_ok axk113_run) axk112 100000 axk112_ok axk112_run) axk111 100000 axk111_ok axk111_run) axk110 100000 axk110_ok axk110_run) axk109 100000 axk109_ok axk109_run) axk108 100000 axk108_ok axk108_run) axk100 100000 axk100_ok axk100_run) axk99 100000 axk99_ok axk99_run) axk98 100000 axk98_ok axk98_run) axk97 100000 axk97_ok axk97_run) axk96 100000 axk96_ok axk96_run) axk95 100000 axk95_ok axk95_run) axk94 100000 axk94_ok axk94_run) axk93 100000 axk93_ok axk93_run) axk92 100000 axk92_ok axk92_run) axk91 100000 axk91_ok axk91_run) axk90 100000 axk90_ok axk90_run) axk89 100000 axk89_ok axk89_run) axk88 100000 axk88_ok axk88_run) axk87 100000 axk87_ok axk87_run) axk86 100000 axk86_ok axk86_run) axk85 100000 axk85_ok axk85_run) axk84 100000 axk84_ok axk84_run) axk83 100000 axk83_ok axk83_run) axk82 100000 axk82_ok axk82_run) axk81 100000 axk81_ok axk81_run) axk80 100000 axk80_ok axk80_run) axk79 100000 axk79_ok axk79_run) axk78 100000 axk78_ok axk78_run) axk77 100000 axk77_ok axk77_run) axk76 100000 axk76_ok axk76_run) axk75 100000 axk75_ok axk75_run) axk74 100000 axk74_ok axk74_run) axk73 100000 axk73_ok axk73_run) axk72 100000 axk72_ok axk72_run) axk71 100000 axk71_ok axk71_run) axk70 100000 axk70_ok axk70_run) axk69 100000 axk69_ok axk69_run) axk68 100000 axk68_ok axk68_run) axk67 100000 axk67_ok axk67_run) axk66 100000 axk66_ok axk66_run) axk65 100000 axk65_ok axk65_run) axk64 100000 axk64_ok axk64_run) axk63 100000 axk63_ok axk63_run) axk62 100000 axk62_ok axk62_run) axk61 100000 axk61_ok axk61_run) axk60 100000 axk60_ok axk60_run) axk59 100000 axk59_ok axk59_run) axk58 100000 axk58_ok axk58_run) axk57 100000 axk57_ok axk57_run) axk56 100000 axk56_ok axk56_run) axk47 100000 axk47_ok axk47_run) axk45 100000 axk45_ok axk45_run) axk43 100000 axk43_ok axk43_run) axk34 100000 axk34_ok axk34_run) axk18 100000 axk18_ok axk18_run)
theorem axk227_hk : HookOk Tryz.prog tabI axk227_h := (noHook _ _)
theorem axk228_hk : HookOk Tryz.prog tabI axk228_h := (noHook _ _)
theorem axk229_hk : HookOk Tryz.prog tabI axk229_h := (cut_ok tabI_ok mixed_ok axk227_hk (cut_ok tabI_ok mixed_ok axk228_hk (noHook _ _) axk228 100000 axk228_ok axk228_run) axk227 100000 axk227_ok axk227_run)
theorem axk230_hk : HookOk Tryz.prog tabI axk230_h := (cut_ok tabI_ok mixed_ok axk229_hk (noHook _ _) axk229 100000 axk229_ok axk229_run)
theorem axk231_hk : HookOk Tryz.prog tabI axk231_h := (noHook _ _)
theorem axk232_hk : HookOk Tryz.prog tabI axk232_h := (noHook _ _)
theorem axk233_hk : HookOk Tryz.prog tabI axk233_h := (noHook _ _)
theorem axk234_hk : HookOk Tryz.prog tabI axk234_h := (noHook _ _)
theorem axk235_hk : HookOk Tryz.prog tabI axk235_h := (noHook _ _)
theorem axk236_hk : HookOk Tryz.prog tabI axk236_h := (cut_ok tabI_ok mixed_ok axk234_hk (cut_ok tabI_ok mixed_ok axk235_hk (noHook _ _) axk235 100000 axk235_ok axk235_run) axk234 100000 axk234_ok axk234_run)
theorem axk237_hk : HookOk Tryz.prog tabI axk237_h := (cut_ok tabI_ok mixed_ok axk236_hk (noHook _ _) axk236 100000 axk236_ok axk236_run)
theorem axk238_hk : HookOk Tryz.prog tabI axk238_h := (cut_ok tabI_ok mixed_ok axk231_hk (cut_ok tabI_ok mixed_ok axk232_hk (cut_ok tabI_ok mixed_ok axk233_hk (cut_ok tabI_ok mixed_ok axk237_hk (noHook _ _) axk237 100000 axk237_ok axk237_run) axk233 100000 axk233_ok axk233_run) axk232 100000 axk232_ok axk232_run) axk231 100000 axk231_ok axk231_run)
theorem axk239_hk : HookOk Tryz.prog tabI axk239_h := (cut_ok tabI_ok mixed_ok axk238_hk (noHook _ _) axk238 100000 axk238_ok axk238_run)
theorem axk240_hk : HookOk Tryz.prog tabI axk240_h := (noHook _ _)
theorem axk241_hk : HookOk Tryz.prog tabI axk241_h := (noHook _ _)
theorem axk242_hk : HookOk Tryz.prog tabI axk242_h := (noHook _ _)
theorem axk243_hk : HookOk Tryz.prog tabI axk243_h := (noHook _ _)
theorem axk244_hk : HookOk Tryz.prog tabI axk244_h := (noHook _ _)
theorem axk245_hk : HookOk Tryz.prog tabI axk245_h := (noHook _ _)
theorem axk246_hk : HookOk Tryz.prog tabI axk246_h := (noHook _ _)
theorem axk247_hk : HookOk Tryz.prog tabI axk247_h := (noHook _ _)
theorem axk248_hk : HookOk Tryz.prog tabI axk248_h := (noHook _ _)
theorem axk249_hk : HookOk Tryz.prog tabI axk249_h := (noHook _ _)
theorem axk250_hk : HookOk Tryz.prog tabI axk250_h := (cut_ok tabI_ok mixed_ok axk240_hk (cut_ok tabI_ok mixed_ok axk241_hk (cut_ok tabI_ok mixed_ok axk242_hk (cut_ok tabI_ok mixed_ok axk243_hk (cut_ok tabI_ok mixed_ok axk244_hk (cut_ok tabI_ok mixed_ok axk245_hk (cut_ok tabI_ok mixed_ok axk246_hk (cut_ok tabI_ok mixed_ok axk247_hk (cut_ok tabI_ok mixed_ok axk248_hk (cut_ok tabI_ok mixed_ok axk249_hk (noHook _ _) axk249 100000 axk249_ok axk249_run) axk248 100000 axk248_ok axk248_run) axk247 100000 axk247_ok axk247_run) axk246 100000 axk246_ok axk246_run) axk245 100000 axk245_ok axk245_run) axk244 100000 axk244_ok axk244_run) axk243 100000 axk243_ok axk243_run) axk242 100000 axk242_ok axk242_run) axk241 100000 axk241_ok axk241_run) axk240 100000 axk240_ok axk240_run)
theorem axk251_hk : HookOk Tryz.prog tabI axk251_h := (noHook _ _)
theorem axk252_hk : HookOk Tryz.prog tabI axk252_h := (noHook _ _)
theorem axk253_hk : HookOk Tryz.prog tabI axk253_h := (noHook _ _)
theorem axk254_hk : HookOk Tryz.prog tabI axk254_h := (cut_ok tabI_ok mixed_ok axk252_hk (cut_ok tabI_ok mixed_ok axk253_hk (noHook _ _) axk253 100000 axk253_ok axk253_run) axk252 100000 axk252_ok axk252_run)
theorem axk255_hk : HookOk Tryz.prog tabI axk255_h := (cut_ok tabI_ok mixed_ok axk254_hk (noHook _ _) axk254 100000 axk254_ok axk254_run)
theorem axk256_hk : HookOk Tryz.prog tabI axk256_h := (noHook _ _)
theorem axk257_hk : HookOk Tryz.prog tabI axk257_h := (noHook _ _)
theorem axk258_hk : HookOk Tryz.prog tabI axk258_h := (noHook _ _)
theorem axk259_hk : HookOk Tryz.prog tabI axk259_h := (noHook _ _)
theorem axk260_hk : HookOk Tryz.prog tabI axk260_h := (noHook _ _)
theorem axk261_hk : HookOk Tryz.prog tabI axk261_h := (cut_ok tabI_ok mixed_ok axk259_hk (cut_ok tabI_ok mixed_ok axk260_hk (noHook _ _) axk260 100000 axk260_ok axk260_run) axk259 100000 axk259_ok axk259_run)
theorem axk262_hk : HookOk Tryz.prog tabI axk262_h := (cut_ok tabI_ok mixed_ok axk261_hk (noHook _ _) axk261 100000 axk261_ok axk261_run)
theorem axk263_hk : HookOk Tryz.prog tabI axk263_h := (cut_ok tabI_ok mixed_ok axk256_hk (cut_ok tabI_ok mixed_ok axk257_hk (cut_ok tabI_ok mixed_ok axk258_hk (cut_ok tabI_ok mixed_ok axk262_hk (noHook _ _) axk262 100000 axk262_ok axk262_run) axk258 100000 axk258_ok axk258_run) axk257 100000 axk257_ok axk257_run) axk256 100000 axk256_ok axk256_run)
theorem axk264_hk : HookOk Tryz.prog tabI axk264_h := (cut_ok tabI_ok mixed_ok axk263_hk (noHook _ _) axk263 100000 axk263_ok axk263_run)
/-- railplan/railplanlaw43.awake -/
def axk265 : Cut where
  f := 9
  n := 0
  args := []
  pre := []
  v := (.bool true)
  post := []
  n2 := 425027
  frame := []
def axk265_h : Hook := (cutHook axk3 (cutHook axk12 (cutHook axk16 (cutHook axk226 (cutHook axk230 (cutHook axk239 (cutHook axk250 (cutHook axk251 (cutHook axk255 (cutHook axk264 fmtHook))))))))))
theorem axk265_hk : HookOk Tryz.prog tabI axk265_h := (cut_ok tabI_ok mixed_ok axk3_hk (cut_ok tabI_ok mixed_ok axk12_hk (cut_ok tabI_ok mixed_ok axk16_hk (cut_ok tabI_ok mixed_ok axk226_hk (cut_ok tabI_ok mixed_ok axk230_hk (cut_ok tabI_ok mixed_ok axk239_hk (cut_ok tabI_ok mixed_ok axk250_hk (cut_ok tabI_ok mixed_ok axk251_hk (cut_ok tabI_ok mixed_ok axk255_hk (cut_ok tabI_ok mixed_ok axk264_hk fmtHook_ok axk264 100000 axk264_ok axk264_run) axk255 100000 axk255_ok axk255_run) axk251 100000 axk251_ok axk251_run) axk250 100000 axk250_ok axk250_run) axk239 100000 axk239_ok axk239_run) axk230 100000 axk230_ok axk230_run) axk226 100000 axk226_ok axk226_run) axk16 100000 axk16_ok axk16_run) axk12 100000 axk12_ok axk12_run) axk3 100000 axk3_ok axk3_run)
set_option maxRecDepth 1000000 in
theorem axk265_run : chkOut axk265 (run (envP Tryz.prog axk265_h) 100000 axk265.f axk265.args (addAll axk265.pre .nil) axk265.n) = true := by kernel_rfl
theorem axk265_true (w : World) (hi : tabI (fun _ => False) w) : Calls Tryz.prog axk265.f #[] w fun e w' => e = .returned (.bool true) ∧ KeepsAll w w' := by
  have h := axk265_run
  have e1 : axk265.args = [] := by unfold axk265; rfl
  have e2 : addAll axk265.pre .nil = .nil := by unfold axk265; rfl
  have e3 : axk265.n = 0 := by unfold axk265; rfl
  have e4 : axk265.v = .bool true := by unfold axk265; rfl
  rw [e1, e2, e3] at h
  refine run_true mixed_ok axk265_hk (fuel := 100000) ?_ w hi
  revert h
  generalize run (envP Tryz.prog axk265_h) 100000 axk265.f [] .nil 0 = out
  intro h
  cases out with
  | bad => cases h
  | ok v H n =>
    simp only [chkOut, Bool.and_eq_true] at h
    have h2 := veq_eq h.1.1
    rw [e4] at h2
    subst h2
    rfl
end Go.Proofs.YtnglahcjemgcaaaGreatDoor

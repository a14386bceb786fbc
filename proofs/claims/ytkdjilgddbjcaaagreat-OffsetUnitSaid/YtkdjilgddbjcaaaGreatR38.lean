import Derived.Test.YtkdjilgddbjcaaaGreatR28
import Derived.Test.YtkdjilgddbjcaaaGreatR29
import Derived.Test.YtkdjilgddbjcaaaGreatR30
import Derived.Test.YtkdjilgddbjcaaaGreatR31
import Derived.Test.YtkdjilgddbjcaaaGreatR32
import Derived.Test.YtkdjilgddbjcaaaGreatR33
import Derived.Test.YtkdjilgddbjcaaaGreatR34
import Derived.Test.YtkdjilgddbjcaaaGreatR35
import Derived.Test.YtkdjilgddbjcaaaGreatR36
import Derived.Test.YtkdjilgddbjcaaaGreatR37
namespace Go.Proofs.YtkdjilgddbjcaaaGreat
open Go.RowKit
namespace Zc
theorem TP1_ok:MOK Tryz.prog TP1:=(MOK.nil (P:=Tryz.prog)).add mP0_ok
theorem TP2_ok:MOK Tryz.prog TP2:=TP1_ok.add mP1_ok
theorem TP3_ok:MOK Tryz.prog TP3:=TP2_ok.add mP2_ok
theorem TP4_ok:MOK Tryz.prog TP4:=TP3_ok.add mP3_ok
theorem TP5_ok:MOK Tryz.prog TP5:=TP4_ok.add mP4_ok
theorem TP6_ok:MOK Tryz.prog TP6:=TP5_ok.add mP5_ok
theorem TP7_ok:MOK Tryz.prog TP7:=TP6_ok.add mP6_ok
theorem TP8_ok:MOK Tryz.prog TP8:=TP7_ok.add mP7_ok
theorem TP9_ok:MOK Tryz.prog TP9:=TP8_ok.add mP8_ok
theorem TP10_ok:MOK Tryz.prog TP10:=TP9_ok.add mP9_ok
theorem TP11_ok:MOK Tryz.prog TP11:=TP10_ok.add mP10_ok
theorem TP12_ok:MOK Tryz.prog TP12:=TP11_ok.add mP11_ok
theorem TP13_ok:MOK Tryz.prog TP13:=TP12_ok.add mP12_ok
theorem TP14_ok:MOK Tryz.prog TP14:=TP13_ok.add mP13_ok
theorem TP15_ok:MOK Tryz.prog TP15:=TP14_ok.add mP14_ok
theorem TP16_ok:MOK Tryz.prog TP16:=TP15_ok.add mP15_ok
theorem TP17_ok:MOK Tryz.prog TP17:=TP16_ok.add mP16_ok
theorem TP18_ok:MOK Tryz.prog TP18:=TP17_ok.add mP17_ok
theorem TP19_ok:MOK Tryz.prog TP19:=TP18_ok.add mP18_ok
theorem TP20_ok:MOK Tryz.prog TP20:=TP19_ok.add mP19_ok
theorem TP21_ok:MOK Tryz.prog TP21:=TP20_ok.add mP20_ok
theorem TP22_ok:MOK Tryz.prog TP22:=TP21_ok.add mP21_ok
theorem TP23_ok:MOK Tryz.prog TP23:=TP22_ok.add mP22_ok
theorem TP24_ok:MOK Tryz.prog TP24:=TP23_ok.add mP23_ok
theorem TP25_ok:MOK Tryz.prog TP25:=TP24_ok.add mP24_ok
theorem TP26_ok:MOK Tryz.prog TP26:=TP25_ok.add mP25_ok
theorem TP27_ok:MOK Tryz.prog TP27:=TP26_ok.add mP26_ok
end Zc
end Go.Proofs.YtkdjilgddbjcaaaGreat

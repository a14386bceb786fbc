import Derived.Test.YtkdjilgddbjcaaaGreatR41
import Derived.Test.YtkdjilgddbjcaaaGreatR42
namespace Go.Proofs.YtkdjilgddbjcaaaGreat
open Go.RowKit
namespace Zc
theorem TP32_ok:MOK Tryz.prog TP32:=TP31_ok.add mP31_ok
theorem TP33_ok:MOK Tryz.prog TP33:=TP32_ok.add mP32_ok
end Zc
end Go.Proofs.YtkdjilgddbjcaaaGreat
namespace Go.Proofs.YtkdjilgddbjcaaaGreat
open Go.RowKit
namespace Zc
theorem mP33_ok:MPOK Tryz.prog 18 mP33:=MPOK.run_of (L:=LZ) (W:=WZ) (U:=UZ) (F:=FZ) (D:=E15) (M:=TP33) (fuel:=fuZ) (d:=dpZ) Vc.mixed LZ_ok FZ_ok E15_ok TP33_ok (show runM LZ WZ UZ FZ E15 TP33 fuZ dpZ 18 mP33=.ok .u by kernel_rfl)
end Zc
end Go.Proofs.YtkdjilgddbjcaaaGreat

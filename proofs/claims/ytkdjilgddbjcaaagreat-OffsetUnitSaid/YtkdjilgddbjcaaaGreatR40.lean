import Derived.Test.YtkdjilgddbjcaaaGreatR38
import Derived.Test.YtkdjilgddbjcaaaGreatR39
namespace Go.Proofs.YtkdjilgddbjcaaaGreat
open Go.RowKit
namespace Zc
theorem mP30_ok:MPOK Tryz.prog 53 mP30:=MPOK.run_of (L:=LZ) (W:=WZ) (U:=UZ) (F:=FZ) (D:=E15) (M:=TP27) (fuel:=fuZ) (d:=dpZ) Vc.mixed LZ_ok FZ_ok E15_ok TP27_ok (show runM LZ WZ UZ FZ E15 TP27 fuZ dpZ 53 mP30=.ok .u by kernel_rfl)
end Zc
end Go.Proofs.YtkdjilgddbjcaaaGreat
namespace Go.Proofs.YtkdjilgddbjcaaaGreat
open Go.RowKit
namespace Zc
theorem TP28_ok:MOK Tryz.prog TP28:=TP27_ok.add mP27_ok
theorem TP29_ok:MOK Tryz.prog TP29:=TP28_ok.add mP28_ok
theorem TP30_ok:MOK Tryz.prog TP30:=TP29_ok.add mP29_ok
theorem TP31_ok:MOK Tryz.prog TP31:=TP30_ok.add mP30_ok
end Zc
end Go.Proofs.YtkdjilgddbjcaaaGreat

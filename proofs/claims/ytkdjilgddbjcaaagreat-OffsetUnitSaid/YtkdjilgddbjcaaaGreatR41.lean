import Derived.Test.YtkdjilgddbjcaaaGreatR40
namespace Go.Proofs.YtkdjilgddbjcaaaGreat
open Go.RowKit
namespace Zc
theorem mP31_ok:MPOK Tryz.prog 16 mP31:=MPOK.run_of (L:=LZ) (W:=WZ) (U:=UZ) (F:=FZ) (D:=E15) (M:=TP31) (fuel:=fuZ) (d:=dpZ) Vc.mixed LZ_ok FZ_ok E15_ok TP31_ok (show runM LZ WZ UZ FZ E15 TP31 fuZ dpZ 16 mP31=.ok .u by kernel_rfl)
end Zc
end Go.Proofs.YtkdjilgddbjcaaaGreat

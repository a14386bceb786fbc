import Derived.Test.YtocpaddakdcofaaGreatR27
namespace Go.Proofs.YtocpaddakdcofaaGreat
open Go.RowKit
namespace Zc
theorem mP4_ok:MPOK Tryz.prog 18 mP4:=MPOK.run_of (L:=LZ) (W:=WZ) (U:=UZ) (F:=FZ) (D:=E9) (M:=TP1) (fuel:=fuZ) (d:=dpZ) Vc.mixed LZ_ok FZ_ok E9_ok TP1_ok (show runM LZ WZ UZ FZ E9 TP1 fuZ dpZ 18 mP4=.ok .u by kernel_rfl)
end Zc
end Go.Proofs.YtocpaddakdcofaaGreat

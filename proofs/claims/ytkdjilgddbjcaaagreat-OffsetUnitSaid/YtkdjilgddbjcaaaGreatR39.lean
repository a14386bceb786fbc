import Derived.Test.YtkdjilgddbjcaaaGreatR38
namespace Go.Proofs.YtkdjilgddbjcaaaGreat
open Go.RowKit
namespace Zc
theorem mP27_ok:MPOK Tryz.prog 53 mP27:=MPOK.run_of (L:=LZ) (W:=WZ) (U:=UZ) (F:=FZ) (D:=E15) (M:=TP27) (fuel:=fuZ) (d:=dpZ) Vc.mixed LZ_ok FZ_ok E15_ok TP27_ok (show runM LZ WZ UZ FZ E15 TP27 fuZ dpZ 53 mP27=.ok .u by kernel_rfl)
end Zc
end Go.Proofs.YtkdjilgddbjcaaaGreat
namespace Go.Proofs.YtkdjilgddbjcaaaGreat
open Go.RowKit
namespace Zc
theorem mP28_ok:MPOK Tryz.prog 53 mP28:=MPOK.run_of (L:=LZ) (W:=WZ) (U:=UZ) (F:=FZ) (D:=E15) (M:=TP27) (fuel:=fuZ) (d:=dpZ) Vc.mixed LZ_ok FZ_ok E15_ok TP27_ok (show runM LZ WZ UZ FZ E15 TP27 fuZ dpZ 53 mP28=.ok .u by kernel_rfl)
end Zc
end Go.Proofs.YtkdjilgddbjcaaaGreat
namespace Go.Proofs.YtkdjilgddbjcaaaGreat
open Go.RowKit
namespace Zc
theorem mP29_ok:MPOK Tryz.prog 53 mP29:=MPOK.run_of (L:=LZ) (W:=WZ) (U:=UZ) (F:=FZ) (D:=E15) (M:=TP27) (fuel:=fuZ) (d:=dpZ) Vc.mixed LZ_ok FZ_ok E15_ok TP27_ok (show runM LZ WZ UZ FZ E15 TP27 fuZ dpZ 53 mP29=.ok .u by kernel_rfl)
end Zc
end Go.Proofs.YtkdjilgddbjcaaaGreat

import Derived.Test.YtkdjilgddbjcaaaGreatR27
namespace Go.Proofs.YtkdjilgddbjcaaaGreat
open Go.RowKit
namespace Zc
theorem mP0_ok:MPOK Tryz.prog 87 mP0:=MPOK.run_of (L:=LZ) (W:=WZ) (U:=UZ) (F:=FZ) (D:=E15) (M:=TP0) (fuel:=fuZ) (d:=dpZ) Vc.mixed LZ_ok FZ_ok E15_ok MOK.nil (show runM LZ WZ UZ FZ E15 TP0 fuZ dpZ 87 mP0=.ok .u by kernel_rfl)
end Zc
end Go.Proofs.YtkdjilgddbjcaaaGreat
namespace Go.Proofs.YtkdjilgddbjcaaaGreat
open Go.RowKit
namespace Zc
theorem mP1_ok:MPOK Tryz.prog 87 mP1:=MPOK.run_of (L:=LZ) (W:=WZ) (U:=UZ) (F:=FZ) (D:=E15) (M:=TP0) (fuel:=fuZ) (d:=dpZ) Vc.mixed LZ_ok FZ_ok E15_ok MOK.nil (show runM LZ WZ UZ FZ E15 TP0 fuZ dpZ 87 mP1=.ok .u by kernel_rfl)
end Zc
end Go.Proofs.YtkdjilgddbjcaaaGreat
namespace Go.Proofs.YtkdjilgddbjcaaaGreat
open Go.RowKit
namespace Zc
theorem mP2_ok:MPOK Tryz.prog 87 mP2:=MPOK.run_of (L:=LZ) (W:=WZ) (U:=UZ) (F:=FZ) (D:=E15) (M:=TP0) (fuel:=fuZ) (d:=dpZ) Vc.mixed LZ_ok FZ_ok E15_ok MOK.nil (show runM LZ WZ UZ FZ E15 TP0 fuZ dpZ 87 mP2=.ok .u by kernel_rfl)
end Zc
end Go.Proofs.YtkdjilgddbjcaaaGreat
namespace Go.Proofs.YtkdjilgddbjcaaaGreat
open Go.RowKit
namespace Zc
theorem mP3_ok:MPOK Tryz.prog 87 mP3:=MPOK.run_of (L:=LZ) (W:=WZ) (U:=UZ) (F:=FZ) (D:=E15) (M:=TP0) (fuel:=fuZ) (d:=dpZ) Vc.mixed LZ_ok FZ_ok E15_ok MOK.nil (show runM LZ WZ UZ FZ E15 TP0 fuZ dpZ 87 mP3=.ok .u by kernel_rfl)
end Zc
end Go.Proofs.YtkdjilgddbjcaaaGreat

import Derived.Test.YtkdjilgddbjcaaaGreatR27
namespace Go.Proofs.YtkdjilgddbjcaaaGreat
open Go.RowKit
namespace Zc
theorem mP8_ok:MPOK Tryz.prog 87 mP8:=MPOK.run_of (L:=LZ) (W:=WZ) (U:=UZ) (F:=FZ) (D:=E15) (M:=TP0) (fuel:=fuZ) (d:=dpZ) Vc.mixed LZ_ok FZ_ok E15_ok MOK.nil (show runM LZ WZ UZ FZ E15 TP0 fuZ dpZ 87 mP8=.ok .u by kernel_rfl)
end Zc
end Go.Proofs.YtkdjilgddbjcaaaGreat
namespace Go.Proofs.YtkdjilgddbjcaaaGreat
open Go.RowKit
namespace Zc
theorem mP9_ok:MPOK Tryz.prog 87 mP9:=MPOK.run_of (L:=LZ) (W:=WZ) (U:=UZ) (F:=FZ) (D:=E15) (M:=TP0) (fuel:=fuZ) (d:=dpZ) Vc.mixed LZ_ok FZ_ok E15_ok MOK.nil (show runM LZ WZ UZ FZ E15 TP0 fuZ dpZ 87 mP9=.ok .u by kernel_rfl)
end Zc
end Go.Proofs.YtkdjilgddbjcaaaGreat
namespace Go.Proofs.YtkdjilgddbjcaaaGreat
open Go.RowKit
namespace Zc
theorem mP10_ok:MPOK Tryz.prog 87 mP10:=MPOK.run_of (L:=LZ) (W:=WZ) (U:=UZ) (F:=FZ) (D:=E15) (M:=TP0) (fuel:=fuZ) (d:=dpZ) Vc.mixed LZ_ok FZ_ok E15_ok MOK.nil (show runM LZ WZ UZ FZ E15 TP0 fuZ dpZ 87 mP10=.ok .u by kernel_rfl)
end Zc
end Go.Proofs.YtkdjilgddbjcaaaGreat
namespace Go.Proofs.YtkdjilgddbjcaaaGreat
open Go.RowKit
namespace Zc
theorem mP11_ok:MPOK Tryz.prog 87 mP11:=MPOK.run_of (L:=LZ) (W:=WZ) (U:=UZ) (F:=FZ) (D:=E15) (M:=TP0) (fuel:=fuZ) (d:=dpZ) Vc.mixed LZ_ok FZ_ok E15_ok MOK.nil (show runM LZ WZ UZ FZ E15 TP0 fuZ dpZ 87 mP11=.ok .u by kernel_rfl)
end Zc
end Go.Proofs.YtkdjilgddbjcaaaGreat
namespace Go.Proofs.YtkdjilgddbjcaaaGreat
open Go.RowKit
namespace Zc
theorem mP12_ok:MPOK Tryz.prog 87 mP12:=MPOK.run_of (L:=LZ) (W:=WZ) (U:=UZ) (F:=FZ) (D:=E15) (M:=TP0) (fuel:=fuZ) (d:=dpZ) Vc.mixed LZ_ok FZ_ok E15_ok MOK.nil (show runM LZ WZ UZ FZ E15 TP0 fuZ dpZ 87 mP12=.ok .u by kernel_rfl)
end Zc
end Go.Proofs.YtkdjilgddbjcaaaGreat

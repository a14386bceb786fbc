import Derived.Test.YtbohkigffejhoaaGreatR30
namespace Go.Proofs.YtbohkigffejhoaaGreat
open Go.RowKit
namespace Zc
theorem b1J:MPOK Tryz.prog 70 mP3:=mpP MOK.nil (by kernel_rfl)
theorem b1I:MPOK Tryz.prog 70 mP4:=mpP MOK.nil (by kernel_rfl)

import Derived.Test.YtbohkigffejhoaaGreatR30
namespace Go.Proofs.YtbohkigffejhoaaGreat
open Go.RowKit
namespace Zc
theorem b1H:MPOK Tryz.prog 70 mP5:=mpP MOK.nil (by kernel_rfl)
theorem b1G:MPOK Tryz.prog 70 mP6:=mpP MOK.nil (by kernel_rfl)

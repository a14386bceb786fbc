import Derived.Test.YtbohkigffejhoaaGreatR30
namespace Go.Proofs.YtbohkigffejhoaaGreat
open Go.RowKit
namespace Zc
theorem b1F:MPOK Tryz.prog 70 mP7:=mpP MOK.nil (by kernel_rfl)
theorem b1E:MPOK Tryz.prog 70 mP8:=mpP MOK.nil (by kernel_rfl)
theorem b1D:MPOK Tryz.prog 70 mP9:=mpP MOK.nil (by kernel_rfl)

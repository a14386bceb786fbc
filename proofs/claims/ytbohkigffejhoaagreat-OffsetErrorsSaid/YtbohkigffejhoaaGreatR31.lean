import Derived.Test.YtbohkigffejhoaaGreatR30
namespace Go.Proofs.YtbohkigffejhoaaGreat
open Go.RowKit
namespace Zc
theorem b1M:MPOK Tryz.prog 70 mP0:=mpP MOK.nil (by kernel_rfl)
theorem b1L:MPOK Tryz.prog 70 mP1:=mpP MOK.nil (by kernel_rfl)
theorem b1K:MPOK Tryz.prog 70 mP2:=mpP MOK.nil (by kernel_rfl)

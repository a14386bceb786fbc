import Derived.Test.YtbohkigffejhoaaGreatR30
namespace Go.Proofs.YtbohkigffejhoaaGreat
open Go.RowKit
namespace Zc
theorem aYy:MPOK Tryz.prog 70 b6q:=mpP MOK.nil (by kernel_rfl)
theorem aYx:MPOK Tryz.prog 70 b6p:=mpP MOK.nil (by kernel_rfl)

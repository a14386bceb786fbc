import Derived.Test.YtbohkigffejhoaaGreatR30
namespace Go.Proofs.YtbohkigffejhoaaGreat
open Go.RowKit
namespace Zc
theorem aYr:MPOK Tryz.prog 70 b6j:=mpP MOK.nil (by kernel_rfl)
theorem aYq:MPOK Tryz.prog 70 b6i:=mpP MOK.nil (by kernel_rfl)

import Derived.Test.YtbohkigffejhoaaGreatR30
namespace Go.Proofs.YtbohkigffejhoaaGreat
open Go.RowKit
namespace Zc
theorem aYu:MPOK Tryz.prog 70 b6m:=mpP MOK.nil (by kernel_rfl)
theorem aYt:MPOK Tryz.prog 70 b6l:=mpP MOK.nil (by kernel_rfl)
theorem aYs:MPOK Tryz.prog 70 b6k:=mpP MOK.nil (by kernel_rfl)

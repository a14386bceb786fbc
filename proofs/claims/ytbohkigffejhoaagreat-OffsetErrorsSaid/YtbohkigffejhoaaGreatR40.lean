import Derived.Test.YtbohkigffejhoaaGreatR30
namespace Go.Proofs.YtbohkigffejhoaaGreat
open Go.RowKit
namespace Zc
theorem aYn:MPOK Tryz.prog 70 b6f:=mpP MOK.nil (by kernel_rfl)
theorem aYm:MPOK Tryz.prog 244 b6e:=mpP MOK.nil (by kernel_rfl)
theorem aYl:MPOK Tryz.prog 244 b6d:=mpP MOK.nil (by kernel_rfl)

import Derived.Test.YtbohkigffejhoaaGreatR30
namespace Go.Proofs.YtbohkigffejhoaaGreat
open Go.RowKit
namespace Zc
theorem aYk:MPOK Tryz.prog 244 b6c:=mpP MOK.nil (by kernel_rfl)
theorem aYj:MPOK Tryz.prog 244 b6b:=mpP MOK.nil (by kernel_rfl)
theorem aYi:MPOK Tryz.prog 244 b6a:=mpP MOK.nil (by kernel_rfl)
theorem aYh:MPOK Tryz.prog 244 b59:=mpP MOK.nil (by kernel_rfl)

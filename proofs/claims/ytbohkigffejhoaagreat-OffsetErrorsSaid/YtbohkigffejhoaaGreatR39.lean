import Derived.Test.YtbohkigffejhoaaGreatR30
namespace Go.Proofs.YtbohkigffejhoaaGreat
open Go.RowKit
namespace Zc
theorem aYp:MPOK Tryz.prog 70 b6h:=mpP MOK.nil (by kernel_rfl)
theorem aYo:MPOK Tryz.prog 70 b6g:=mpP MOK.nil (by kernel_rfl)

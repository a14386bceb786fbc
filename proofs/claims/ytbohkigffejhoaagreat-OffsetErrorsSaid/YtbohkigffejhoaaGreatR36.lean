import Derived.Test.YtbohkigffejhoaaGreatR30
namespace Go.Proofs.YtbohkigffejhoaaGreat
open Go.RowKit
namespace Zc
theorem aYw:MPOK Tryz.prog 70 b6o:=mpP MOK.nil (by kernel_rfl)
theorem aYv:MPOK Tryz.prog 70 b6n:=mpP MOK.nil (by kernel_rfl)

import Derived.Test.YtbohkigffejhoaaGreatR30
namespace Go.Proofs.YtbohkigffejhoaaGreat
open Go.RowKit
namespace Zc
theorem aYg:MPOK Tryz.prog 244 b58:=mpP MOK.nil (by kernel_rfl)
theorem aYf:MPOK Tryz.prog 244 b57:=mpP MOK.nil (by kernel_rfl)
theorem aYe:MPOK Tryz.prog 244 b56:=mpP MOK.nil (by kernel_rfl)
theorem aYd:MPOK Tryz.prog 244 b55:=mpP MOK.nil (by kernel_rfl)

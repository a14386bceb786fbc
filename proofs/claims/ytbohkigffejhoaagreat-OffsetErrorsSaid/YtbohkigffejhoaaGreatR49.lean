import Derived.Test.YtbohkigffejhoaaGreatR47
namespace Go.Proofs.YtbohkigffejhoaaGreat.Zc
theorem e00:DO 0 0 81 16 (aP7 (aP6 [])):=mpP MOK.nil (by kernel_rfl)
theorem e01:DO 10 0 81 16 (aP9 (aP8 [])):=mpP MOK.nil (by kernel_rfl)
theorem e02:DO 0 10 81 16 (b48 (aUL [])):=mpP MOK.nil (by kernel_rfl)
theorem e03:DO 10 10 81 16 (b2V (b2W [])):=mpP MOK.nil (by kernel_rfl)
theorem aX3:MPOK Tryz.prog 10 b5V:=mpP ((((aJJ.add e00).add e01).add e02).add e03) (by kernel_rfl)

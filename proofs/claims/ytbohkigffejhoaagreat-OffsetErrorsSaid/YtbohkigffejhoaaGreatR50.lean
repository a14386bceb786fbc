import Derived.Test.YtbohkigffejhoaaGreatR47
namespace Go.Proofs.YtbohkigffejhoaaGreat.Zc
theorem e10:DO 0 0 289 16 (b2S (b2T [])):=mpP MOK.nil (by kernel_rfl)
theorem e11:DO 10 0 289 16 (b44 (b45 [])):=mpP MOK.nil (by kernel_rfl)
theorem e12:DO 0 10 289 16 (b43 (aUK [])):=mpP MOK.nil (by kernel_rfl)
theorem e13:DO 10 10 289 16 (b2P (b2Q [])):=mpP MOK.nil (by kernel_rfl)
theorem aX2:MPOK Tryz.prog 10 b5U:=mpP ((((aJJ.add e10).add e11).add e12).add e13) (by kernel_rfl)

import Derived.Test.YtbohkigffejhoaaGreatR47
namespace Go.Proofs.YtbohkigffejhoaaGreat.Zc
theorem e20:DO 0 0 25 4 (aSj (b5n [])):=mpP MOK.nil (by kernel_rfl)
theorem e21:DO 10 0 25 4 (aZy (b5m [])):=mpP MOK.nil (by kernel_rfl)
theorem e22:DO 0 10 25 4 (b5i (aEf [])):=mpP MOK.nil (by kernel_rfl)
theorem e23:DO 10 10 25 4 (b5e (aSi [])):=mpP MOK.nil (by kernel_rfl)
theorem aX1:MPOK Tryz.prog 9 b5T:=mpP ((((aJJ.add e20).add e21).add e22).add e23) (by kernel_rfl)

import Derived.Test.YtbohkigffejhoaaGreatR43
import Derived.Test.YtbohkigffejhoaaGreatR44
import Derived.Test.YtbohkigffejhoaaGreatR45
open Go.Proofs.Tryz (prog)
namespace Go.Proofs.YtbohkigffejhoaaGreat.Zc
theorem aA2:MOK prog b6G:=((((a8w.add aYc).add aYb).add aYa).add aX9).add aX8
theorem aX7:MPOK prog 18 b5Z:=mpP aA2 (by kernel_rfl)
theorem aX6:MPOK prog 18 b5Y:=mpP aA2 (by kernel_rfl)

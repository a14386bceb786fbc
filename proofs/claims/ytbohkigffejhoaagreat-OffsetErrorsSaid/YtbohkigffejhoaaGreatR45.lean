import Derived.Test.YtbohkigffejhoaaGreatR43
namespace Go.Proofs.YtbohkigffejhoaaGreat.Zc
theorem aX9:MPOK Tryz.prog 70 b51:=mpP a8w (by kernel_rfl)
theorem aX8:MPOK Tryz.prog 70 b50:=mpP a8w (by kernel_rfl)

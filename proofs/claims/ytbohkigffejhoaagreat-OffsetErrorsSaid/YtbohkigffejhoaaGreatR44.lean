import Derived.Test.YtbohkigffejhoaaGreatR43
namespace Go.Proofs.YtbohkigffejhoaaGreat.Zc
theorem aYb:MPOK Tryz.prog 70 b53:=mpP a8w (by kernel_rfl)
theorem aYa:MPOK Tryz.prog 70 b52:=mpP a8w (by kernel_rfl)

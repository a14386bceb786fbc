import Derived.Test.YtbohkigffejhoaaGreatR46
namespace Go.Proofs.YtbohkigffejhoaaGreat.Zc
theorem aX5:MPOK Tryz.prog 18 b5X:=mpP aA2 (by kernel_rfl)
theorem aX4:MPOK Tryz.prog 18 b5W:=mpP aA2 (by kernel_rfl)
theorem aJJ:MOK Tryz.prog b6C:=(((aA2.add aX7).add aX6).add aX5).add aX4
abbrev DO (a b c d:Int) (t:List LF):=MPOK Tryz.prog 146 ⟨0,[.g [.I a,.I 1,.I b,.I 1,.I c,.I d]],[],.t [.g [.s 0 0 2 2 66],.c (.v (.int .i64 0))],[⟨52,t⟩]⟩

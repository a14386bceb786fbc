import Derived.Test.YtbohkigffejhoaaGreatR31
import Derived.Test.YtbohkigffejhoaaGreatR32
import Derived.Test.YtbohkigffejhoaaGreatR33
import Derived.Test.YtbohkigffejhoaaGreatR34
import Derived.Test.YtbohkigffejhoaaGreatR35
import Derived.Test.YtbohkigffejhoaaGreatR36
import Derived.Test.YtbohkigffejhoaaGreatR37
import Derived.Test.YtbohkigffejhoaaGreatR38
import Derived.Test.YtbohkigffejhoaaGreatR39
import Derived.Test.YtbohkigffejhoaaGreatR40
import Derived.Test.YtbohkigffejhoaaGreatR41
import Derived.Test.YtbohkigffejhoaaGreatR42
open Go.Proofs.Tryz (prog)
namespace Go.Proofs.YtbohkigffejhoaaGreat.Zc
theorem a8w:MOK prog b6L:=((((((((((((((((((((((((((((((((MOK.nil (P:=prog)).add b1M).add b1L).add b1K).add b1J).add b1I).add b1H).add b1G).add b1F).add b1E).add b1D).add aYy).add aYx).add aYw).add aYv).add aYu).add aYt).add aYs).add aYr).add aYq).add aYp).add aYo).add aYn).add aYm).add aYl).add aYk).add aYj).add aYi).add aYh).add aYg).add aYf).add aYe).add aYd
theorem aYc:MPOK prog 70 b54:=mpP a8w (by kernel_rfl)

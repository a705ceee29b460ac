/- Words that are reckoned from primes, by evaluation. -/
import Derived.Test.YtnlkjhhocehhaaaRootsF
namespace Go.Proofs.Ytnlkjhhocehhaaa
namespace Sha
set_option maxRecDepth 100000
theorem r3_137 : rootL 137 3 = 666307205 := rootL_eq 137 3 _ (by decide +kernel)
theorem r3_139 : rootL 139 3 = 773529912 := rootL_eq 139 3 _ (by decide +kernel)
theorem r3_149 : rootL 149 3 = 1294757372 := rootL_eq 149 3 _ (by decide +kernel)
theorem r3_151 : rootL 151 3 = 1396182291 := rootL_eq 151 3 _ (by decide +kernel)
theorem r3_157 : rootL 157 3 = 1695183700 := rootL_eq 157 3 _ (by decide +kernel)
theorem r3_163 : rootL 163 3 = 1986661051 := rootL_eq 163 3 _ (by decide +kernel)
theorem r3_167 : rootL 167 3 = 2177026350 := rootL_eq 167 3 _ (by decide +kernel)
theorem r3_173 : rootL 173 3 = 2456956037 := rootL_eq 173 3 _ (by decide +kernel)
theorem r3_179 : rootL 179 3 = 2730485921 := rootL_eq 179 3 _ (by decide +kernel)
theorem r3_181 : rootL 181 3 = 2820302411 := rootL_eq 181 3 _ (by decide +kernel)
theorem r3_191 : rootL 191 3 = 3259730800 := rootL_eq 191 3 _ (by decide +kernel)
theorem r3_193 : rootL 193 3 = 3345764771 := rootL_eq 193 3 _ (by decide +kernel)
theorem r3_197 : rootL 197 3 = 3516065817 := rootL_eq 197 3 _ (by decide +kernel)
theorem r3_199 : rootL 199 3 = 3600352804 := rootL_eq 199 3 _ (by decide +kernel)
theorem r3_211 : rootL 211 3 = 4094571909 := rootL_eq 211 3 _ (by decide +kernel)
theorem r3_223 : rootL 223 3 = 275423344 := rootL_eq 223 3 _ (by decide +kernel)
end Sha
end Go.Proofs.Ytnlkjhhocehhaaa

/- Words that are reckoned from primes, by evaluation. -/
import Derived.Test.YtnlkjhhocehhaaaRootsF
namespace Go.Proofs.Ytnlkjhhocehhaaa
namespace Sha
set_option maxRecDepth 100000
theorem r3_227 : rootL 227 3 = 430227734 := rootL_eq 227 3 _ (by decide +kernel)
theorem r3_229 : rootL 229 3 = 506948616 := rootL_eq 229 3 _ (by decide +kernel)
theorem r3_233 : rootL 233 3 = 659060556 := rootL_eq 233 3 _ (by decide +kernel)
theorem r3_239 : rootL 239 3 = 883997877 := rootL_eq 239 3 _ (by decide +kernel)
theorem r3_241 : rootL 241 3 = 958139571 := rootL_eq 241 3 _ (by decide +kernel)
theorem r3_251 : rootL 251 3 = 1322822218 := rootL_eq 251 3 _ (by decide +kernel)
theorem r3_257 : rootL 257 3 = 1537002063 := rootL_eq 257 3 _ (by decide +kernel)
theorem r3_263 : rootL 263 3 = 1747873779 := rootL_eq 263 3 _ (by decide +kernel)
theorem r3_269 : rootL 269 3 = 1955562222 := rootL_eq 269 3 _ (by decide +kernel)
theorem r3_271 : rootL 271 3 = 2024104815 := rootL_eq 271 3 _ (by decide +kernel)
theorem r3_277 : rootL 277 3 = 2227730452 := rootL_eq 277 3 _ (by decide +kernel)
theorem r3_281 : rootL 281 3 = 2361852424 := rootL_eq 281 3 _ (by decide +kernel)
theorem r3_283 : rootL 283 3 = 2428436474 := rootL_eq 283 3 _ (by decide +kernel)
theorem r3_293 : rootL 293 3 = 2756734187 := rootL_eq 293 3 _ (by decide +kernel)
theorem r3_307 : rootL 307 3 = 3204031479 := rootL_eq 307 3 _ (by decide +kernel)
theorem r3_311 : rootL 311 3 = 3329325298 := rootL_eq 311 3 _ (by decide +kernel)
end Sha
end Go.Proofs.Ytnlkjhhocehhaaa

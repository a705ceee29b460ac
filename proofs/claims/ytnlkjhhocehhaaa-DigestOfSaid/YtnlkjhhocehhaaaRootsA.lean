/- Words that are reckoned from primes, by evaluation. -/
import Derived.Test.YtnlkjhhocehhaaaRootsF
namespace Go.Proofs.Ytnlkjhhocehhaaa
namespace Sha
set_option maxRecDepth 100000
theorem r3_2 : rootL 2 3 = 1116352408 := rootL_eq 2 3 _ (by decide +kernel)
theorem r3_3 : rootL 3 3 = 1899447441 := rootL_eq 3 3 _ (by decide +kernel)
theorem r3_5 : rootL 5 3 = 3049323471 := rootL_eq 5 3 _ (by decide +kernel)
theorem r3_7 : rootL 7 3 = 3921009573 := rootL_eq 7 3 _ (by decide +kernel)
theorem r3_11 : rootL 11 3 = 961987163 := rootL_eq 11 3 _ (by decide +kernel)
theorem r3_13 : rootL 13 3 = 1508970993 := rootL_eq 13 3 _ (by decide +kernel)
theorem r3_17 : rootL 17 3 = 2453635748 := rootL_eq 17 3 _ (by decide +kernel)
theorem r3_19 : rootL 19 3 = 2870763221 := rootL_eq 19 3 _ (by decide +kernel)
theorem r3_23 : rootL 23 3 = 3624381080 := rootL_eq 23 3 _ (by decide +kernel)
theorem r3_29 : rootL 29 3 = 310598401 := rootL_eq 29 3 _ (by decide +kernel)
theorem r3_31 : rootL 31 3 = 607225278 := rootL_eq 31 3 _ (by decide +kernel)
theorem r3_37 : rootL 37 3 = 1426881987 := rootL_eq 37 3 _ (by decide +kernel)
theorem r3_41 : rootL 41 3 = 1925078388 := rootL_eq 41 3 _ (by decide +kernel)
theorem r3_43 : rootL 43 3 = 2162078206 := rootL_eq 43 3 _ (by decide +kernel)
theorem r3_47 : rootL 47 3 = 2614888103 := rootL_eq 47 3 _ (by decide +kernel)
theorem r3_53 : rootL 53 3 = 3248222580 := rootL_eq 53 3 _ (by decide +kernel)
theorem r2_2 : rootL 2 2 = 1779033703 := rootL_eq 2 2 _ (by decide +kernel)
theorem r2_3 : rootL 3 2 = 3144134277 := rootL_eq 3 2 _ (by decide +kernel)
theorem r2_5 : rootL 5 2 = 1013904242 := rootL_eq 5 2 _ (by decide +kernel)
theorem r2_7 : rootL 7 2 = 2773480762 := rootL_eq 7 2 _ (by decide +kernel)
theorem r2_11 : rootL 11 2 = 1359893119 := rootL_eq 11 2 _ (by decide +kernel)
theorem r2_13 : rootL 13 2 = 2600822924 := rootL_eq 13 2 _ (by decide +kernel)
theorem r2_17 : rootL 17 2 = 528734635 := rootL_eq 17 2 _ (by decide +kernel)
theorem r2_19 : rootL 19 2 = 1541459225 := rootL_eq 19 2 _ (by decide +kernel)
end Sha
end Go.Proofs.Ytnlkjhhocehhaaa

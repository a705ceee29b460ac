/- Words that are reckoned from primes, by evaluation. -/
import Derived.Test.YtnlkjhhocehhaaaRootsF
namespace Go.Proofs.Ytnlkjhhocehhaaa
namespace Sha
set_option maxRecDepth 100000
theorem r3_59 : rootL 59 3 = 3835390401 := rootL_eq 59 3 _ (by decide +kernel)
theorem r3_61 : rootL 61 3 = 4022224774 := rootL_eq 61 3 _ (by decide +kernel)
theorem r3_67 : rootL 67 3 = 264347078 := rootL_eq 67 3 _ (by decide +kernel)
theorem r3_71 : rootL 71 3 = 604807628 := rootL_eq 71 3 _ (by decide +kernel)
theorem r3_73 : rootL 73 3 = 770255983 := rootL_eq 73 3 _ (by decide +kernel)
theorem r3_79 : rootL 79 3 = 1249150122 := rootL_eq 79 3 _ (by decide +kernel)
theorem r3_83 : rootL 83 3 = 1555081692 := rootL_eq 83 3 _ (by decide +kernel)
theorem r3_89 : rootL 89 3 = 1996064986 := rootL_eq 89 3 _ (by decide +kernel)
theorem r3_97 : rootL 97 3 = 2554220882 := rootL_eq 97 3 _ (by decide +kernel)
theorem r3_101 : rootL 101 3 = 2821834349 := rootL_eq 101 3 _ (by decide +kernel)
theorem r3_103 : rootL 103 3 = 2952996808 := rootL_eq 103 3 _ (by decide +kernel)
theorem r3_107 : rootL 107 3 = 3210313671 := rootL_eq 107 3 _ (by decide +kernel)
theorem r3_109 : rootL 109 3 = 3336571891 := rootL_eq 109 3 _ (by decide +kernel)
theorem r3_113 : rootL 113 3 = 3584528711 := rootL_eq 113 3 _ (by decide +kernel)
theorem r3_127 : rootL 127 3 = 113926993 := rootL_eq 127 3 _ (by decide +kernel)
theorem r3_131 : rootL 131 3 = 338241895 := rootL_eq 131 3 _ (by decide +kernel)
end Sha
end Go.Proofs.Ytnlkjhhocehhaaa

/- All the words are those that are reckoned from primes. -/
import Derived.Test.YtnlkjhhocehhaaaRootsA
import Derived.Test.YtnlkjhhocehhaaaRootsB
import Derived.Test.YtnlkjhhocehhaaaRootsC
import Derived.Test.YtnlkjhhocehhaaaRootsD
namespace Go.Proofs.Ytnlkjhhocehhaaa
namespace Sha
theorem primes64_eq : primes64 = [2, 3, 5, 7, 11, 13, 17, 19, 23, 29, 31, 37, 41, 43, 47, 53, 59, 61, 67, 71, 73, 79, 83, 89, 97, 101, 103, 107, 109, 113, 127, 131, 137, 139, 149, 151, 157, 163, 167, 173, 179, 181, 191, 193, 197, 199, 211, 223, 227, 229, 233, 239, 241, 251, 257, 263, 269, 271, 277, 281, 283, 293, 307, 311] := by decide +kernel
theorem roots3 : primes64.map (fun p => rootL p 3) = K.map UInt32.toNat := by
  rw [primes64_eq]
  simp only [List.map_cons, List.map_nil, r3_2, r3_3, r3_5, r3_7, r3_11, r3_13, r3_17, r3_19, r3_23, r3_29, r3_31, r3_37, r3_41, r3_43, r3_47, r3_53, r3_59, r3_61, r3_67, r3_71, r3_73, r3_79, r3_83, r3_89, r3_97, r3_101, r3_103, r3_107, r3_109, r3_113, r3_127, r3_131, r3_137, r3_139, r3_149, r3_151, r3_157, r3_163, r3_167, r3_173, r3_179, r3_181, r3_191, r3_193, r3_197, r3_199, r3_211, r3_223, r3_227, r3_229, r3_233, r3_239, r3_241, r3_251, r3_257, r3_263, r3_269, r3_271, r3_277, r3_281, r3_283, r3_293, r3_307, r3_311]
  decide +kernel
theorem roots2 : (primes64.take 8).map (fun p => rootL p 2) = init.list.map UInt32.toNat := by
  rw [primes64_eq]
  simp only [List.take_succ_cons, List.take_zero, List.map_cons, List.map_nil, r2_2, r2_3, r2_5, r2_7, r2_11, r2_13, r2_17, r2_19]
  decide +kernel
theorem root3_at (i : Nat) (h : i < 64) : rootL (primes64.getD i 0) 3 = (K.getD i 0).toNat := by
  have hl : primes64.length = 64 := primes_len.1
  have hk : K.length = 64 := rfl
  have e := congrArg (fun l => l[i]?) roots3
  simp only [List.getElem?_map, List.getElem?_eq_getElem (show i < primes64.length by omega), List.getElem?_eq_getElem (show i < K.length by omega), Option.map_some, Option.some.injEq] at e
  rw [List.getD_eq_getElem?_getD, List.getD_eq_getElem?_getD, List.getElem?_eq_getElem (show i < primes64.length by omega), List.getElem?_eq_getElem (show i < K.length by omega)]
  exact e
theorem root2_at (i : Nat) (h : i < 8) : rootL (primes64.getD i 0) 2 = (init.list.getD i 0).toNat := by
  have hl : primes64.length = 64 := primes_len.1
  have hk : init.list.length = 8 := rfl
  have e := congrArg (fun l => l[i]?) roots2
  simp only [List.getElem?_map, List.getElem?_take_of_lt h, List.getElem?_eq_getElem (show i < primes64.length by omega), List.getElem?_eq_getElem (show i < init.list.length by omega), Option.map_some, Option.some.injEq] at e
  rw [List.getD_eq_getElem?_getD, List.getD_eq_getElem?_getD, List.getElem?_eq_getElem (show i < primes64.length by omega), List.getElem?_eq_getElem (show i < init.list.length by omega)]
  exact e
end Sha
end Go.Proofs.Ytnlkjhhocehhaaa

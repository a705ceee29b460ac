/- The digest, as plain functions on lists of bytes and words. No program in sight. -/
namespace Go.Proofs.Ytnlkjhhocehhaaa
namespace Sha
def shl (x : UInt32) (s : Nat) : UInt32 := UInt32.ofNat (x.toNat * 2 ^ s % 4294967296)
def shr (x : UInt32) (s : Nat) : UInt32 := UInt32.ofNat (x.toNat / 2 ^ s)
/-- A word, turned left by s places (1 to 31). -/
def rotl (x : UInt32) (s : Nat) : UInt32 := UInt32.ofNat ((x.toNat * 2 ^ s % 4294967296) ||| (x.toNat / 2 ^ (32 - s)))
def mix3 (a b c : Nat) (x : UInt32) : UInt32 := rotl x (32 - a) ^^^ rotl x (32 - b) ^^^ rotl x (32 - c)
def mix2 (a b s : Nat) (x : UInt32) : UInt32 := rotl x (32 - a) ^^^ rotl x (32 - b) ^^^ shr x s

def K : List UInt32 := [
  0x428a2f98, 0x71374491, 0xb5c0fbcf, 0xe9b5dba5, 0x3956c25b, 0x59f111f1, 0x923f82a4, 0xab1c5ed5,
  0xd807aa98, 0x12835b01, 0x243185be, 0x550c7dc3, 0x72be5d74, 0x80deb1fe, 0x9bdc06a7, 0xc19bf174,
  0xe49b69c1, 0xefbe4786, 0x0fc19dc6, 0x240ca1cc, 0x2de92c6f, 0x4a7484aa, 0x5cb0a9dc, 0x76f988da,
  0x983e5152, 0xa831c66d, 0xb00327c8, 0xbf597fc7, 0xc6e00bf3, 0xd5a79147, 0x06ca6351, 0x14292967,
  0x27b70a85, 0x2e1b2138, 0x4d2c6dfc, 0x53380d13, 0x650a7354, 0x766a0abb, 0x81c2c92e, 0x92722c85,
  0xa2bfe8a1, 0xa81a664b, 0xc24b8b70, 0xc76c51a3, 0xd192e819, 0xd6990624, 0xf40e3585, 0x106aa070,
  0x19a4c116, 0x1e376c08, 0x2748774c, 0x34b0bcb5, 0x391c0cb3, 0x4ed8aa4a, 0x5b9cca4f, 0x682e6ff3,
  0x748f82ee, 0x78a5636f, 0x84c87814, 0x8cc70208, 0x90befffa, 0xa4506ceb, 0xbef9a3f7, 0xc67178f2]

structure St where
  a : UInt32
  b : UInt32
  c : UInt32
  d : UInt32
  e : UInt32
  f : UInt32
  g : UInt32
  h : UInt32
def St.list (s : St) : List UInt32 := [s.a, s.b, s.c, s.d, s.e, s.f, s.g, s.h]
def St.zero : St := ⟨0, 0, 0, 0, 0, 0, 0, 0⟩
def init : St := ⟨0x6a09e667, 0xbb67ae85, 0x3c6ef372, 0xa54ff53a, 0x510e527f, 0x9b05688c, 0x1f83d9ab, 0x5be0cd19⟩
def St.add (s t : St) : St := ⟨s.a + t.a, s.b + t.b, s.c + t.c, s.d + t.d, s.e + t.e, s.f + t.f, s.g + t.g, s.h + t.h⟩

def word (b : List UInt8) (i : Nat) : UInt32 :=
  shl (b.getD (4 * i) 0).toUInt32 24 ||| shl (b.getD (4 * i + 1) 0).toUInt32 16 ||| shl (b.getD (4 * i + 2) 0).toUInt32 8 ||| (b.getD (4 * i + 3) 0).toUInt32
/-- The words of the rounds, the first k of a block's own laid. -/
def fillW (b : List UInt8) (k : Nat) : List UInt32 := (List.range k).map (word b) ++ List.replicate (64 - k) 0
def nextW (l : List UInt32) (i : Nat) : UInt32 := l.getD (i - 16) 0 + mix2 7 18 3 (l.getD (i - 15) 0) + l.getD (i - 7) 0 + mix2 17 19 10 (l.getD (i - 2) 0)
def schedN (l : List UInt32) : Nat → List UInt32
  | 0 => l
  | k + 1 => (schedN l k).set (16 + k) (nextW (schedN l k) (16 + k))
def sched (b : List UInt8) : List UInt32 := schedN (fillW b 16) 48

def tOf (s : St) (k w : UInt32) : UInt32 := s.h + mix3 6 11 25 s.e + ((s.e &&& s.f) ^^^ (~~~s.e &&& s.g)) + k + w
def uOf (s : St) : UInt32 := mix3 2 13 22 s.a + ((s.a &&& s.b) ^^^ (s.a &&& s.c) ^^^ (s.b &&& s.c))
def step (s : St) (k w : UInt32) : St := ⟨tOf s k w + uOf s, s.a, s.b, s.c, s.d + tOf s k w, s.e, s.f, s.g⟩
def roundsN (s : St) (W : List UInt32) : Nat → St
  | 0 => s
  | k + 1 => step (roundsN s W k) (K.getD k 0) (W.getD k 0)
def compress (s : St) (b : List UInt8) : St := s.add (roundsN s (sched b) 64)

def absorb : Nat → St → List UInt8 → St
  | 0, s, _ => s
  | n + 1, s, m => absorb n (compress s (m.take 64)) (m.drop 64)

/-- n's byte number i of eight, the highest first. -/
def be8 (n : Nat) (i : Nat) : UInt8 := UInt8.ofNat (n / 2 ^ (56 - 8 * i))
def lenBytes (n : Nat) : List UInt8 := (List.range 8).map (be8 n)
/-- How many bytes 0 stand behind the byte 128 of n bytes. -/
def zeros (n : Nat) : Nat := (119 - n % 64) % 64
def pad (m : List UInt8) : List UInt8 := m ++ 128 :: (List.replicate (zeros m.length) 0 ++ lenBytes (8 * m.length))
def outByte (s : St) (i : Nat) : UInt8 := (shr (s.list.getD (i / 4) 0) (24 - 8 * (i % 4))).toUInt8
def out (s : St) : List UInt8 := (List.range 32).map (outByte s)
def sha (m : List UInt8) : List UInt8 := out (absorb ((pad m).length / 64) init (pad m))

/-! ### Laws -/
theorem length_fillW (b : List UInt8) (k : Nat) (h : k ≤ 64) : (fillW b k).length = 64 := by simp [fillW]; omega
theorem length_schedN (l : List UInt32) (h : l.length = 64) : ∀ k, (schedN l k).length = 64
  | 0 => h
  | k + 1 => by simp [schedN, length_schedN l h k]
theorem length_out (s : St) : (out s).length = 32 := by simp [out]
theorem length_sha (m : List UInt8) : (sha m).length = 32 := length_out _
theorem length_list (s : St) : s.list.length = 8 := rfl

theorem fillW_succ (b : List UInt8) (k : Nat) (h : k < 64) : (fillW b k).set k (word b k) = fillW b (k + 1) := by
  unfold fillW
  rw [List.set_append_right _ _ (by simp), List.range_succ, List.map_append, List.append_assoc]
  congr 1
  simp only [List.length_map, List.length_range, Nat.sub_self, List.map_cons, List.map_nil, List.singleton_append]
  rw [show 64 - k = (64 - (k + 1)) + 1 by omega, List.replicate_succ, List.set_cons_zero]

theorem absorb_succ : ∀ (n : Nat) (s : St) (m : List UInt8), absorb (n + 1) s m = compress (absorb n s m) ((m.drop (64 * n)).take 64)
  | 0, s, m => by simp [absorb]
  | n + 1, s, m => by
    rw [absorb, absorb_succ n, absorb]
    simp only [List.drop_drop]
    rw [show 64 + 64 * n = 64 * (n + 1) by omega]

theorem absorb_append : ∀ (n : Nat) (s : St) (m b : List UInt8), 64 * n ≤ m.length → absorb n s (m ++ b) = absorb n s m
  | 0, _, _, _, _ => rfl
  | n + 1, s, m, b, h => by
    rw [absorb, absorb, List.take_append_of_le_length (by omega), List.drop_append_of_le_length (by omega)]
    exact absorb_append n _ _ b (by simp; omega)

theorem absorb_add : ∀ (n k : Nat) (s : St) (m : List UInt8), absorb (n + k) s m = absorb k (absorb n s m) (m.drop (64 * n))
  | 0, k, s, m => by simp [absorb]
  | n + 1, k, s, m => by
    rw [show n + 1 + k = (n + k) + 1 by omega, absorb, absorb_add n k, absorb, List.drop_drop]
    rw [show 64 + 64 * n = 64 * (n + 1) by omega]

/-- What a digest of m so far holds. -/
def wordsOf (m : List UInt8) : St := absorb (m.length / 64) init m
def restOf (m : List UInt8) : List UInt8 := m.drop (64 * (m.length / 64))
theorem length_restOf (m : List UInt8) : (restOf m).length = m.length % 64 := by simp [restOf]; omega
theorem restOf_lt (m : List UInt8) : (restOf m).length < 64 := by rw [length_restOf]; omega

/-- Bytes x onto what m left: as many blocks as are full. -/
theorem words_add (m x : List UInt8) : absorb ((restOf m ++ x).length / 64) (wordsOf m) (restOf m ++ x) = wordsOf (m ++ x) := by
  unfold wordsOf restOf
  have e : m.drop (64 * (m.length / 64)) ++ x = (m ++ x).drop (64 * (m.length / 64)) := by
    rw [List.drop_append_of_le_length (by omega)]
  rw [e, ← absorb_append (m.length / 64) init m x (by omega), ← absorb_add]
  congr 1
  simp only [List.length_drop, List.length_append]
  omega
theorem rest_add (m x : List UInt8) : (restOf m ++ x).drop (64 * ((restOf m ++ x).length / 64)) = restOf (m ++ x) := by
  unfold restOf
  have e : m.drop (64 * (m.length / 64)) ++ x = (m ++ x).drop (64 * (m.length / 64)) := by
    rw [List.drop_append_of_le_length (by omega)]
  rw [e, List.drop_drop]
  congr 1
  simp only [List.length_drop, List.length_append]
  omega
theorem wordsOf_nil : wordsOf [] = init := rfl
theorem restOf_nil : restOf [] = [] := rfl

theorem length_pad (m : List UInt8) : (pad m).length % 64 = 0 := by
  simp [pad, lenBytes, zeros]; omega
theorem sha_words (m : List UInt8) : sha m = out (wordsOf (pad m)) := rfl
end Sha
end Go.Proofs.Ytnlkjhhocehhaaa

/- SHA-256 in plain Lean: the message's words, the rounds, the blocks, the digest. No program here. -/
import Derived.Test.YtnccmcnmoccfmaaDoorU32
namespace Go.Proofs.YtnccmcnmoccfmaaDoor
set_option linter.unusedVariables false

def sg0 (x : W) : W := tr x 7 ^^^ tr x 18 ^^^ x >>> 3
def sg1 (x : W) : W := tr x 17 ^^^ tr x 19 ^^^ x >>> 10

/-- The message's words of a block. -/
def sch (bs : List UInt8) (i : Nat) : W :=
  if i < 16 then w4 (bs.getD (4 * i) 0) (bs.getD (4 * i + 1) 0) (bs.getD (4 * i + 2) 0) (bs.getD (4 * i + 3) 0)
  else sch bs (i - 16) + sg0 (sch bs (i - 15)) + sch bs (i - 7) + sg1 (sch bs (i - 2))
termination_by i
decreasing_by all_goals omega

theorem sch_lt {bs : List UInt8} {i : Nat} (h : i < 16) : sch bs i = w4 (bs.getD (4 * i) 0) (bs.getD (4 * i + 1) 0) (bs.getD (4 * i + 2) 0) (bs.getD (4 * i + 3) 0) := by
  rw [sch, if_pos h]
theorem sch_ge {bs : List UInt8} {i : Nat} (h : ¬ i < 16) : sch bs i = sch bs (i - 16) + sg0 (sch bs (i - 15)) + sch bs (i - 7) + sg1 (sch bs (i - 2)) := by
  rw [sch, if_neg h]

/-- The rounds' numbers. -/
def kts : List Nat := [0x428a2f98, 0x71374491, 0xb5c0fbcf, 0xe9b5dba5, 0x3956c25b, 0x59f111f1, 0x923f82a4, 0xab1c5ed5,
  0xd807aa98, 0x12835b01, 0x243185be, 0x550c7dc3, 0x72be5d74, 0x80deb1fe, 0x9bdc06a7, 0xc19bf174,
  0xe49b69c1, 0xefbe4786, 0x0fc19dc6, 0x240ca1cc, 0x2de92c6f, 0x4a7484aa, 0x5cb0a9dc, 0x76f988da,
  0x983e5152, 0xa831c66d, 0xb00327c8, 0xbf597fc7, 0xc6e00bf3, 0xd5a79147, 0x06ca6351, 0x14292967,
  0x27b70a85, 0x2e1b2138, 0x4d2c6dfc, 0x53380d13, 0x650a7354, 0x766a0abb, 0x81c2c92e, 0x92722c85,
  0xa2bfe8a1, 0xa81a664b, 0xc24b8b70, 0xc76c51a3, 0xd192e819, 0xd6990624, 0xf40e3585, 0x106aa070,
  0x19a4c116, 0x1e376c08, 0x2748774c, 0x34b0bcb5, 0x391c0cb3, 0x4ed8aa4a, 0x5b9cca4f, 0x682e6ff3,
  0x748f82ee, 0x78a5636f, 0x84c87814, 0x8cc70208, 0x90befffa, 0xa4506ceb, 0xbef9a3f7, 0xc67178f2]
def kt (i : Nat) : W := BitVec.ofNat 32 (kts.getD i 0)

structure St where
  (a b c d e f g h : W)
deriving DecidableEq

def St.at (s : St) : Nat → W
  | 0 => s.a | 1 => s.b | 2 => s.c | 3 => s.d | 4 => s.e | 5 => s.f | 6 => s.g | _ => s.h
def St.add (s r : St) : St := ⟨s.a + r.a, s.b + r.b, s.c + r.c, s.d + r.d, s.e + r.e, s.f + r.f, s.g + r.g, s.h + r.h⟩

def rnT (k x : W) (s : St) : W := s.h + (tr s.e 6 ^^^ tr s.e 11 ^^^ tr s.e 25) + ((s.e &&& s.f) ^^^ (~~~s.e &&& s.g)) + k + x
def rnU (s : St) : W := (tr s.a 2 ^^^ tr s.a 13 ^^^ tr s.a 22) + ((s.a &&& s.b) ^^^ (s.a &&& s.c) ^^^ (s.b &&& s.c))
/-- One round. -/
def rnd (k x : W) (s : St) : St := ⟨rnT k x s + rnU s, s.a, s.b, s.c, s.d + rnT k x s, s.e, s.f, s.g⟩
def rnds (bs : List UInt8) (s : St) : Nat → St
  | 0 => s
  | n + 1 => rnd (kt n) (sch bs n) (rnds bs s n)
/-- A block taken in. -/
def comp (s : St) (bs : List UInt8) : St := s.add (rnds bs s 64)
def st0 : St := ⟨0x6a09e667, 0xbb67ae85, 0x3c6ef372, 0xa54ff53a, 0x510e527f, 0x9b05688c, 0x1f83d9ab, 0x5be0cd19⟩

/-- The first n blocks of bytes taken in. -/
def blks (s : St) (bs : List UInt8) : Nat → St
  | 0 => s
  | n + 1 => comp (blks s bs n) ((bs.drop (64 * n)).take 64)

theorem blks_succ (s : St) (bs : List UInt8) (n : Nat) : blks s bs (n + 1) = comp (blks s bs n) ((bs.drop (64 * n)).take 64) := rfl

theorem blks_append (s : St) (a b : List UInt8) (n : Nat) (h : 64 * n ≤ a.length) : blks s (a ++ b) n = blks s a n := by
  induction n with
  | zero => rfl
  | succ n ih =>
    unfold blks
    rw [ih (by omega), List.drop_append_of_le_length (by omega), List.take_append_of_le_length (by rw [List.length_drop]; omega)]

/-- A number of bits as eight bytes, the highest first. -/
def be8 (n : Nat) : List UInt8 := (List.range 8).map fun i => UInt8.ofNat (n * 8 / 2 ^ (56 - 8 * i))
theorem be8_len (n : Nat) : (be8 n).length = 8 := by simp [be8]

/-- How many noughts stand between the bit and the length. -/
def gap (n : Nat) : Nat := (119 - n % 64) % 64
def padding (n : Nat) : List UInt8 := 0x80 :: (List.replicate (gap n) 0 ++ be8 n)
def padded (bs : List UInt8) : List UInt8 := bs ++ padding bs.length
theorem gap_mod (n : Nat) : (n + 1 + gap n) % 64 = 56 := by unfold gap; omega
theorem gap_lt (n : Nat) : gap n < 64 := by unfold gap; omega
theorem padding_len (n : Nat) : (padding n).length = gap n + 9 := by simp [padding, be8_len]
theorem padded_len (bs : List UInt8) : (padded bs).length = bs.length + gap bs.length + 9 := by simp [padded, padding_len, Nat.add_assoc]
def nblocks (n : Nat) : Nat := (n + gap n + 9) / 64
theorem nblocks_mul (n : Nat) : 64 * nblocks n = n + gap n + 9 := by unfold nblocks gap; omega

def out4 (x : W) : List UInt8 := (List.range 4).map fun j => UInt8.ofNat (x.toNat / 2 ^ (24 - 8 * j))
/-- The digest. -/
def final (bs : List UInt8) : St := blks st0 (padded bs) (nblocks bs.length)
def dig (s : St) : List UInt8 := (List.range 32).map fun i => UInt8.ofNat ((s.at (i / 4)).toNat / 2 ^ (24 - 8 * (i % 4)))
def sha (bs : List UInt8) : List UInt8 := dig (final bs)
theorem sha_len (bs : List UInt8) : (sha bs).length = 32 := by simp [sha, dig]
end Go.Proofs.YtnccmcnmoccfmaaDoor

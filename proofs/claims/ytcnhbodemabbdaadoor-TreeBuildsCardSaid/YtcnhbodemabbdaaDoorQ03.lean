/- Words of 32 bits: the model's integers and the bits they are. No program here. -/
import Derived.Laws.Bits64
import Derived.Laws.BitsLemmas
namespace Go.Proofs.YtcnhbodemabbdaaDoor

abbrev W := BitVec 32
/-- A word as the model's value. -/
abbrev wv (x : W) : Value := .int .u32 (x.toNat : Int)

theorem u32_add (x y : W) : IntKind.u32.wrap ((x.toNat : Int) + (y.toNat : Int)) = ((x + y).toNat : Int) := by
  rw [IntKind.wrap_u32, BitVec.toNat_add]; omega
theorem u32_ofInt (x : W) : BitVec.ofInt 32 (x.toNat : Int) = x := by
  rw [BitVec.ofInt_natCast]; apply BitVec.eq_of_toNat_eq; rw [BitVec.toNat_ofNat]; exact Nat.mod_eq_of_lt x.isLt
theorem u32_wrap (x : W) : IntKind.u32.wrap (x.toNat : Int) = (x.toNat : Int) := by
  have := x.isLt
  rw [IntKind.wrap_u32]; omega
theorem u32_xor (x y : W) : Go.bits .xor .u32 (x.toNat : Int) (y.toNat : Int) = ((x ^^^ y).toNat : Int) := by
  show IntKind.u32.wrap ((BitVec.ofInt 32 (x.toNat : Int) ^^^ BitVec.ofInt 32 (y.toNat : Int)).toNat : Int) = _
  rw [u32_ofInt, u32_ofInt, u32_wrap]
theorem u32_and (x y : W) : Go.bits .and .u32 (x.toNat : Int) (y.toNat : Int) = ((x &&& y).toNat : Int) := by
  show IntKind.u32.wrap ((BitVec.ofInt 32 (x.toNat : Int) &&& BitVec.ofInt 32 (y.toNat : Int)).toNat : Int) = _
  rw [u32_ofInt, u32_ofInt, u32_wrap]
theorem u32_or (x y : W) : Go.bits .or .u32 (x.toNat : Int) (y.toNat : Int) = ((x ||| y).toNat : Int) := by
  show IntKind.u32.wrap ((BitVec.ofInt 32 (x.toNat : Int) ||| BitVec.ofInt 32 (y.toNat : Int)).toNat : Int) = _
  rw [u32_ofInt, u32_ofInt, u32_wrap]
theorem u32_not (y : W) : Go.bits .xor .u32 (4294967295 : Int) (y.toNat : Int) = ((~~~y).toNat : Int) := by
  rw [show (4294967295 : Int) = (((4294967295#32).toNat : Nat) : Int) by decide, u32_xor]
  rw [show (4294967295#32 ^^^ y) = ~~~y by rw [show 4294967295#32 = BitVec.allOnes 32 by decide]; exact BitVec.allOnes_xor]
theorem u32_shl (x : W) (k : Nat) : IntKind.u32.wrap ((x.toNat : Int) * 2 ^ k) = ((x <<< k).toNat : Int) := by
  rw [IntKind.wrap_u32, BitVec.toNat_shiftLeft, Nat.shiftLeft_eq]
  rw [Int.natCast_emod, Int.natCast_mul, Int.natCast_pow]
  rfl
theorem u32_shr (x : W) (k : Nat) : (x.toNat : Int) / 2 ^ k = ((x >>> k).toNat : Int) := by
  rw [BitVec.toNat_ushiftRight, Nat.shiftRight_eq_div_pow]
  rw [Int.natCast_ediv, Int.natCast_pow]
  rfl
theorem u32_fdiv (x : W) (k : Nat) : Int.fdiv (x.toNat : Int) (2 ^ k) = ((x >>> k).toNat : Int) := by
  rw [Int.fdiv_eq_ediv_of_nonneg _ (Int.le_of_lt (Int.pow_pos (by decide))), u32_shr]
theorem u32_lt (x : W) : x.toNat < 4294967296 := x.isLt
/-- A byte as a word. -/
def wb (c : UInt8) : W := BitVec.ofNat 32 c.toNat
theorem wb_nat (c : UInt8) : (wb c).toNat = c.toNat := by
  unfold wb; rw [BitVec.toNat_ofNat]; have := c.toNat_lt; omega
/-- Four bytes as a word, the highest first. -/
def w4 (a b c d : UInt8) : W := wb a <<< 24 ||| wb b <<< 16 ||| wb c <<< 8 ||| wb d
/-- Turned to the right. -/
def tr (x : W) (k : Nat) : W := x >>> k ||| x <<< (32 - k)
theorem u32_shl' (x : W) (k : Nat) : (x.toNat : Int) * 2 ^ k % 4294967296 = ((x <<< k).toNat : Int) := by rw [← u32_shl, IntKind.wrap_u32]
theorem tr_int (x : W) (k : Nat) : Go.bits .or .u32 ((x.toNat : Int) / 2 ^ k) ((x.toNat : Int) * 2 ^ (32 - k) % 4294967296) = ((tr x k).toNat : Int) := by
  rw [u32_shr, u32_shl', u32_or]; rfl
theorem tr_int' (x : W) (j : Nat) (hj : j ≤ 32) : Go.bits .or .u32 ((x.toNat : Int) * 2 ^ j % 4294967296) ((x.toNat : Int) / 2 ^ (32 - j)) = ((tr x (32 - j)).toNat : Int) := by
  rw [u32_shr, u32_shl', u32_or, tr, BitVec.or_comm, show 32 - (32 - j) = j by omega]
theorem wb_int (c : UInt8) : (c.toNat : Int) % 4294967296 = ((wb c).toNat : Int) := by
  rw [wb_nat]; have := c.toNat_lt; omega
theorem u32_shl24 (x : W) : (x.toNat : Int) * (16777216 : Int) % (4294967296 : Int) = ((x <<< 24).toNat : Int) := by
  have := u32_shl' x 24
  rw [show ((2 : Int) ^ 24) = 16777216 by decide] at this
  exact this
theorem u32_shl16 (x : W) : (x.toNat : Int) * (65536 : Int) % (4294967296 : Int) = ((x <<< 16).toNat : Int) := by
  have := u32_shl' x 16
  rw [show ((2 : Int) ^ 16) = 65536 by decide] at this
  exact this
theorem u32_shl8 (x : W) : (x.toNat : Int) * (256 : Int) % (4294967296 : Int) = ((x <<< 8).toNat : Int) := by
  have := u32_shl' x 8
  rw [show ((2 : Int) ^ 8) = 256 by decide] at this
  exact this
theorem or_add (i a b : Nat) (hb : b < 2 ^ i) : 2 ^ i * a ||| b = 2 ^ i * a + b := (Nat.two_pow_add_eq_or_of_lt hb a).symm
theorem w4_nat (a b c d : UInt8) : (w4 a b c d).toNat = a.toNat * 16777216 + b.toNat * 65536 + c.toNat * 256 + d.toNat := by
  have ha := a.toNat_lt
  have hb := b.toNat_lt
  have hc := c.toNat_lt
  have hd := d.toNat_lt
  unfold w4
  rw [BitVec.toNat_or, BitVec.toNat_or, BitVec.toNat_or, BitVec.toNat_shiftLeft, BitVec.toNat_shiftLeft, BitVec.toNat_shiftLeft, wb_nat, wb_nat, wb_nat, wb_nat, Nat.shiftLeft_eq, Nat.shiftLeft_eq, Nat.shiftLeft_eq]
  rw [Nat.mod_eq_of_lt (show a.toNat * 2 ^ 24 < 2 ^ 32 by omega), Nat.mod_eq_of_lt (show b.toNat * 2 ^ 16 < 2 ^ 32 by omega), Nat.mod_eq_of_lt (show c.toNat * 2 ^ 8 < 2 ^ 32 by omega)]
  rw [Nat.mul_comm a.toNat, or_add 24 a.toNat _ (by omega)]
  rw [show 2 ^ 24 * a.toNat + b.toNat * 2 ^ 16 = 2 ^ 16 * (2 ^ 8 * a.toNat + b.toNat) by omega, or_add 16 _ _ (by omega)]
  rw [show 2 ^ 16 * (2 ^ 8 * a.toNat + b.toNat) + c.toNat * 2 ^ 8 = 2 ^ 8 * (2 ^ 16 * a.toNat + 2 ^ 8 * b.toNat + c.toNat) by omega, or_add 8 _ _ (by omega)]
theorem w4_add (a b c d : UInt8) : wb a <<< 24 + wb b <<< 16 + wb c <<< 8 + wb d = w4 a b c d := by
  apply BitVec.eq_of_toNat_eq
  have ha := a.toNat_lt
  have hb := b.toNat_lt
  have hc := c.toNat_lt
  have hd := d.toNat_lt
  rw [w4_nat, BitVec.toNat_add, BitVec.toNat_add, BitVec.toNat_add, BitVec.toNat_shiftLeft, BitVec.toNat_shiftLeft, BitVec.toNat_shiftLeft, wb_nat, wb_nat, wb_nat, wb_nat, Nat.shiftLeft_eq, Nat.shiftLeft_eq, Nat.shiftLeft_eq]
  omega
theorem w4_int (b0 b1 b2 b3 : UInt8) : Go.bits .or .u32 (Go.bits .or .u32 (Go.bits .or .u32 ((b0.toNat : Int) % 4294967296 * 16777216 % 4294967296) ((b1.toNat : Int) % 4294967296 * 65536 % 4294967296)) ((b2.toNat : Int) % 4294967296 * 256 % 4294967296)) ((b3.toNat : Int) % 4294967296) = ((w4 b0 b1 b2 b3).toNat : Int) := by
  rw [wb_int, wb_int, wb_int, wb_int, u32_shl24, u32_shl16, u32_shl8, u32_or, u32_or, u32_or]; rfl
end Go.Proofs.YtcnhbodemabbdaaDoor
/- SHA-256 in plain Lean: the message's words, the rounds, the blocks, the digest. No program here. -/
namespace Go.Proofs.YtcnhbodemabbdaaDoor
set_option linter.unusedVariables false

def sg0 (x : W) : W := tr x 7 ^^^ tr x 18 ^^^ x >>> 3
def sg1 (x : W) : W := tr x 17 ^^^ tr x 19 ^^^ x >>> 10

/-- The message's words of a block. -/
def sch (bs : List UInt8) (i : Nat) : W :=
  if i < 16 then w4 (bs.getD (4 * i) 0) (bs.getD (4 * i + 1) 0) (bs.getD (4 * i + 2) 0) (bs.getD (4 * i + 3) 0)
  else sch bs (i - 16) + sg0 (sch bs (i - 15)) + sch bs (i - 7) + sg1 (sch bs (i - 2))
termination_by i
decreasing_by all_goals omega

theorem sch_lt {bs : List UInt8} {i : Nat} (h : i < 16) : sch bs i = w4 (bs.getD (4 * i) 0) (bs.getD (4 * i + 1) 0) (bs.getD (4 * i + 2) 0) (bs.getD (4 * i + 3) 0) := by
  rw [sch, if_pos h]
theorem sch_ge {bs : List UInt8} {i : Nat} (h : ¬ i < 16) : sch bs i = sch bs (i - 16) + sg0 (sch bs (i - 15)) + sch bs (i - 7) + sg1 (sch bs (i - 2)) := by
  rw [sch, if_neg h]

/-- The rounds' numbers. -/
def kts : List Nat := [0x428a2f98, 0x71374491, 0xb5c0fbcf, 0xe9b5dba5, 0x3956c25b, 0x59f111f1, 0x923f82a4, 0xab1c5ed5,
  0xd807aa98, 0x12835b01, 0x243185be, 0x550c7dc3, 0x72be5d74, 0x80deb1fe, 0x9bdc06a7, 0xc19bf174,
  0xe49b69c1, 0xefbe4786, 0x0fc19dc6, 0x240ca1cc, 0x2de92c6f, 0x4a7484aa, 0x5cb0a9dc, 0x76f988da,
  0x983e5152, 0xa831c66d, 0xb00327c8, 0xbf597fc7, 0xc6e00bf3, 0xd5a79147, 0x06ca6351, 0x14292967,
  0x27b70a85, 0x2e1b2138, 0x4d2c6dfc, 0x53380d13, 0x650a7354, 0x766a0abb, 0x81c2c92e, 0x92722c85,
  0xa2bfe8a1, 0xa81a664b, 0xc24b8b70, 0xc76c51a3, 0xd192e819, 0xd6990624, 0xf40e3585, 0x106aa070,
  0x19a4c116, 0x1e376c08, 0x2748774c, 0x34b0bcb5, 0x391c0cb3, 0x4ed8aa4a, 0x5b9cca4f, 0x682e6ff3,
  0x748f82ee, 0x78a5636f, 0x84c87814, 0x8cc70208, 0x90befffa, 0xa4506ceb, 0xbef9a3f7, 0xc67178f2]
def kt (i : Nat) : W := BitVec.ofNat 32 (kts.getD i 0)

structure St where
  (a b c d e f g h : W)
deriving DecidableEq

def St.at (s : St) : Nat → W
  | 0 => s.a | 1 => s.b | 2 => s.c | 3 => s.d | 4 => s.e | 5 => s.f | 6 => s.g | _ => s.h
def St.add (s r : St) : St := ⟨s.a + r.a, s.b + r.b, s.c + r.c, s.d + r.d, s.e + r.e, s.f + r.f, s.g + r.g, s.h + r.h⟩

def rnT (k x : W) (s : St) : W := s.h + (tr s.e 6 ^^^ tr s.e 11 ^^^ tr s.e 25) + ((s.e &&& s.f) ^^^ (~~~s.e &&& s.g)) + k + x
def rnU (s : St) : W := (tr s.a 2 ^^^ tr s.a 13 ^^^ tr s.a 22) + ((s.a &&& s.b) ^^^ (s.a &&& s.c) ^^^ (s.b &&& s.c))
/-- One round. -/
def rnd (k x : W) (s : St) : St := ⟨rnT k x s + rnU s, s.a, s.b, s.c, s.d + rnT k x s, s.e, s.f, s.g⟩
def rnds (bs : List UInt8) (s : St) : Nat → St
  | 0 => s
  | n + 1 => rnd (kt n) (sch bs n) (rnds bs s n)
/-- A block taken in. -/
def comp (s : St) (bs : List UInt8) : St := s.add (rnds bs s 64)
def st0 : St := ⟨0x6a09e667, 0xbb67ae85, 0x3c6ef372, 0xa54ff53a, 0x510e527f, 0x9b05688c, 0x1f83d9ab, 0x5be0cd19⟩

/-- The first n blocks of bytes taken in. -/
def blks (s : St) (bs : List UInt8) : Nat → St
  | 0 => s
  | n + 1 => comp (blks s bs n) ((bs.drop (64 * n)).take 64)

theorem blks_succ (s : St) (bs : List UInt8) (n : Nat) : blks s bs (n + 1) = comp (blks s bs n) ((bs.drop (64 * n)).take 64) := rfl

theorem blks_append (s : St) (a b : List UInt8) (n : Nat) (h : 64 * n ≤ a.length) : blks s (a ++ b) n = blks s a n := by
  induction n with
  | zero => rfl
  | succ n ih =>
    unfold blks
    rw [ih (by omega), List.drop_append_of_le_length (by omega), List.take_append_of_le_length (by rw [List.length_drop]; omega)]

/-- A number of bits as eight bytes, the highest first. -/
def be8 (n : Nat) : List UInt8 := (List.range 8).map fun i => UInt8.ofNat (n * 8 / 2 ^ (56 - 8 * i))
theorem be8_len (n : Nat) : (be8 n).length = 8 := by simp [be8]

/-- How many noughts stand between the bit and the length. -/
def gap (n : Nat) : Nat := (119 - n % 64) % 64
def padding (n : Nat) : List UInt8 := 0x80 :: (List.replicate (gap n) 0 ++ be8 n)
def padded (bs : List UInt8) : List UInt8 := bs ++ padding bs.length
theorem gap_mod (n : Nat) : (n + 1 + gap n) % 64 = 56 := by unfold gap; omega
theorem gap_lt (n : Nat) : gap n < 64 := by unfold gap; omega
theorem padding_len (n : Nat) : (padding n).length = gap n + 9 := by simp [padding, be8_len]
theorem padded_len (bs : List UInt8) : (padded bs).length = bs.length + gap bs.length + 9 := by simp [padded, padding_len, Nat.add_assoc]
def nblocks (n : Nat) : Nat := (n + gap n + 9) / 64
theorem nblocks_mul (n : Nat) : 64 * nblocks n = n + gap n + 9 := by unfold nblocks gap; omega

def out4 (x : W) : List UInt8 := (List.range 4).map fun j => UInt8.ofNat (x.toNat / 2 ^ (24 - 8 * j))
/-- The digest. -/
def final (bs : List UInt8) : St := blks st0 (padded bs) (nblocks bs.length)
def dig (s : St) : List UInt8 := (List.range 32).map fun i => UInt8.ofNat ((s.at (i / 4)).toNat / 2 ^ (24 - 8 * (i % 4)))
def sha (bs : List UInt8) : List UInt8 := dig (final bs)
theorem sha_len (bs : List UInt8) : (sha bs).length = 32 := by simp [sha, dig]
end Go.Proofs.YtcnhbodemabbdaaDoor

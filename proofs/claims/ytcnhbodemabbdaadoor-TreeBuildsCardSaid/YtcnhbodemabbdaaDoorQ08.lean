/- FNV-1a of 64 bits in plain Lean: the step, the sum, and what the statements of layer 2 ask of them. No program here. -/
import Derived.Laws.Bits64
import Derived.Laws.BitsLemmas
namespace Go.Proofs.YtcnhbodemabbdaaDoor

/-- One byte more. -/
def step (s : BitVec 64) (c : UInt8) : BitVec 64 := (s ^^^ c.toBitVec.setWidth 64) * 1099511628211#64
def begin_ : BitVec 64 := 14695981039346656037#64
def more (s : BitVec 64) (bs : List UInt8) : BitVec 64 := bs.foldl step s
def fnv (bs : List UInt8) : BitVec 64 := more begin_ bs

theorem more_append (s : BitVec 64) (a b : List UInt8) : more s (a ++ b) = more (more s a) b := by simp [more, List.foldl_append]
theorem more_nil (s : BitVec 64) : more s [] = s := rfl
theorem more_cons (s : BitVec 64) (c : UInt8) (b : List UInt8) : more s (c :: b) = more (step s c) b := rfl
theorem more_take (s : BitVec 64) (bs : List UInt8) (k : Nat) (h : k < bs.length) : more s (bs.take (k + 1)) = step (more s (bs.take k)) bs[k] := by
  rw [List.take_succ_eq_append_getElem h, more_append]; rfl

theorem fnv_take (xs : List (List UInt8)) (k : Nat) (h : k < xs.length) : fnv (xs.take (k + 1)).flatten = more (fnv (xs.take k).flatten) xs[k] := by
  rw [List.take_succ_eq_append_getElem h, List.flatten_append, fnv, more_append]; simp [fnv]

theorem fnv_append (a b : List UInt8) : fnv (a ++ b) = more (fnv a) b := by unfold fnv; rw [more_append]

theorem prime_inv : (1099511628211#64) * (14886173955864302971#64) = 1#64 := by decide
theorem mul_prime_inj {x y : BitVec 64} (h : x * 1099511628211#64 = y * 1099511628211#64) : x = y := by
  have h2 : x * 1099511628211#64 * 14886173955864302971#64 = y * 1099511628211#64 * 14886173955864302971#64 := by rw [h]
  rw [BitVec.mul_assoc, BitVec.mul_assoc, prime_inv, BitVec.mul_one, BitVec.mul_one] at h2
  exact h2
theorem xor_cancel {w : Nat} {x y z : BitVec w} (h : x ^^^ z = y ^^^ z) : x = y := by
  have h2 : x ^^^ z ^^^ z = y ^^^ z ^^^ z := by rw [h]
  rw [BitVec.xor_assoc, BitVec.xor_assoc, BitVec.xor_self, BitVec.xor_zero, BitVec.xor_zero] at h2
  exact h2
theorem xor_cancel' {w : Nat} {x y z : BitVec w} (h : z ^^^ x = z ^^^ y) : x = y := by
  rw [BitVec.xor_comm z x, BitVec.xor_comm z y] at h; exact xor_cancel h
theorem setWidth_inj {c d : BitVec 8} (h : c.setWidth 64 = d.setWidth 64) : c = d := by
  apply BitVec.eq_of_toNat_eq
  have := congrArg BitVec.toNat h
  simp only [BitVec.toNat_setWidth] at this
  have := c.isLt; have := d.isLt
  omega
theorem step_left {x y : BitVec 64} {c : UInt8} (h : step x c = step y c) : x = y := xor_cancel (mul_prime_inj h)
theorem step_right {x : BitVec 64} {c d : UInt8} (h : step x c = step x d) : c = d := by
  have := setWidth_inj (xor_cancel' (mul_prime_inj h))
  exact UInt8.toBitVec_inj.1 this
theorem more_inj {x y : BitVec 64} (b : List UInt8) (h : more x b = more y b) : x = y := by
  induction b generalizing x y with
  | nil => exact h
  | cons c b ih => exact step_left (ih h)

/-- Turning one byte turns the sum. -/
theorem more_turned (s : BitVec 64) (p q : List UInt8) (c d : UInt8) (h : more s (p ++ c :: q) = more s (p ++ d :: q)) : c = d := by
  rw [more_append, more_append, more_cons, more_cons] at h
  exact step_right (more_inj _ h)

/-- The step on the model's integers. -/
theorem step_int (s : BitVec 64) (c : UInt8) :
    IntKind.u64.wrap (Go.bits .xor .u64 (s.toNat : Int) (IntKind.u64.wrap (c.toNat : Int)) * 1099511628211) = ((step s c).toNat : Int) := by
  have hc : c.toNat < 256 := c.toNat_lt
  have h1 : IntKind.u64.wrap (c.toNat : Int) = ((c.toNat : Nat) : Int) := by rw [IntKind.wrap_u64]; omega
  rw [h1, bits_xor_u64_nat _ _ s.isLt (by omega), IntKind.wrap_u64]
  unfold step
  rw [BitVec.toNat_mul, BitVec.toNat_xor, BitVec.toNat_setWidth]
  have h2 : c.toBitVec.toNat % 2 ^ 64 = c.toNat := by
    have : c.toBitVec.toNat = c.toNat := rfl
    omega
  rw [h2]
  have h3 : (1099511628211#64).toNat = 1099511628211 := by decide
  rw [h3]
  omega

/-- The reference's step: the same. -/
theorem ref_low (s c : Nat) (hc : c < 256) : s - s % 256 + ((s % 256) ^^^ c) = s ^^^ c := by
  have h1 : (s ^^^ c) / 2 ^ 8 = s / 2 ^ 8 := by
    rw [Nat.xor_div_two_pow]
    have : c / 2 ^ 8 = 0 := by omega
    rw [this, Nat.xor_zero]
  have h2 : (s ^^^ c) % 2 ^ 8 = (s % 2 ^ 8) ^^^ c := by
    rw [Nat.xor_mod_two_pow]
    have : c % 2 ^ 8 = c := by omega
    rw [this]
  simp only [Nat.reducePow] at h1 h2
  omega

theorem bits_xor_u8_nat (a b : Nat) (ha : a < 256) (hb : b < 256) : bits .xor .u8 (a : Int) (b : Int) = ((a ^^^ b : Nat) : Int) := by
  have h : a ^^^ b < 2 ^ 8 := Nat.xor_lt_two_pow (by omega) (by omega)
  have e : (BitVec.ofInt 8 (a : Int) ^^^ BitVec.ofInt 8 (b : Int)).toNat = a ^^^ b := by
    rw [BitVec.toNat_xor, BitVec.ofInt_natCast, BitVec.ofInt_natCast, BitVec.toNat_ofNat, BitVec.toNat_ofNat]
    have h1 : a % 2 ^ 8 = a := by omega
    have h2 : b % 2 ^ 8 = b := by omega
    rw [h1, h2]
  show IntKind.u8.wrap (((BitVec.ofInt 8 (a : Int) ^^^ BitVec.ofInt 8 (b : Int)).toNat : Nat) : Int) = _
  rw [e]
  simp only [IntKind.wrap, IntKind.bits, IntKind.signed]
  simp
  omega

theorem step_ref_int (s : BitVec 64) (c : UInt8) :
    IntKind.u64.wrap (IntKind.u64.wrap (IntKind.u64.wrap (IntKind.u64.wrap (↑s.toNat - ↑s.toNat % 256 + IntKind.u64.wrap (bits BinOp.xor IntKind.u8 (↑s.toNat % 256) ↑c.toNat)) * 1099511627776) +
      IntKind.u64.wrap (IntKind.u64.wrap (↑s.toNat - ↑s.toNat % 256 + IntKind.u64.wrap (bits BinOp.xor IntKind.u8 (↑s.toNat % 256) ↑c.toNat)) * 256)) +
      IntKind.u64.wrap (IntKind.u64.wrap (↑s.toNat - ↑s.toNat % 256 + IntKind.u64.wrap (bits BinOp.xor IntKind.u8 (↑s.toNat % 256) ↑c.toNat)) * 179)) = ((step s c).toNat : Int) := by
  have hs := s.isLt
  have hc : c.toNat < 256 := c.toNat_lt
  have e1 : bits BinOp.xor IntKind.u8 ((s.toNat : Int) % 256) (c.toNat : Int) = (((s.toNat % 256) ^^^ c.toNat : Nat) : Int) := by
    rw [show ((s.toNat : Int) % 256) = ((s.toNat % 256 : Nat) : Int) by omega]
    exact bits_xor_u8_nat _ _ (by omega) hc
  have h8 : (s.toNat % 256) ^^^ c.toNat < 2 ^ 8 := Nat.xor_lt_two_pow (by omega) (by omega)
  have e2 : (s.toNat : Int) - (s.toNat : Int) % 256 + IntKind.u64.wrap (((s.toNat % 256) ^^^ c.toNat : Nat) : Int) = ((s.toNat ^^^ c.toNat : Nat) : Int) := by
    rw [← ref_low s.toNat c.toNat hc, IntKind.wrap_u64]
    omega
  rw [e1, e2]
  have e3 : (step s c).toNat = (s.toNat ^^^ c.toNat) * 1099511628211 % 2 ^ 64 := by
    unfold step
    rw [BitVec.toNat_mul, BitVec.toNat_xor, BitVec.toNat_setWidth]
    have h2 : c.toBitVec.toNat % 2 ^ 64 = c.toNat := by
      have : c.toBitVec.toNat = c.toNat := rfl
      omega
    rw [h2]
    rfl
  rw [e3]
  simp only [IntKind.wrap_u64]
  omega

theorem alive_a : (fnv [97]) = 12638187200555641996#64 := by decide

end Go.Proofs.YtcnhbodemabbdaaDoor

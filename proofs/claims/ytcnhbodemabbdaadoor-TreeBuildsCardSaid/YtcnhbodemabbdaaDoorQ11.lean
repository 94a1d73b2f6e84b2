/- Layer 1 in plain Lean: numbers and texts as bytes, and the reader. No program here. -/
import Derived.Laws.Bits64
import Derived.Laws.BitsLemmas
import Derived.RowKit
namespace Go.Proofs.YtcnhbodemabbdaaDoor
open Go.RowKit
set_option linter.unusedVariables false

/-- A number's bytes. -/
def uintB (n : Nat) : List UInt8 := if n < 128 then [UInt8.ofNat n] else UInt8.ofNat (n % 128 + 128) :: uintB (n / 128)
termination_by n
decreasing_by omega

theorem uintB_lt {n : Nat} (h : n < 128) : uintB n = [UInt8.ofNat n] := by rw [uintB, if_pos h]
theorem uintB_ge {n : Nat} (h : ¬ n < 128) : uintB n = UInt8.ofNat (n % 128 + 128) :: uintB (n / 128) := by rw [uintB, if_neg h]
theorem uintB_pos (n : Nat) : 0 < (uintB n).length := by
  by_cases h : n < 128
  · rw [uintB_lt h]; simp
  · rw [uintB_ge h]; simp

def textB (s : List UInt8) : List UInt8 := uintB s.length ++ s

/-- An integer as a number: one below 0 as an odd one. -/
def zig (n : Int) : Nat := if 0 ≤ n then (2 * n).toNat else (2 * (-(n + 1)) + 1).toNat
def zag (m : Nat) : Int := if m % 2 = 0 then ((m / 2 : Nat) : Int) else -((m / 2 : Nat) : Int) - 1
def intB (n : Int) : List UInt8 := uintB (zig n)

theorem zag_zig (n : Int) : zag (zig n) = n := by
  unfold zag zig
  split <;> split <;> omega
theorem zig_zag (m : Nat) : zig (zag m) = m := by
  unfold zag zig
  split <;> split <;> omega
theorem zig_lt {n : Int} (h0 : -9223372036854775808 ≤ n) (h1 : n ≤ 9223372036854775807) : zig n < 18446744073709551616 := by
  unfold zig; split <;> omega
theorem zag_lo {m : Nat} (h : m < 18446744073709551616) : -9223372036854775808 ≤ zag m ∧ zag m ≤ 9223372036854775807 := by
  unfold zag; split <;> omega

/-- The reading of a number from its i-th byte on. -/
def rUF : Nat → Nat → List UInt8 → Option (Nat × List UInt8)
  | _, _, [] => none
  | i, acc, c :: r =>
    if (i = 9 ∧ 1 < c.toNat) ∨ (0 < i ∧ c.toNat = 0) then none
    else if c.toNat < 128 then some (acc + c.toNat % 128 * 128 ^ i, r) else rUF (i + 1) (acc + c.toNat % 128 * 128 ^ i) r

theorem ofNat_small {n : Nat} (h : n < 256) : (UInt8.ofNat n).toNat = n := by rw [UInt8.toNat_ofNat']; omega

theorem rUF_uintB (n : Nat) : ∀ (i acc : Nat) (r : List UInt8), n * 128 ^ i < 2 ^ 64 → i ≤ 9 → (0 < i → 0 < n) → rUF i acc (uintB n ++ r) = some (acc + n * 128 ^ i, r) := by
  induction n using Nat.strongRecOn with
  | _ n ih =>
    intro i acc r h64 hi h0
    by_cases h : n < 128
    · rw [uintB_lt h]
      simp only [List.cons_append, List.nil_append, rUF]
      rw [ofNat_small (by omega), if_neg, if_pos h, Nat.mod_eq_of_lt h]
      rintro (⟨rfl, h1⟩ | ⟨hp, hz⟩)
      · have : 2 * 128 ^ 9 ≤ n * 128 ^ 9 := Nat.mul_le_mul_right _ h1
        simp only [Nat.reducePow, Nat.reduceMul] at this h64
        omega
      · have := h0 hp
        omega
    · rw [uintB_ge h]
      simp only [List.cons_append, rUF]
      rw [ofNat_small (by omega)]
      have hi9 : i ≠ 9 := by
        rintro rfl
        have : 128 * 128 ^ 9 ≤ n * 128 ^ 9 := Nat.mul_le_mul_right _ (by omega)
        simp only [Nat.reducePow, Nat.reduceMul] at this h64
        omega
      rw [if_neg (by omega), if_neg (by omega)]
      have e : (n % 128 + 128) % 128 = n % 128 := by omega
      rw [e]
      have hn : n / 128 * 128 ^ (i + 1) + n % 128 * 128 ^ i = n * 128 ^ i := by
        rw [Nat.pow_succ, Nat.mul_comm (128 ^ i) 128, ← Nat.mul_assoc, ← Nat.add_mul]
        congr 1
        omega
      rw [ih (n / 128) (by omega) (i + 1) _ r (by omega) (by omega) (fun _ => by omega)]
      congr 2
      omega

theorem digit_fits {i n d : Nat} (hi : i ≤ 8) (h : n * 128 ^ (i + 1) < 2 ^ 64) (hd : d ≤ 127) : n * 128 ^ (i + 1) + d * 128 ^ i < 2 ^ 64 := by
  have e : 2 * 128 ^ (8 - i) * 128 ^ (i + 1) = 2 ^ 64 := by
    rw [Nat.mul_assoc, ← Nat.pow_add, show 8 - i + (i + 1) = 9 by omega]
  have hn : n < 2 * 128 ^ (8 - i) := by
    rw [← e] at h
    exact Nat.lt_of_mul_lt_mul_right h
  have h1 : (n + 1) * 128 ^ (i + 1) ≤ 2 ^ 64 := by
    rw [← e]
    exact Nat.mul_le_mul_right _ hn
  have h2 : d * 128 ^ i ≤ 127 * 128 ^ i := Nat.mul_le_mul_right _ hd
  have h3 : 0 < 128 ^ i := Nat.pow_pos (by omega)
  rw [Nat.add_mul, Nat.one_mul, Nat.pow_succ] at h1
  rw [Nat.pow_succ]
  omega

theorem rUF_back : ∀ (bs : List UInt8) (i acc m : Nat) (r : List UInt8), i ≤ 9 → rUF i acc bs = some (m, r) →
    ∃ n, m = acc + n * 128 ^ i ∧ bs = uintB n ++ r ∧ (0 < i → 0 < n) ∧ n * 128 ^ i < 2 ^ 64
  | [], i, acc, m, r, _, h => by simp [rUF] at h
  | c :: bs, i, acc, m, r, hi, h => by
    have hc : c.toNat < 256 := c.toNat_lt
    simp only [rUF] at h
    split at h
    · cases h
    rename_i h1
    have hpow : (128 : Nat) ^ i ≤ 128 ^ 9 := Nat.pow_le_pow_right (by omega) hi
    split at h
    · rename_i h2
      obtain ⟨rfl, rfl⟩ : acc + c.toNat % 128 * 128 ^ i = m ∧ bs = r := by simpa using h
      refine ⟨c.toNat, by rw [Nat.mod_eq_of_lt h2], by rw [uintB_lt h2]; simp, fun hp => by omega, ?_⟩
      by_cases h9 : i = 9
      · subst h9
        have : c.toNat * 128 ^ 9 ≤ 1 * 128 ^ 9 := Nat.mul_le_mul_right _ (by omega)
        simp only [Nat.reducePow, Nat.reduceMul] at this ⊢
        omega
      · have h8 : (128 : Nat) ^ i ≤ 128 ^ 8 := Nat.pow_le_pow_right (by omega) (by omega)
        have : c.toNat * 128 ^ i ≤ 128 * 128 ^ 8 := Nat.mul_le_mul (by omega) h8
        simp only [Nat.reducePow, Nat.reduceMul] at this ⊢
        omega
    · rename_i h2
      obtain ⟨n, hm, hb, hp, h64⟩ := rUF_back bs (i + 1) _ m r (by omega) h
      have hn0 : 0 < n := hp (by omega)
      have e128 : (128 * n + c.toNat % 128) / 128 = n := by omega
      have e1 : n * 128 ^ (i + 1) + c.toNat % 128 * 128 ^ i = (128 * n + c.toNat % 128) * 128 ^ i := by
        rw [Nat.pow_succ, Nat.add_mul, Nat.mul_comm 128 n, Nat.mul_assoc, Nat.mul_comm 128 (128 ^ i)]
      refine ⟨128 * n + c.toNat % 128, by omega, ?_, fun _ => by omega, ?_⟩
      · rw [uintB_ge (by omega), e128, hb]
        simp only [List.cons_append]
        congr 1
        apply UInt8.toNat_inj.1
        rw [ofNat_small (by omega)]
        omega
      · have hi8 : i ≤ 8 := by omega
        rw [← e1]
        exact digit_fits hi8 h64 (by omega)

/-- What a reader has: what is left, and whether something was wrong. -/
structure PR where
  b : List UInt8
  bad : Bool

def PR.fail : PR := ⟨[], true⟩
def PR.uint (r : PR) : Nat × PR := match rUF 0 0 r.b with
  | some (n, q) => (n, ⟨q, r.bad⟩)
  | none => (0, PR.fail)
def PR.int (r : PR) : Int × PR := (zag r.uint.1, r.uint.2)
def PR.in_ (r : PR) (lo hi : Int) : Int × PR :=
  if r.int.2.bad = false then (if r.int.1 < lo ∨ hi < r.int.1 then (0, PR.fail) else r.int) else (0, r.int.2)
def PR.take (r : PR) (n : Int) : List UInt8 × PR :=
  if r.bad = true ∨ n < 0 ∨ (r.b.length : Int) < n then ([], PR.fail) else (r.b.take n.toNat, ⟨r.b.drop n.toNat, r.bad⟩)
def PR.text (r : PR) (most : Int) : List UInt8 × PR :=
  if most < 0 ∨ most < (r.uint.1 : Int) then ([], PR.fail) else r.uint.2.take r.uint.1

theorem PR.uint_lt (r : PR) : r.uint.1 < 2 ^ 64 := by
  unfold PR.uint
  split
  · rename_i n q h
    obtain ⟨m, rfl, _, _, h64⟩ := rUF_back _ _ _ _ _ (by omega) h
    simpa using h64
  · simp

theorem PR.uint_of (n : Nat) (h : n < 2 ^ 64) (r : List UInt8) (b : Bool) : PR.uint ⟨uintB n ++ r, b⟩ = (n, ⟨r, b⟩) := by
  unfold PR.uint
  simp only
  rw [rUF_uintB n 0 0 r (by simpa using h) (by omega) (fun h => absurd h (by omega))]
  simp
theorem PR.int_of (n : Int) (h0 : -9223372036854775808 ≤ n) (h1 : n ≤ 9223372036854775807) (r : List UInt8) (b : Bool) : PR.int ⟨intB n ++ r, b⟩ = (n, ⟨r, b⟩) := by
  unfold PR.int intB
  rw [PR.uint_of _ (zig_lt h0 h1), zag_zig]
theorem PR.take_of (s r : List UInt8) : PR.take ⟨s ++ r, false⟩ s.length = (s, ⟨r, false⟩) := by
  unfold PR.take
  rw [if_neg]
  · simp
  · simp; omega
theorem PR.text_of (s r : List UInt8) (most : Int) (h : (s.length : Int) ≤ most) (h64 : s.length < 2 ^ 64) : PR.text ⟨textB s ++ r, false⟩ most = (s, ⟨r, false⟩) := by
  unfold PR.text textB
  rw [List.append_assoc, PR.uint_of _ h64]
  simp only
  rw [if_neg (by omega)]
  exact PR.take_of s r

/-- Nothing of a number but the whole is one. -/
theorem uint_cut (n : Nat) (h : n < 2 ^ 64) (k : Nat) (hk : k < (uintB n).length) : rUF 0 0 ((uintB n).take k) = none := by
  cases hr : rUF 0 0 ((uintB n).take k) with
  | none => rfl
  | some p =>
    obtain ⟨m, q⟩ := p
    obtain ⟨j, hm, hb, _, h64⟩ := rUF_back _ _ _ _ _ (by omega) hr
    have e1 := rUF_uintB n 0 0 [] (by simpa using h) (by omega) (fun h => absurd h (by omega))
    have e2 := rUF_uintB j 0 0 (q ++ (uintB n).drop k) h64 (by omega) (fun h => absurd h (by omega))
    rw [← List.append_assoc, ← hb, List.take_append_drop] at e2
    rw [List.append_nil] at e1
    rw [e1] at e2
    have : [] = q ++ (uintB n).drop k := by
      have := Option.some.inj e2
      exact (Prod.mk.inj this).2
    have hl := congrArg List.length this
    simp at hl
    omega

/-- How many bytes. -/
def sizeN (n : Nat) : Nat := (uintB n).length
theorem sizeN_mono {a b : Nat} (h : a ≤ b) : sizeN a ≤ sizeN b := by
  induction b using Nat.strongRecOn generalizing a with
  | _ b ih =>
    unfold sizeN
    by_cases ha : a < 128
    · rw [uintB_lt ha]
      exact uintB_pos b
    · have hb : ¬ b < 128 := by omega
      rw [uintB_ge ha, uintB_ge hb]
      simp only [List.length_cons]
      have := ih (b / 128) (by omega) (a := a / 128) (Nat.div_le_div_right h)
      unfold sizeN at this
      omega
theorem sizeN_le (k : Nat) : ∀ n, n < 128 ^ (k + 1) → sizeN n ≤ k + 1 := by
  induction k with
  | zero => intro n h; unfold sizeN; rw [uintB_lt (by simpa using h)]; simp
  | succ k ih =>
    intro n h
    unfold sizeN
    by_cases hn : n < 128
    · rw [uintB_lt hn]; simp
    · rw [uintB_ge hn]
      have := ih (n / 128) (by rw [Nat.pow_succ] at h; exact Nat.div_lt_of_lt_mul (by rw [Nat.mul_comm]; exact h))
      unfold sizeN at this
      simp only [List.length_cons]
      omega
theorem sizeN_64 {n : Nat} (h : n < 2 ^ 64) : sizeN n ≤ 10 := sizeN_le 9 n (by simp only [Nat.reducePow, Nat.reduceAdd] at *; omega)
theorem or_one (n : Nat) : n ||| 1 = 2 * (n / 2) + 1 := by
  have h := Nat.two_pow_add_eq_or_of_lt (i := 1) (b := 1) (by omega) (n / 2)
  have h1 : (n ||| 1) / 2 = n / 2 := by
    rw [show (2 : Nat) = 2 ^ 1 by rfl, Nat.or_div_two_pow]
    simp
  have h2 : (n ||| 1) % 2 = 1 := by
    rw [show (2 : Nat) = 2 ^ 1 by rfl, Nat.or_mod_two_pow]
    have : n % 2 ^ 1 = 0 ∨ n % 2 ^ 1 = 1 := by omega
    rcases this with h | h <;> rw [h] <;> rfl
  omega
theorem log2_div (n : Nat) (h : 128 ≤ n) : Nat.log2 n = Nat.log2 (n / 128) + 7 := by
  have hn : n ≠ 0 := by omega
  have hn2 : n / 128 ≠ 0 := by omega
  have h1 := (Nat.log2_eq_iff (n := n) (k := Nat.log2 (n / 128) + 7) hn).2
  apply h1
  have h2 := (Nat.log2_eq_iff (n := n / 128) (k := Nat.log2 (n / 128)) hn2).1 rfl
  rw [Nat.pow_add, show Nat.log2 (n / 128) + 7 + 1 = Nat.log2 (n / 128) + 1 + 7 by omega, Nat.pow_add _ (Nat.log2 (n / 128) + 1)]
  simp only [Nat.reducePow] at *
  omega
theorem log2_lt {n k : Nat} (hn : n ≠ 0) (h : n < 2 ^ k) : Nat.log2 n < k := (Nat.log2_lt hn).2 h
theorem sizeN_log (n : Nat) : sizeN n = (Nat.log2 (n ||| 1) + 1 + 6) / 7 := by
  induction n using Nat.strongRecOn with
  | _ n ih =>
    unfold sizeN
    by_cases h : n < 128
    · rw [uintB_lt h, or_one]
      have := log2_lt (n := 2 * (n / 2) + 1) (k := 7) (by omega) (by simp only [Nat.reducePow]; omega)
      simp only [List.length_cons, List.length_nil]
      omega
    · rw [uintB_ge h]
      have := ih (n / 128) (by omega)
      unfold sizeN at this
      simp only [List.length_cons, this]
      rw [or_one, or_one, log2_div (2 * (n / 2) + 1) (by omega)]
      have e : (2 * (n / 2) + 1) / 128 = 2 * (n / 128 / 2) + (2 * (n / 2) + 1) / 128 % 2 := by omega
      have hq : Nat.log2 ((2 * (n / 2) + 1) / 128) = Nat.log2 (2 * (n / 128 / 2) + 1) := by
        by_cases h1 : n / 128 = 1
        · have : (2 * (n / 2) + 1) / 128 = 1 := by omega
          rw [this, h1]
        · have hne : 2 * (n / 128 / 2) + 1 ≠ 0 := by omega
          have hne2 : (2 * (n / 2) + 1) / 128 ≠ 0 := by omega
          have h2 := (Nat.log2_eq_iff (n := 2 * (n / 128 / 2) + 1) (k := Nat.log2 (2 * (n / 128 / 2) + 1)) hne).1 rfl
          apply (Nat.log2_eq_iff hne2).2
          have hk : 0 < Nat.log2 (2 * (n / 128 / 2) + 1) := by
            rcases Nat.eq_zero_or_pos (Nat.log2 (2 * (n / 128 / 2) + 1)) with h0 | h0
            · rw [h0] at h2; omega
            · exact h0
          obtain ⟨k, hk⟩ : ∃ k, Nat.log2 (2 * (n / 128 / 2) + 1) = k + 1 := ⟨Nat.log2 (2 * (n / 128 / 2) + 1) - 1, by omega⟩
          rw [hk, Nat.pow_succ, Nat.pow_succ] at h2
          rw [hk, Nat.pow_succ, Nat.pow_succ]
          rw [Nat.pow_succ] at h2 ⊢
          omega
      rw [hq]
      omega

theorem bits_or_u64_nat (a b : Nat) (ha : a < 2 ^ 64) (hb : b < 2 ^ 64) : bits .or .u64 (a : Int) (b : Int) = ((a ||| b : Nat) : Int) := by
  have e : (BitVec.ofInt 64 (a : Int) ||| BitVec.ofInt 64 (b : Int)).toNat = a ||| b := by
    rw [BitVec.ofInt_natCast, BitVec.ofInt_natCast, BitVec.toNat_or, BitVec.toNat_ofNat, BitVec.toNat_ofNat, Nat.mod_eq_of_lt ha, Nat.mod_eq_of_lt hb]
  have h64 : a ||| b < 2 ^ 64 := Nat.or_lt_two_pow ha hb
  show IntKind.u64.wrap (((BitVec.ofInt 64 (a : Int) ||| BitVec.ofInt 64 (b : Int)).toNat : Nat) : Int) = _
  rw [e, IntKind.wrap_u64]
  omega
theorem bits_and127 (b : UInt8) : bits .and .u8 (b.toNat : Int) 127 = ((b.toNat % 128 : Nat) : Int) := by
  have hb := b.toNat_lt
  have e : (BitVec.ofInt 8 (b.toNat : Int) &&& BitVec.ofInt 8 127).toNat = b.toNat % 128 := by
    have e2 : BitVec.ofInt 8 127 = 127#8 := by decide
    rw [e2, BitVec.ofInt_natCast, BitVec.toNat_and, BitVec.toNat_ofNat, Nat.mod_eq_of_lt (by simpa using hb)]
    have : (127#8).toNat = 2 ^ 7 - 1 := by decide
    rw [this, Nat.and_two_pow_sub_one_eq_mod]
  show IntKind.u8.wrap (((BitVec.ofInt 8 (b.toNat : Int) &&& BitVec.ofInt 8 127).toNat : Nat) : Int) = _
  rw [e]
  simp only [IntKind.wrap, IntKind.bits, IntKind.signed]
  simp
  omega
theorem digit_or (j acc : Nat) (b : UInt8) (hj : j ≤ 9) (hacc : acc < 128 ^ j) (h9 : j = 9 → b.toNat ≤ 1) :
    bits .or .u64 (acc : Int) (IntKind.u64.wrap (IntKind.u64.wrap (bits .and .u8 (b.toNat : Int) 127) * 2 ^ (7 * j))) = ((acc + b.toNat % 128 * 128 ^ j : Nat) : Int) := by
  have e1 : (128 : Nat) ^ j = 2 ^ (7 * j) := by rw [Nat.pow_mul]
  have hd : b.toNat % 128 * 128 ^ j < 2 ^ 64 := by
    by_cases h : j = 9
    · have hb1 := h9 h
      have : b.toNat % 128 * 128 ^ j ≤ 1 * 128 ^ 9 := by rw [h]; exact Nat.mul_le_mul_right _ (by omega)
      simp only [Nat.reducePow, Nat.reduceMul] at this ⊢
      omega
    · have hp : (128 : Nat) ^ j ≤ 128 ^ 8 := Nat.pow_le_pow_right (by omega) (by omega)
      have : b.toNat % 128 * 128 ^ j ≤ 127 * 128 ^ 8 := Nat.mul_le_mul (by omega) hp
      simp only [Nat.reducePow, Nat.reduceMul] at this ⊢
      omega
  have ha : acc < 2 ^ 64 := by
    have hp : (128 : Nat) ^ j ≤ 128 ^ 9 := Nat.pow_le_pow_right (by omega) hj
    simp only [Nat.reducePow] at hp ⊢
    omega
  have e2 : IntKind.u64.wrap (IntKind.u64.wrap (bits .and .u8 (b.toNat : Int) 127) * 2 ^ (7 * j)) = ((b.toNat % 128 * 128 ^ j : Nat) : Int) := by
    rw [bits_and127]
    have h1 : IntKind.u64.wrap ((b.toNat % 128 : Nat) : Int) = ((b.toNat % 128 : Nat) : Int) := by rw [IntKind.wrap_u64]; omega
    have h2 : ((2 : Int) ^ (7 * j)) = ((128 ^ j : Nat) : Int) := by rw [e1]; simp
    rw [h1, h2, ← Int.natCast_mul, IntKind.wrap_u64]
    omega
  rw [e2, bits_or_u64_nat _ _ ha hd]
  have h3 := Nat.two_pow_add_eq_or_of_lt (i := 7 * j) (b := acc) (by rw [← e1]; exact hacc) (b.toNat % 128)
  rw [← e1, Nat.mul_comm] at h3
  rw [Nat.or_comm, ← h3, Nat.add_comm]

theorem bits_and1 (m : Nat) (hm : m < 2 ^ 64) : bits .and .u64 (m : Int) 1 = ((m % 2 : Nat) : Int) := by
  have e : (BitVec.ofInt 64 (m : Int) &&& BitVec.ofInt 64 1).toNat = m % 2 := by
    have e2 : BitVec.ofInt 64 1 = 1#64 := by decide
    rw [e2, BitVec.ofInt_natCast, BitVec.toNat_and, BitVec.toNat_ofNat, Nat.mod_eq_of_lt hm]
    have : (1#64).toNat = 2 ^ 1 - 1 := by decide
    rw [this, Nat.and_two_pow_sub_one_eq_mod]
  show IntKind.u64.wrap (((BitVec.ofInt 64 (m : Int) &&& BitVec.ofInt 64 1).toNat : Nat) : Int) = _
  rw [e, IntKind.wrap_u64]
  omega
theorem wrap_i64 (n : Int) : IntKind.i64.wrap n = wrap64 n := by
  unfold wrap64
  simp only [IntKind.wrap, IntKind.bits, IntKind.signed]
  simp
  split <;> omega
theorem zag_int (m : Nat) (hm : m < 2 ^ 64) : bits .xor .i64 (wrap64 ((m : Int) / 2)) (wrap64 (-wrap64 (bits .and .u64 (m : Int) 1))) = zag m := by
  rw [bits_and1 m hm]
  have e1 : wrap64 ((m : Int) / 2) = ((m / 2 : Nat) : Int) := by unfold wrap64; omega
  rw [e1]
  unfold zag
  by_cases h : m % 2 = 0
  · rw [if_pos h, h]
    have e2 : wrap64 (-wrap64 ((0 : Nat) : Int)) = 0 := by decide +kernel
    rw [e2]
    show IntKind.i64.wrap (((BitVec.ofInt 64 ((m / 2 : Nat) : Int) ^^^ BitVec.ofInt 64 0).toNat : Nat) : Int) = _
    have e3 : BitVec.ofInt 64 0 = 0#64 := by decide
    rw [e3, BitVec.xor_zero, BitVec.ofInt_natCast, BitVec.toNat_ofNat, wrap_i64]
    unfold wrap64
    omega
  · rw [if_neg h, show m % 2 = 1 by omega]
    have e2 : wrap64 (-wrap64 ((1 : Nat) : Int)) = -1 := by decide +kernel
    rw [e2]
    show IntKind.i64.wrap (((BitVec.ofInt 64 ((m / 2 : Nat) : Int) ^^^ BitVec.ofInt 64 (-1)).toNat : Nat) : Int) = _
    have e3 : BitVec.ofInt 64 (-1) = BitVec.allOnes 64 := by decide
    rw [e3, BitVec.xor_allOnes, BitVec.ofInt_natCast, BitVec.toNat_not, BitVec.toNat_ofNat, wrap_i64]
    unfold wrap64
    omega

/-- Digits, the lowest first. -/
def valL : List UInt8 → Nat
  | [] => 0
  | d :: ds => d.toNat % 128 + 128 * valL ds

theorem rUF_none (pre : List UInt8) : ∀ i acc, (∀ c ∈ pre, 128 ≤ c.toNat) → rUF i acc pre = none := by
  induction pre with
  | nil => intro i acc _; rfl
  | cons c pre ih =>
    intro i acc h
    have hc := h c (List.mem_cons_self ..)
    simp only [rUF]
    split
    · rfl
    · rw [if_neg (by omega)]
      exact ih _ _ fun x hx => h x (List.mem_cons_of_mem _ hx)

theorem rUF_lead (pre : List UInt8) (c : UInt8) (rest : List UInt8) (hc : c.toNat < 128) : ∀ i acc, i ≤ 9 → (∀ x ∈ pre, 128 ≤ x.toNat) →
    rUF i acc (pre ++ c :: rest) = if 9 < i + pre.length ∨ (i + pre.length = 9 ∧ 1 < c.toNat) ∨ (0 < i + pre.length ∧ c.toNat = 0) then none else some (acc + valL (pre ++ [c]) * 128 ^ i, rest) := by
  induction pre with
  | nil =>
    intro i acc hi _
    simp only [List.nil_append, rUF, List.length_nil, Nat.add_zero, valL, Nat.mul_zero]
    by_cases h : (i = 9 ∧ 1 < c.toNat) ∨ (0 < i ∧ c.toNat = 0)
    · rw [if_pos h, if_pos (.inr h)]
    · rw [if_neg h, if_pos hc, if_neg]
      rintro (h1 | h1)
      · omega
      · exact h h1
  | cons p pre ih =>
    intro i acc hi hp
    have hp0 := hp p (List.mem_cons_self ..)
    simp only [List.cons_append, rUF, List.length_cons]
    by_cases h9 : i = 9
    · rw [if_pos (.inl ⟨h9, by omega⟩), if_pos (.inl (by omega))]
    · rw [if_neg (by omega), if_neg (by omega), ih (i + 1) _ (by omega) (fun x hx => hp x (List.mem_cons_of_mem _ hx))]
      have e : i + 1 + pre.length = i + (pre.length + 1) := by omega
      rw [e]
      split
      · rfl
      · congr 2
        simp only [valL]
        rw [Nat.pow_succ, Nat.add_mul, Nat.add_assoc]
        congr 2
        rw [Nat.mul_comm (128 ^ i) 128, ← Nat.mul_assoc, Nat.mul_comm 128 (valL _)]

theorem valL_lt (ds : List UInt8) : valL ds < 128 ^ ds.length := by
  induction ds with
  | nil => simp [valL]
  | cons d ds ih =>
    simp only [valL, List.length_cons]
    rw [Nat.pow_succ]
    omega
theorem valL_lt2 (ds : List UInt8) (c : UInt8) (hc : c.toNat ≤ 1) : valL (ds ++ [c]) < 2 * 128 ^ ds.length := by
  induction ds with
  | nil => simp [valL]; omega
  | cons d ds ih =>
    simp only [valL, List.length_cons, List.cons_append]
    rw [Nat.pow_succ]
    omega
/-- What the reference's reading comes to. -/
theorem uint_lead (r : PR) (e : Nat) (he : e < r.b.length) (hpre : ∀ i (h : i < e), 128 ≤ (r.b[i]'(by omega)).toNat) (hc : (r.b[e]).toNat < 128) :
    r.uint = if 9 < e ∨ (e = 9 ∧ 1 < (r.b[e]).toNat) ∨ (0 < e ∧ (r.b[e]).toNat = 0) then (0, PR.fail) else (valL (r.b.take (e + 1)), ⟨r.b.drop (e + 1), r.bad⟩) := by
  have hb : r.b = r.b.take e ++ r.b[e] :: r.b.drop (e + 1) := by rw [← List.drop_eq_getElem_cons he, List.take_append_drop]
  have hl : (r.b.take e).length = e := by rw [List.length_take]; omega
  have h := rUF_lead (r.b.take e) r.b[e] (r.b.drop (e + 1)) hc 0 0 (by omega) (fun x hx => by
    obtain ⟨i, hi, rfl⟩ := List.mem_iff_getElem.1 hx
    rw [List.getElem_take]
    exact hpre i (by omega))
  rw [← hb, hl, Nat.zero_add] at h
  unfold PR.uint
  rw [h]
  by_cases hbad : 9 < e ∨ (e = 9 ∧ 1 < (r.b[e]).toNat) ∨ (0 < e ∧ (r.b[e]).toNat = 0)
  · rw [if_pos hbad, if_pos hbad]
  · rw [if_neg hbad, if_neg hbad]
    simp only [Nat.pow_zero, Nat.mul_one, Nat.zero_add]
    rw [List.take_succ_eq_append_getElem he]
theorem uint_none (r : PR) (hpre : ∀ i (h : i < r.b.length), 128 ≤ (r.b[i]).toNat) : r.uint = (0, PR.fail) := by
  have h := rUF_none r.b 0 0 (fun x hx => by
    obtain ⟨i, hi, rfl⟩ := List.mem_iff_getElem.1 hx
    exact hpre i hi)
  unfold PR.uint
  rw [h]
theorem digits_lt (bs : List UInt8) (e i : Nat) (he : e < bs.length) (h9 : e ≤ 9) (ht : e = 9 → (bs[e]).toNat ≤ 1) : valL ((bs.take (e + 1)).drop i) < 2 ^ 64 := by
  rcases Nat.lt_or_ge e i with h | h
  · rw [List.drop_of_length_le (by rw [List.length_take]; omega)]
    simp [valL]
  · by_cases h9' : e = 9
    · have hc := ht h9'
      rw [List.take_succ_eq_append_getElem he, List.drop_append_of_le_length (by rw [List.length_take]; omega)]
      have := valL_lt2 ((bs.take e).drop i) bs[e] hc
      have hl : ((bs.take e).drop i).length ≤ 9 := by rw [List.length_drop, List.length_take]; omega
      have hp : 128 ^ ((bs.take e).drop i).length ≤ 128 ^ 9 := Nat.pow_le_pow_right (by omega) hl
      simp only [Nat.reducePow] at hp ⊢
      omega
    · have := valL_lt ((bs.take (e + 1)).drop i)
      have hl : ((bs.take (e + 1)).drop i).length ≤ 9 := by rw [List.length_drop, List.length_take]; omega
      have hp : 128 ^ ((bs.take (e + 1)).drop i).length ≤ 128 ^ 9 := Nat.pow_le_pow_right (by omega) hl
      simp only [Nat.reducePow] at hp ⊢
      omega

/-- Behind a fault nothing is left. -/
def PR.Ok (r : PR) : Prop := r.bad = true → r.b = []
theorem PR.Ok.eq {r : PR} (h : r.Ok) (hb : r.bad = true) : r = PR.fail := by
  have := h hb
  cases r
  simp only at *
  subst this; subst hb
  rfl
theorem PR.ok_fail : PR.fail.Ok := fun _ => rfl
theorem PR.Ok.uint {r : PR} (h : r.Ok) : r.uint.2.Ok := by
  unfold PR.uint
  split
  · rename_i n q hq
    intro hb
    have := h hb
    rw [this] at hq
    simp [rUF] at hq
  · exact PR.ok_fail
theorem PR.Ok.int {r : PR} (h : r.Ok) : r.int.2.Ok := h.uint
theorem PR.Ok.in_ {r : PR} (h : r.Ok) (lo hi : Int) : (r.in_ lo hi).2.Ok := by
  unfold PR.in_
  split
  · split
    · exact PR.ok_fail
    · exact h.int
  · exact h.int
theorem PR.Ok.take {r : PR} (h : r.Ok) (n : Int) : (r.take n).2.Ok := by
  unfold PR.take
  split
  · exact PR.ok_fail
  · rename_i hn
    intro hb
    exact absurd (.inl hb) hn
theorem PR.Ok.text {r : PR} (h : r.Ok) (most : Int) : (r.text most).2.Ok := by
  unfold PR.text
  split
  · exact PR.ok_fail
  · exact h.uint.take _
theorem PR.text_bad {r : PR} (most : Int) (hb : r.uint.2.bad = true) : r.text most = ([], PR.fail) := by
  unfold PR.text
  split
  · rfl
  · unfold PR.take
    rw [if_pos (.inl hb)]
theorem PR.in_bad {r : PR} (h : r.Ok) (lo hi : Int) (hb : r.int.2.bad = true) : r.in_ lo hi = (0, PR.fail) := by
  unfold PR.in_
  rw [if_neg (by rw [hb]; simp), h.int.eq hb]
end Go.Proofs.YtcnhbodemabbdaaDoor

/- Layer 4 in plain Lean: the check (CRC-32C), a record's bytes, and how bytes are split into records. No program here. -/
import Derived.Test.YtnggdkpaofbaaaaU32
import Derived.Test.YtnggdkpaofbaaaaCodePure
namespace Go.Proofs.Ytnggdkpaofbaaaa
set_option linter.unusedVariables false

def poly : W := 0x82f63b78#32
/-- One bit further. -/
def cstep (x : W) : W := x >>> 1 ^^^ (if x.getLsbD 0 then poly else 0)
def csteps (x : W) : Nat → W
  | 0 => x
  | k + 1 => cstep (csteps x k)
/-- One byte more. -/
def cbyte (s : W) (c : UInt8) : W := csteps (s ^^^ wb c) 8
def crcFrom (s : W) (bs : List UInt8) : W := bs.foldl cbyte s
/-- The check of bytes. -/
def crc (bs : List UInt8) : W := ~~~crcFrom (BitVec.allOnes 32) bs
theorem crcFrom_take (s : W) (bs : List UInt8) (k : Nat) (h : k < bs.length) : crcFrom s (bs.take (k + 1)) = cbyte (crcFrom s (bs.take k)) bs[k] := by
  rw [List.take_succ_eq_append_getElem h, crcFrom, crcFrom, List.foldl_append]; rfl

/-- Bit by bit: the bits of a byte come in one by one. -/
def bstep (s : W) (b : Bool) : W := s >>> 1 ^^^ (if s.getLsbD 0 != b then poly else 0)
def bsteps (s : W) (c : UInt8) : Nat → W
  | 0 => s
  | k + 1 => bstep (bsteps s c k) ((wb c).getLsbD k)

theorem bit_split (x y : W) : cstep (x ^^^ y) = bstep x (y.getLsbD 0) ^^^ y >>> 1 := by
  unfold cstep bstep
  have h : (x ^^^ y) >>> 1 = x >>> 1 ^^^ y >>> 1 := BitVec.ushiftRight_xor_distrib x y 1
  rw [h, BitVec.getLsbD_xor]
  have e : (x.getLsbD 0 ^^ y.getLsbD 0) = (x.getLsbD 0 != y.getLsbD 0) := by cases x.getLsbD 0 <;> cases y.getLsbD 0 <;> rfl
  rw [e, BitVec.xor_assoc, BitVec.xor_assoc, BitVec.xor_comm (y >>> 1)]
theorem steps_bits (s : W) (c : UInt8) (k : Nat) : csteps (s ^^^ wb c) k = bsteps s c k ^^^ wb c >>> k := by
  induction k with
  | zero => simp [csteps, bsteps]
  | succ k ih =>
    rw [csteps, ih, bit_split, bsteps, BitVec.getLsbD_ushiftRight, Nat.add_zero, ← BitVec.shiftRight_add]
theorem cbyte_bits (s : W) (c : UInt8) : cbyte s c = bsteps s c 8 := by
  rw [cbyte, steps_bits]
  have h : wb c >>> 8 = 0#32 := by
    apply BitVec.eq_of_toNat_eq
    rw [BitVec.toNat_ushiftRight, wb_nat, Nat.shiftRight_eq_div_pow]
    have := c.toNat_lt
    simp
    omega
  rw [h, BitVec.xor_zero]

/-- Four bytes, the lowest first. -/
def le4 (x : W) : List UInt8 := [UInt8.ofNat x.toNat, UInt8.ofNat (x.toNat / 256), UInt8.ofNat (x.toNat / 65536), UInt8.ofNat (x.toNat / 16777216)]
/-- A record's bytes. -/
def fr (s : List UInt8) : List UInt8 := textB s ++ le4 (crc (textB s))
theorem fr_len (s : List UInt8) : (fr s).length = (textB s).length + 4 := by simp [fr, le4]
theorem textB_len (s : List UInt8) : (textB s).length = sizeN s.length + s.length := by simp [textB, sizeN]
theorem fr_pos (s : List UInt8) : 5 ≤ (fr s).length := by
  rw [fr_len, textB_len]
  have := uintB_pos s.length
  unfold sizeN
  omega

/-- A text that is read is just its bytes. -/
theorem text_back {b x : List UInt8} {most : Int} {r : PR} (h : PR.text ⟨b, false⟩ most = (x, r)) (hg : r.bad = false) : b = textB x ++ r.b ∧ x.length < 2 ^ 64 := by
  unfold PR.text PR.uint at h
  cases hu : rUF 0 0 b with
  | none =>
    simp only [hu] at h
    split at h
    · cases h; cases hg
    · simp [PR.take, PR.fail] at h
      rw [← h.2] at hg
      cases hg
  | some q =>
    obtain ⟨m, t⟩ := q
    obtain ⟨n, hm, hb, _, hlt⟩ := rUF_back b 0 0 m t (by omega) hu
    simp only [Nat.pow_zero, Nat.mul_one, Nat.zero_add] at hm hlt
    subst hm
    simp only [hu] at h
    split at h
    · cases h; cases hg
    · unfold PR.take at h
      split at h
      · cases h; cases hg
      · rename_i h1
        simp only [not_or, Int.not_lt, Bool.not_eq_true] at h1
        have hl : m ≤ t.length := by omega
        cases h
        simp only [Int.toNat_natCast]
        refine ⟨?_, by rw [List.length_take]; omega⟩
        rw [textB, List.length_take, Nat.min_eq_left hl, hb, List.append_assoc, List.take_append_drop]

/-- The record that bytes begin with, and how many bytes it takes. -/
def nextB (b : List UInt8) : Option (List UInt8 × Nat) :=
  if (PR.text ⟨b, false⟩ b.length).2.bad = false ∧ (fr (PR.text ⟨b, false⟩ b.length).1).isPrefixOf b = true then some ((PR.text ⟨b, false⟩ b.length).1, (fr (PR.text ⟨b, false⟩ b.length).1).length) else none

theorem nextB_fr (s rest : List UInt8) (h : s.length < 2 ^ 64) : nextB (fr s ++ rest) = some (s, (fr s).length) := by
  have ht : PR.text ⟨fr s ++ rest, false⟩ ((fr s ++ rest).length : Nat) = (s, ⟨le4 (crc (textB s)) ++ rest, false⟩) := by
    rw [show fr s ++ rest = textB s ++ (le4 (crc (textB s)) ++ rest) by rw [fr, List.append_assoc]]
    exact PR.text_of s _ _ (by rw [List.length_append, textB_len]; omega) h
  unfold nextB
  rw [ht]
  simp

theorem nextB_some {b x : List UInt8} {n : Nat} (h : nextB b = some (x, n)) : b = fr x ++ b.drop n ∧ n = (fr x).length ∧ x.length < 2 ^ 64 := by
  unfold nextB at h
  split at h
  · rename_i hc
    obtain ⟨h1, h2⟩ := hc
    have h3 := Option.some.inj h
    have hx : (PR.text ⟨b, false⟩ b.length).1 = x := congrArg Prod.fst h3
    have hn : (fr (PR.text ⟨b, false⟩ b.length).1).length = n := congrArg Prod.snd h3
    rw [hx] at h2 hn
    obtain ⟨t, ht⟩ := List.isPrefixOf_iff_prefix.1 h2
    have hb := text_back (Prod.ext hx rfl) h1
    refine ⟨?_, hn.symm, hb.2⟩
    rw [← ht, ← hn, List.drop_left]
  · cases h

theorem nextB_pos {b x : List UInt8} {n : Nat} (h : nextB b = some (x, n)) : 5 ≤ n ∧ n ≤ b.length := by
  obtain ⟨h1, h2, _⟩ := nextB_some h
  have := fr_pos x
  have h3 := congrArg List.length h1
  rw [List.length_append] at h3
  omega

/-- The records of bytes, and what is left. -/
def splitB (b : List UInt8) : List (List UInt8) × List UInt8 :=
  match h : nextB b with
  | none => ([], b)
  | some (x, n) => (x :: (splitB (b.drop n)).1, (splitB (b.drop n)).2)
termination_by b.length
decreasing_by all_goals (have := nextB_pos h; simp only [List.length_drop]; omega)

theorem splitB_none {b : List UInt8} (h : nextB b = none) : splitB b = ([], b) := by
  rw [splitB]; split
  · rfl
  · rename_i h2; rw [h] at h2; cases h2
theorem splitB_some {b x : List UInt8} {n : Nat} (h : nextB b = some (x, n)) : splitB b = (x :: (splitB (b.drop n)).1, (splitB (b.drop n)).2) := by
  rw [splitB]; split
  · rename_i h2; rw [h] at h2; cases h2
  · rename_i y m h2
    rw [h] at h2
    cases h2
    rfl
theorem splitB_fr (s rest : List UInt8) (h : s.length < 2 ^ 64) : splitB (fr s ++ rest) = (s :: (splitB rest).1, (splitB rest).2) := by
  rw [splitB_some (nextB_fr s rest h), List.drop_left]

/-- Records put one behind the other. -/
def frs (xs : List (List UInt8)) : List UInt8 := xs.flatMap fr
theorem splitB_frs (xs : List (List UInt8)) (h : ∀ x ∈ xs, x.length < 2 ^ 64) (rest : List UInt8) : splitB (frs xs ++ rest) = (xs ++ (splitB rest).1, (splitB rest).2) := by
  induction xs with
  | nil => rfl
  | cons x xs ih =>
    rw [frs, List.flatMap_cons, List.append_assoc, splitB_fr x _ (h x (by simp))]
    have := ih fun y hy => h y (by simp [hy])
    rw [frs] at this
    rw [this]
    rfl
theorem nextB_nil : nextB [] = none := by
  cases h : nextB [] with
  | none => rfl
  | some p => have := nextB_pos (b := []) (x := p.1) (n := p.2) h; simp at this; omega
/-- A record that is cut is none. -/
theorem nextB_cut (s : List UInt8) (h : s.length < 2 ^ 64) (k : Nat) (hk : k < (fr s).length) : nextB ((fr s).take k) = none := by
  cases hn : nextB ((fr s).take k) with
  | none => rfl
  | some p =>
    obtain ⟨x, n⟩ := p
    obtain ⟨h1, h2, h3⟩ := nextB_some hn
    have h4 := nextB_pos hn
    have h5 := nextB_fr s [] h
    rw [List.append_nil] at h5
    have h6 : fr s = fr x ++ (((fr s).take k).drop n ++ (fr s).drop k) := by rw [← List.append_assoc, ← h1, List.take_append_drop]
    have h7 := nextB_fr x (((fr s).take k).drop n ++ (fr s).drop k) h3
    rw [← h6, h5] at h7
    have h8 := Option.some.inj h7
    have h9 : s = x := congrArg Prod.fst h8
    rw [← h9] at h2
    rw [List.length_take] at h4
    omega
end Go.Proofs.Ytnggdkpaofbaaaa

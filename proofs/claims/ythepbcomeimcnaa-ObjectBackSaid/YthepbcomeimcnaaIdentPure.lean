/- Layer 14 in plain Lean: names, their kinds' sizes, their texts. -/
import Derived.Test.YthepbcomeimcnaaBase
namespace Go.Proofs.Ythepbcomeimcnaa
set_option linter.unusedVariables false

/-- How many bytes a kind's sums have. -/
def idN (k : UInt8) : Nat := if k = 1 then 8 else if k = 2 then 32 else 0
theorem idN_le (k : UInt8) : idN k ≤ 32 := by unfold idN; split <;> (try split) <;> omega
theorem idN_one : idN 1 = 8 := rfl
theorem idN_two : idN 2 = 32 := rfl
theorem idN_other {k : UInt8} (h1 : k ≠ 1) (h2 : k ≠ 2) : idN k = 0 := by unfold idN; rw [if_neg h1, if_neg h2]
/-- A name as 33 bytes: its kind, its sum. -/
def idKind (b : List UInt8) : UInt8 := b.getD 0 0
def idGood (b : List UInt8) : Bool := decide (0 < idN (idKind b)) && (b.drop (1 + idN (idKind b))).all (· == 0)
def idText (b : List UInt8) : List UInt8 := if idGood b then b.take (1 + idN (idKind b)) else []
def idPad (s : List UInt8) : List UInt8 := s ++ List.replicate (33 - s.length) 0
def idCan (s : List UInt8) : Bool := decide (0 < idN (idKind s)) && decide (s.length = 1 + idN (idKind s))
def idNone : List UInt8 := List.replicate 33 0
theorem idPad_len {s : List UInt8} (h : s.length ≤ 33) : (idPad s).length = 33 := by unfold idPad; rw [List.length_append, List.length_replicate]; omega
theorem idPad_nil : idPad [] = idNone := rfl
theorem idText_len {b : List UInt8} (h : b.length = 33) : (idText b).length ≤ 33 := by
  unfold idText
  split
  · rw [List.length_take]; omega
  · simp
/-- A name that can be is its text, and noughts. -/
theorem idPad_text {b : List UInt8} (h : b.length = 33) (hg : idGood b = true) : idPad (idText b) = b := by
  unfold idText
  rw [if_pos hg]
  unfold idGood at hg
  rw [Bool.and_eq_true] at hg
  obtain ⟨_, hz⟩ := hg
  have hl := idN_le (idKind b)
  unfold idPad
  rw [List.length_take, h, Nat.min_eq_left (by omega)]
  conv => rhs; rw [← List.take_append_drop (1 + idN (idKind b)) b]
  congr 1
  apply List.ext_getElem
  · rw [List.length_replicate, List.length_drop, h]
  · intro i h1 h2
    rw [List.getElem_replicate]
    have := List.all_eq_true.1 hz _ (List.getElem_mem h2)
    simpa using (beq_iff_eq.1 this).symm
theorem idText_can {b : List UInt8} (h : b.length = 33) (hg : idGood b = true) : idCan (idText b) = true := by
  have hg' := hg
  unfold idGood at hg'
  rw [Bool.and_eq_true, decide_eq_true_eq] at hg'
  have hl := idN_le (idKind b)
  have hk : idKind (idText b) = idKind b := by
    unfold idText
    rw [if_pos hg]
    unfold idKind
    rw [List.getD_eq_getElem?_getD, List.getD_eq_getElem?_getD, List.getElem?_take, if_pos (by omega)]
  unfold idCan
  rw [hk]
  have : (idText b).length = 1 + idN (idKind b) := by
    unfold idText
    rw [if_pos hg, List.length_take]; omega
  rw [this]
  simp [hg'.1]
theorem idCan_kind {s : List UInt8} (h : idCan s = true) : 0 < idN (idKind s) ∧ s.length = 1 + idN (idKind s) := by
  unfold idCan at h
  rwa [Bool.and_eq_true, decide_eq_true_eq, decide_eq_true_eq] at h
theorem idCan_le {s : List UInt8} (h : idCan s = true) : s.length ≤ 33 := by
  have := (idCan_kind h).2
  have := idN_le (idKind s)
  omega
/-- A text that can be is its name's. -/
theorem idCan_pad {s : List UInt8} (h : idCan s = true) : idGood (idPad s) = true ∧ idText (idPad s) = s := by
  obtain ⟨h1, h2⟩ := idCan_kind h
  have hk : idKind (idPad s) = idKind s := by
    unfold idKind idPad
    rw [List.getD_eq_getElem?_getD, List.getD_eq_getElem?_getD, List.getElem?_append_left (by omega)]
  have hg : idGood (idPad s) = true := by
    unfold idGood
    rw [hk, Bool.and_eq_true, decide_eq_true_eq]
    refine ⟨h1, ?_⟩
    unfold idPad
    rw [← h2, List.drop_left, List.all_eq_true]
    intro x hx
    rw [List.eq_of_mem_replicate hx]
    rfl
  refine ⟨hg, ?_⟩
  unfold idText
  rw [if_pos hg, hk, ← h2]
  unfold idPad
  rw [List.take_left]
end Go.Proofs.Ythepbcomeimcnaa

/- The digest, taken in piece by piece: what the buffer holds. No program here. -/
import Derived.Test.YtcnhbodemabbdaaDoorQ03
namespace Go.Proofs.YtcnhbodemabbdaaDoor
set_option linter.unusedVariables false

/-- The buffer holds what is left of the bytes behind their whole blocks. -/
def Left (all B : List UInt8) : Prop := B.length = 64 ∧ B.take (all.length % 64) = all.drop (64 * (all.length / 64))
/-- The state behind the whole blocks. -/
def whole (all : List UInt8) : St := blks st0 all (all.length / 64)

theorem left_nil (B : List UInt8) (h : B.length = 64) : Left [] B := ⟨h, by simp⟩

theorem left_more {all B : List UInt8} (h : Left all B) (ys : List UInt8) (m : Nat) (hm : m = ys.length) (hl : all.length % 64 + m < 64) :
    Left (all ++ ys) (B.take (all.length % 64) ++ ys.take m ++ B.drop (all.length % 64 + m)) ∧ whole (all ++ ys) = whole all ∧ (all ++ ys).length % 64 = all.length % 64 + m := by
  obtain ⟨h1, h2⟩ := h
  have e : (all ++ ys).length = all.length + m := by rw [List.length_append, hm]
  have e1 : (all ++ ys).length % 64 = all.length % 64 + m := by rw [e]; omega
  have e2 : (all ++ ys).length / 64 = all.length / 64 := by rw [e]; omega
  refine ⟨⟨?_, ?_⟩, ?_, e1⟩
  · simp only [List.length_append, List.length_take, List.length_drop, h1]; omega
  · rw [e1, e2]
    subst hm
    rw [List.take_length, List.take_append_of_le_length (by simp [h1]; omega), List.take_of_length_le (by simp [h1]; omega), h2, List.drop_append_of_le_length (by omega)]
  · unfold whole
    rw [e2, blks_append _ _ _ _ (by omega)]

theorem left_full {all B : List UInt8} (h : Left all B) (ys : List UInt8) (m : Nat) (hm : m ≤ ys.length) (hl : all.length % 64 + m = 64) (B' : List UInt8) (hB : B' = B.take (all.length % 64) ++ ys.take m ++ B.drop (all.length % 64 + m)) :
    B'.length = 64 ∧ Left (all ++ ys.take m) B' ∧ whole (all ++ ys.take m) = comp (whole all) B' ∧ (all ++ ys.take m).length % 64 = 0 := by
  obtain ⟨h1, h2⟩ := h
  have e : (all ++ ys.take m).length = 64 * (all.length / 64 + 1) := by rw [List.length_append, List.length_take]; omega
  have e1 : (all ++ ys.take m).length % 64 = 0 := by rw [e]; omega
  have e2 : (all ++ ys.take m).length / 64 = all.length / 64 + 1 := by rw [e]; omega
  have hd : B.drop (all.length % 64 + m) = [] := List.drop_of_length_le (by omega)
  rw [hd, List.append_nil, h2] at hB
  have h64 : B'.length = 64 := by rw [hB, List.length_append, List.length_drop, List.length_take]; omega
  refine ⟨h64, ⟨h64, ?_⟩, ?_, e1⟩
  · rw [e1, e2, List.take_zero, List.drop_of_length_le (by omega)]
  · unfold whole
    rw [e2, blks_succ, blks_append _ _ _ _ (by omega)]
    congr 1
    rw [hB, List.drop_append_of_le_length (by omega), List.take_of_length_le (by rw [List.length_append, List.length_drop, List.length_take]; omega)]

theorem pad_lo {all B : List UInt8} (h : Left all B) (hat : all.length % 64 < 56) :
    comp (whole all) (B.take (all.length % 64) ++ 0x80 :: (List.replicate (55 - all.length % 64) 0 ++ be8 all.length)) = final all := by
  obtain ⟨h1, h2⟩ := h
  have eg : gap all.length = 55 - all.length % 64 := by unfold gap; omega
  have en : nblocks all.length = all.length / 64 + 1 := by unfold nblocks; rw [eg]; omega
  unfold final whole
  rw [en, blks_succ, padded, blks_append _ _ _ _ (by omega)]
  congr 1
  rw [List.drop_append_of_le_length (by omega), h2, padding, eg, List.take_of_length_le]
  simp only [List.length_append, List.length_drop, List.length_cons, List.length_replicate, be8_len]
  omega

theorem pad_hi {all B : List UInt8} (h : Left all B) (hat : 56 ≤ all.length % 64) :
    comp (comp (whole all) (B.take (all.length % 64) ++ 0x80 :: List.replicate (63 - all.length % 64) 0)) (List.replicate 56 0 ++ be8 all.length) = final all := by
  obtain ⟨h1, h2⟩ := h
  have eg : gap all.length = (63 - all.length % 64) + 56 := by unfold gap; omega
  have en : nblocks all.length = all.length / 64 + 1 + 1 := by unfold nblocks; rw [eg]; omega
  unfold final whole
  have e0 : padded all = (all ++ 0x80 :: List.replicate (63 - all.length % 64) 0) ++ (List.replicate 56 0 ++ be8 all.length) := by
    rw [padded, padding, eg, ← List.replicate_append_replicate]; simp
  have el : (all ++ 0x80 :: List.replicate (63 - all.length % 64) 0).length = 64 * (all.length / 64 + 1) := by simp; omega
  rw [en, blks_succ, e0, blks_append _ _ _ (all.length / 64 + 1) (by omega), blks_succ, blks_append _ _ _ _ (by omega)]
  have d1 : ((all ++ 0x80 :: List.replicate (63 - all.length % 64) 0).drop (64 * (all.length / 64))).take 64 = B.take (all.length % 64) ++ 0x80 :: List.replicate (63 - all.length % 64) 0 := by
    rw [List.drop_append_of_le_length (by omega), h2, List.take_of_length_le]
    simp only [List.length_append, List.length_drop, List.length_cons, List.length_replicate]
    omega
  have d2 : ((all ++ 0x80 :: List.replicate (63 - all.length % 64) 0 ++ (List.replicate 56 0 ++ be8 all.length)).drop (64 * (all.length / 64 + 1))).take 64 = List.replicate 56 0 ++ be8 all.length := by
    rw [← el, List.drop_left, List.take_of_length_le]
    simp [be8_len]
  rw [d1, d2]
end Go.Proofs.YtcnhbodemabbdaaDoor

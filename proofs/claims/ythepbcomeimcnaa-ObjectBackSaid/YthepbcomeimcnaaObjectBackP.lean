/- ObjectBack: what can be is read from its bytes; bytes that are read are just those of what they are read as; none is a tree's and a commit's: the walk of the law. Printed by wip/mkobjback.py. -/
import Derived.Test.YthepbcomeimcnaaObjSameC
import Derived.Test.YthepbcomeimcnaaObjLaw
import Derived.Test.YthepbcomeimcnaaObjGetC
namespace Go.Proofs.Ythepbcomeimcnaa
open Go.RowKit
set_option linter.unusedVariables false

theorem blk_rowB {w : World} {g : Nat} {T : TypeId} {l : List Value} (h : Blk w g T l.toArray) : ∀ j v, l[j]? = some v → w.cell? ((⟨g, 0, none⟩ : Addr).add j) = some v := fun j v hv => by
  rw [add_new, h.cell, ← Array.getElem?_toList, List.toList_toArray]
  exact hv
theorem decC_head {bs : List UInt8} {c : Cm} (h : decC bs = some c) : ∃ l, bs = 3 :: l := by
  obtain ⟨_, _, h3⟩ := decC_good h
  exact ⟨_, by rw [← h3]; unfold Cm.bytes; simp only [List.cons_append]; rfl⟩
theorem decT_head {bs : List UInt8} {t : Tr} (h : decT bs = some t) : ∃ l, bs = 1 :: l ∨ bs = 2 :: l := by
  obtain ⟨_, _, h3⟩ := decT_good h
  unfold Tr.bytes at h3
  split at h3
  · exact ⟨_, .inl h3.symm⟩
  · exact ⟨_, .inr h3.symm⟩
theorem decC_none_of {bs : List UInt8} {t : Tr} (h : decT bs = some t) : decC bs = none := by
  cases hc : decC bs with
  | none => rfl
  | some c =>
    obtain ⟨l, hl⟩ := decT_head h
    obtain ⟨m, hm⟩ := decC_head hc
    rw [hm] at hl
    rcases hl with hl | hl <;> (injection hl with e _; exact absurd e (by decide))
theorem decT_none_of {bs : List UInt8} {c : Cm} (h : decC bs = some c) : decT bs = none := by
  cases ht : decT bs with
  | none => rfl
  | some t => rw [decC_none_of ht] at h; cases h
theorem tr_160 {t : Tr} (hg : t.good = true) (hl : t.ids) : t.bytes.length ≤ 160 := by
  obtain ⟨h4, h3, _⟩ := tr_parts hg
  by_cases hk : t.kids.length = 0
  · have h := prsB_len hg t.pairs.length (Nat.le_refl _)
    have e : t.bytes = prsB t t.pairs.length := by unfold Tr.bytes prsB; rw [if_pos hk, List.take_length]
    rw [e]
    omega
  · have h := kdsB_len hg hl t.kids.length (Nat.le_refl _)
    have e : t.bytes = kdsB t t.kids.length := by unfold Tr.bytes kdsB; rw [if_neg hk, List.take_length]
    rw [e]
    omega
theorem flat_33 : ∀ (ps : List (List UInt8)), (∀ p ∈ ps, p.length = 33) → (ps.flatMap idText).length ≤ 33 * ps.length
  | [], _ => Nat.le_refl _
  | p :: ps, h => by
    have h1 := idText_len (h p (List.mem_cons_self ..))
    have h2 := flat_33 ps (fun q hq => h q (List.mem_cons_of_mem _ hq))
    rw [List.flatMap_cons, List.length_append, List.length_cons]
    omega
theorem cm_160 {c : Cm} (hg : c.good = true) (hl : c.ids) : c.bytes.length ≤ 160 := by
  obtain ⟨h2, h32, h1, h1k⟩ := cm_parts hg
  have hr := idText_len hl.1
  have hp := flat_33 c.parents hl.2
  have hi : (intB c.num).length ≤ 2 := by
    have e : zig c.num = (2 * c.num).toNat := by unfold zig; rw [if_pos (by omega)]
    unfold intB
    rw [e]
    by_cases hs : (2 * c.num).toNat < 128
    · rw [uintB_lt hs]; simp
    · rw [uintB_ge hs, uintB_lt (by omega)]; simp
  unfold Cm.bytes
  rw [List.length_append, List.length_append, List.length_append, List.length_append, textB_small (by rw [blo_len]; omega), blo_len]
  simp only [List.length_cons, List.length_nil]
  omega
end Go.Proofs.Ythepbcomeimcnaa

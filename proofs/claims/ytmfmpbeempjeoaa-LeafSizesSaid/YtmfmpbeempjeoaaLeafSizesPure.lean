/- A leaf with one pair more: the plain law. -/
import Derived.Test.YtmfmpbeempjeoaaLeafGreat
import Derived.Test.YtmfmpbeempjeoaaLeafEnc
namespace Go.Proofs.Ytmfmpbeempjeoaa
set_option linter.unusedVariables false

def Nd.more (n : Nd) (key val : ByteArray) : Nd := ⟨true, n.keys ++ [key], n.vals ++ [val], []⟩
theorem more_pairs (n : Nd) (key val : ByteArray) (hl : n.leaf = true) (hv : n.vals.length = n.keys.length) :
    (n.more key val).pairsB (n.keys.length + 1) = n.pairsB n.keys.length ++ (textB (bl key) ++ textB (bl val)) := by
  rw [Nd.pairsB_succ]
  have h1 : (n.more key val).keys.getD n.keys.length ByteArray.empty = key := by
    show (n.keys ++ [key]).getD n.keys.length ByteArray.empty = key
    rw [List.getD_eq_getElem?_getD, List.getElem?_append_right (Nat.le_refl _)]
    simp
  have h2 : (n.more key val).vals.getD n.keys.length ByteArray.empty = val := by
    show (n.vals ++ [val]).getD n.keys.length ByteArray.empty = val
    rw [List.getD_eq_getElem?_getD, List.getElem?_append_right (by omega), hv]
    simp
  have h3 : (n.more key val).leaf = true := rfl
  rw [h1, h2, h3, if_pos rfl]
  congr 1
  unfold Nd.pairsB
  rw [List.flatMap_def, List.flatMap_def]
  congr 1
  apply List.map_congr_left
  intro i hi
  have hi := List.mem_range.1 hi
  have e1 : (n.more key val).keys.getD i ByteArray.empty = n.keys.getD i ByteArray.empty := by
    show (n.keys ++ [key]).getD i ByteArray.empty = _
    rw [List.getD_eq_getElem?_getD, List.getD_eq_getElem?_getD, List.getElem?_append_left hi]
  have e2 : (n.more key val).vals.getD i ByteArray.empty = n.vals.getD i ByteArray.empty := by
    show (n.vals ++ [val]).getD i ByteArray.empty = _
    rw [List.getD_eq_getElem?_getD, List.getD_eq_getElem?_getD, List.getElem?_append_left (by omega)]
  rw [e1, e2, h3, hl]

theorem sizeN_one {n : Nat} (h : n < 128) : sizeN n = 1 := by unfold sizeN; rw [uintB_lt h]; rfl
theorem sizeN_two {n : Nat} (h : 128 ≤ n) (h2 : n < 16384) : sizeN n = 2 := by
  unfold sizeN
  rw [uintB_ge (by omega), List.length_cons, uintB_lt (by omega)]
  rfl

theorem more_size {n : Nd} {key val : ByteArray} (hl : n.leaf = true) (hg : n.good = true) (hm : (n.more key val).good = true) (hK : n.keys.length ≤ 1024) :
    ((n.more key val).bytes.length : Int) = n.bytes.length + 2 + key.size + val.size + (if n.keys.length = 63 then 1 else 0) + (if 127 < val.size then 1 else 0) := by
  have hv := good_leaf hg rfl rfl hl
  have hD : n.kids = [] := by
    have hs := (good_parts hg).1
    unfold Nd.shape at hs
    rw [hl] at hs
    simp at hs
    exact hs.2
  have hks : key.size ≤ 48 := by
    have h1 := (good_parts hm).2.1
    unfold Nd.keysOk at h1
    rw [List.all_eq_true] at h1
    have h2 := h1 n.keys.length (List.mem_range.2 (by show _ < (n.keys ++ [key]).length; simp))
    unfold Nd.keyOk at h2
    have e : (n.more key val).keys.getD n.keys.length ByteArray.empty = key := by
      show (n.keys ++ [key]).getD n.keys.length ByteArray.empty = key
      rw [List.getD_eq_getElem?_getD, List.getElem?_append_right (Nat.le_refl _)]
      simp
    rw [e] at h2
    simp only [Bool.and_eq_true, decide_eq_true_eq] at h2
    exact h2.1
  have hvs : val.size ≤ 160 := by
    have h1 := (good_parts hm).2.2.1
    unfold Nd.valsOk at h1
    rw [List.all_eq_true] at h1
    have h2 := h1 val (by show val ∈ n.vals ++ [val]; simp)
    simpa using h2
  have e1 : (n.more key val).keys.length = n.keys.length + 1 := by show (n.keys ++ [key]).length = _; simp
  have e2 : (n.more key val).kids = [] := rfl
  have h1 : (n.more key val).headN = 2 * n.keys.length + 3 := by
    unfold Nd.headN
    rw [e1, show (n.more key val).leaf = true from rfl, if_pos rfl]
    omega
  have h2 : n.headN = 2 * n.keys.length + 1 := by
    unfold Nd.headN
    rw [hl, if_pos rfl]
  have lk : (textB (bl key)).length = 1 + key.size := by
    have hb : (bl key).length = key.size := str_len key
    unfold textB
    rw [List.length_append, hb]
    have := sizeN_one (n := key.size) (by omega)
    unfold sizeN at this
    omega
  have lv : (textB (bl val)).length = 1 + val.size + (if 127 < val.size then 1 else 0) := by
    have hb : (bl val).length = val.size := str_len val
    unfold textB
    rw [List.length_append, hb]
    split
    · have := sizeN_two (n := val.size) (by omega) (by omega)
      unfold sizeN at this
      omega
    · have := sizeN_one (n := val.size) (by omega)
      unfold sizeN at this
      omega
  unfold Nd.bytes
  rw [e1, e2, hD, more_pairs n key val hl hv, h1, h2]
  simp only [List.length_append, List.flatMap_nil, List.length_nil, lk, lv]
  have s1 : (uintB (2 * n.keys.length + 3)).length = (uintB (2 * n.keys.length + 1)).length + (if n.keys.length = 63 then 1 else 0) := by
    have k1 := fun h => sizeN_one (n := 2 * n.keys.length + 3) h
    have k2 := fun h => sizeN_two (n := 2 * n.keys.length + 3) h (by omega)
    have k3 := fun h => sizeN_one (n := 2 * n.keys.length + 1) h
    have k4 := fun h => sizeN_two (n := 2 * n.keys.length + 1) h (by omega)
    unfold sizeN at k1 k2 k3 k4
    by_cases h63 : n.keys.length = 63
    · rw [if_pos h63, k2 (by omega), k3 (by omega)]
    · rw [if_neg h63]
      by_cases hlt : n.keys.length < 63
      · rw [k1 (by omega), k3 (by omega)]
      · rw [k2 (by omega), k4 (by omega)]
  rw [s1]
  split <;> split <;> omega
end Go.Proofs.Ytmfmpbeempjeoaa

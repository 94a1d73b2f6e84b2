/- slices.DeleteFunc on a row of writes of the call's own: what is gone is taken out. -/
import Derived.Test.YtnggdkpaofbaaaaTabRef2
namespace Go.Proofs.Ytnggdkpaofbaaaa
open Go.RowKit Go.Shelf
set_option linter.unusedVariables false

def keepW (x : W3) : Bool := !x.2.2
theorem flat_set (l : List W3) : ∀ (i : Nat) (x : W3), i < l.length → ((l.set i x).map wC).flatten = ((l.map wC).flatten.take (i * 3)) ++ wC x ++ (l.map wC).flatten.drop (i * 3 + 3) := by
  induction l with
  | nil => intro i x h; cases h
  | cons a l ih =>
    intro i x h
    cases i with
    | zero =>
      simp only [List.set_cons_zero, List.map_cons, List.flatten_cons, Nat.zero_mul, List.take_zero, List.nil_append, Nat.zero_add]
      rw [List.drop_append, wC_len, List.drop_of_length_le (by rw [wC_len]; exact Nat.le_refl _), List.nil_append, Nat.sub_self, List.drop_zero]
    | succ i =>
      have := ih i x (by simpa using h)
      simp only [List.set_cons_succ, List.map_cons, List.flatten_cons]
      have e1 : (wC a).take ((i + 1) * 3) = wC a := List.take_of_length_le (by rw [wC_len]; omega)
      have e2 : (wC a).drop ((i + 1) * 3 + 3) = [] := List.drop_of_length_le (by rw [wC_len]; omega)
      rw [this, List.take_append, List.drop_append, wC_len, e1, e2, List.nil_append, show (i + 1) * 3 - 3 = i * 3 by omega, show (i + 1) * 3 + 3 - 3 = i * 3 + 3 by omega]
      simp only [List.append_assoc]
theorem flat_take (l : List W3) : ∀ i, ((l.take i).map wC).flatten = (l.map wC).flatten.take (i * 3) := by
  induction l with
  | nil => intro i; simp
  | cons a l ih =>
    intro i
    cases i with
    | zero => simp
    | succ i =>
      simp only [List.take_succ_cons, List.map_cons, List.flatten_cons]
      have e1 : (wC a).take ((i + 1) * 3) = wC a := List.take_of_length_le (by rw [wC_len]; omega)
      rw [ih i, List.take_append, wC_len, e1, show (i + 1) * 3 - 3 = i * 3 by omega]
theorem own_set {w : World} {B g n c i : Nat} {l : List W3} (h : w.ownsRow B 46 3 (.slice (some ⟨g, 0, none⟩) n c) n (l.map wC).flatten) (hn : l.length = n) (hi : i < n) (x : W3) :
    ∃ w', (Instr.storeAt 46 (.pointer (some ⟨g, i * 3, none⟩)) (.agg (wC x).toArray)).run Try.prog w = .ok () w' ∧ w'.ownsRow B 46 3 (.slice (some ⟨g, 0, none⟩) n c) n ((l.set i x).map wC).flatten ∧ w.grownBy w' (some g) := by
  rcases h.2 with ⟨e, _⟩ | ⟨g1, cap, cur, e, hb, hgg, h1, h2, h3, ht⟩
  · cases e
  · simp only [Value.slice.injEq, Option.some.injEq, Addr.mk.injEq, and_true, true_and] at e
    obtain ⟨rfl, rfl⟩ := e
    have hbk : Blk w g 46 cur := hgg
    have hfit : i * 3 + 3 ≤ cur.size := by rw [h3]; omega
    have hrun := run_store_part (P := Try.prog) (ty := 46) hbk (i * 3) (vs := (wC x).toArray) hfit (by rw [w_info]; rfl) (by rw [List.toList_toArray]; exact wC_one x)
    have hsz : ((wC x).toArray).size = 3 := rfl
    rw [hsz, List.toList_toArray] at hrun
    refine ⟨_, hrun, ⟨?_, .inr ⟨g, c, _, rfl, hb, setRow_heap w g cur _ _ (0, 0) hgg, h1, h2, ?_, ?_⟩⟩, ⟨rfl, rfl, rfl, by simp, fun k _ hne => setRow_other w g k _ (fun e => hne (by rw [e]))⟩⟩
    · rw [wflat_len, List.length_set, hn]
    · rw [List.size_toArray, List.length_append, List.length_append, List.length_take, List.length_drop, Array.length_toList (xs := cur), wC_len, h3]
      omega
    · rw [flat_set l i x (by rw [hn]; exact hi), ← ht]
      have hl1 : (cur.toList.take (i * 3)).length = i * 3 := by rw [List.length_take, Array.length_toList (xs := cur)]; omega
      simp only [List.append_assoc]
      have e1 : (cur.toList.take (i * 3)).take (n * 3) = cur.toList.take (i * 3) := List.take_of_length_le (by rw [hl1]; omega)
      have e2 : (wC x).take (n * 3 - i * 3) = wC x := List.take_of_length_le (by rw [wC_len]; omega)
      have e3 : (cur.toList.take (n * 3)).take (i * 3) = cur.toList.take (i * 3) := by rw [List.take_take, Nat.min_eq_left (by omega)]
      rw [List.take_append, hl1, e1, List.take_append, wC_len, e2, e3, List.drop_take, show n * 3 - i * 3 - 3 = n * 3 - (i * 3 + 3) by omega]
theorem zcells_one (m : Nat) : ∀ v ∈ (Builtin.zeroCells (Value.agg #[.string ByteArray.empty, .string ByteArray.empty, .bool false]).cells m).toList, v.oneCell' = true := by
  intro v hv
  simp only [Builtin.zeroCells, Value.cells, Array.toList_map, List.mem_map] at hv
  obtain ⟨i, _, rfl⟩ := hv
  have h3 : i % 3 < 3 := Nat.mod_lt _ (by omega)
  have hc : i % 3 = 0 ∨ i % 3 = 1 ∨ i % 3 = 2 := by omega
  show ((#[Value.string ByteArray.empty, .string ByteArray.empty, .bool false] : Array Value)[i % 3]!).oneCell' = true
  rcases hc with e | e | e <;> rw [e] <;> rfl
theorem own_cut {w : World} {B g n c i : Nat} {l : List W3} (h : w.ownsRow B 46 3 (.slice (some ⟨g, 0, none⟩) n c) n (l.map wC).flatten) (hn : l.length = n) (hi : i ≤ n) : w.ownsRow B 46 3 (.slice (some ⟨g, 0, none⟩) i c) i ((l.take i).map wC).flatten := by
  rcases h.2 with ⟨e, _⟩ | ⟨g1, cap, cur, e, hb, hgg, h1, h2, h3, ht⟩
  · cases e
  · simp only [Value.slice.injEq, Option.some.injEq, Addr.mk.injEq, and_true, true_and] at e
    obtain ⟨rfl, rfl⟩ := e
    refine ⟨by rw [wflat_len, List.length_take, hn, Nat.min_eq_left hi], .inr ⟨g, c, cur, rfl, hb, hgg, by omega, h2, h3, ?_⟩⟩
    rw [flat_take, ← ht, List.take_take, Nat.min_eq_left (by omega)]
theorem own_clear {w : World} {B g n c i : Nat} {l : List W3} (h : w.ownsRow B 46 3 (.slice (some ⟨g, 0, none⟩) n c) n (l.map wC).flatten) (hn : l.length = n) (hi : i ≤ n) (ty : TypeId) :
    ∃ w', (Builtin.clear_ #[22] ty #[.slice (if c = i then (some ⟨g, 0, none⟩ : Option Addr) else (some ⟨g, 0, none⟩ : Option Addr).map (·.add (i * 3))) (n - i) (c - i)]).run Try.prog w = .ok (.tuple #[]) w' ∧ w'.ownsRow B 46 3 (.slice (some ⟨g, 0, none⟩) i c) i ((l.take i).map wC).flatten ∧ w.grownBy w' (some g) := by
  have hcut := own_cut h hn hi
  by_cases hm : n - i = 0
  · refine ⟨w, ?_, hcut, World.grownBy.refl _ _⟩
    rw [hm]
    by_cases hci : c = i <;> simp [Builtin.clear_, hci, run_underlying Try.underlying22]
  · rcases h.2 with ⟨e, _⟩ | ⟨g1, cap, cur, e, hb, hgg, h1, h2, h3, ht⟩
    · cases e
    · simp only [Value.slice.injEq, Option.some.injEq, Addr.mk.injEq, and_true, true_and] at e
      obtain ⟨rfl, rfl⟩ := e
      have hci : ¬ c = i := by omega
      rw [if_neg hci, Option.map_some, add_new]
      obtain ⟨m, hm'⟩ : ∃ m, n - i = m + 1 := ⟨n - i - 1, by omega⟩
      obtain ⟨Z, hZ⟩ : ∃ Z, Z = (Builtin.zeroCells (Value.agg #[.string ByteArray.empty, .string ByteArray.empty, .bool false]).cells (n - i)).toList := ⟨_, rfl⟩
      have hZl : Z.length = (n - i) * 3 := by rw [hZ, Array.length_toList, size_zeroCells]; rfl
      have hZ1 : ∀ v ∈ Z, v.oneCell' = true := by rw [hZ]; exact zcells_one _
      have hst := run_storeCells_at Try.prog g (i * 3) 46 Z 0 cur w hgg (by rw [hZl, h3]; omega) hZ1
      rw [Nat.add_zero] at hst
      have hzv : (zeroValue 46).run Try.prog w = .ok (.agg #[.string ByteArray.empty, .string ByteArray.empty, .bool false]) w := by kernel_rfl
      refine ⟨w.setRow g (cur.toList.take (i * 3) ++ Z ++ cur.toList.drop (i * 3 + Z.length)).toArray, ?_, ⟨hcut.1, .inr ⟨g, c, _, rfl, hb, setRow_heap w g cur _ _ (0, 0) hgg, by omega, h2, ?_, ?_⟩⟩, ⟨rfl, rfl, rfl, by simp, fun k _ hne => setRow_other w g k _ (fun e => hne (by rw [e]))⟩⟩
      · rw [hm'] at hZ ⊢
        simp [Builtin.clear_, run_underlying Try.underlying22, hzv, ← hZ, hst]
      · rw [List.size_toArray, List.length_append, List.length_append, List.length_take, List.length_drop, Array.length_toList (xs := cur), hZl, h3]
        omega
      · have hl1 : (cur.toList.take (i * 3)).length = i * 3 := by rw [List.length_take, Array.length_toList (xs := cur)]; omega
        simp only [List.append_assoc]
        rw [List.take_append, hl1, Nat.sub_self, List.take_zero, List.append_nil, List.take_take, Nat.min_self, flat_take, ← ht, List.take_take, Nat.min_eq_left (by omega)]
end Go.Proofs.Ytnggdkpaofbaaaa

/- A queue of texts: a slice of the call's own that begins anywhere in its row; appended to, its first one taken. -/
import Derived.Test.YthleaofgodkehaaAppend
import Derived.Test.YthleaofgodkehaaArr
namespace Go.Proofs.Ythleaofgodkehaa
open Go.RowKit
set_option linter.unusedVariables false

def QRow (B : Nat) (w : World) (v : Value) (q : Option Nat) (xs : List ByteArray) : Prop :=
  (v = .slice none 0 0 ∧ xs = [] ∧ q = none) ∨ ∃ g off cap cur, q = some g ∧ v = .slice (some ⟨g, off, none⟩) xs.length cap ∧ B ≤ g ∧ Blk w g 9 cur ∧ xs.length ≤ cap ∧ cap ≤ maxLen ∧ off + cap ≤ cur.size ∧ ∀ j s, xs[j]? = some s → cur[off + j]? = some (.string s)
theorem QRow.nil (B : Nat) (w : World) : QRow B w (.slice none 0 0) none [] := .inl ⟨rfl, rfl, rfl⟩
theorem QRow.form {B : Nat} {w : World} {v : Value} {q : Option Nat} {xs : List ByteArray} (h : QRow B w v q xs) : ∃ A c, v = .slice A xs.length c ∧ xs.length ≤ c := by
  rcases h with ⟨rfl, rfl, _⟩ | ⟨g, off, cap, cur, _, rfl, hb, hk, hl, _⟩
  · exact ⟨none, 0, rfl, Nat.le_refl _⟩
  · exact ⟨_, cap, rfl, hl⟩
theorem QRow.ge {B : Nat} {w : World} {v : Value} {q : Option Nat} {xs : List ByteArray} (h : QRow B w v q xs) : ∀ k, q = some k → B ≤ k := by
  rcases h with ⟨_, _, rfl⟩ | ⟨g, off, cap, cur, rfl, _, hb, hk, _⟩
  · intro k hk; cases hk
  · intro k hk'; cases hk'; exact hb
theorem QRow.str {B : Nat} {w : World} {v : Value} {q : Option Nat} {xs : List ByteArray} (h : QRow B w v q xs) : ∀ k, q = some k → ∃ cur, Blk w k 9 cur := by
  rcases h with ⟨_, _, rfl⟩ | ⟨g, off, cap, cur, rfl, _, hb, hk, _⟩
  · intro k hk; cases hk
  · intro k hk'; cases hk'; exact ⟨cur, hk⟩
theorem QRow.grown {B : Nat} {w w' : World} {v : Value} {q : Option Nat} {xs : List ByteArray} (h : QRow B w v q xs) {row : Option Nat} (hg : w.grownBy w' row) (hne : ∀ k, q = some k → some k ≠ row) : QRow B w' v q xs := by
  rcases h with h | ⟨g, off, cap, cur, hq, e, hb, hk, r⟩
  · exact .inl h
  · exact .inr ⟨g, off, cap, cur, hq, e, hb, hk.grown hg (hne g hq), r⟩
theorem QRow.same {B : Nat} {w w' : World} {v : Value} {q : Option Nat} {xs : List ByteArray} (h : QRow B w v q xs) (hs : ∀ k, q = some k → w'.heap[k]? = w.heap[k]?) : QRow B w' v q xs := by
  rcases h with h | ⟨g, off, cap, cur, hq, e, hb, hk, r⟩
  · exact .inl h
  · exact .inr ⟨g, off, cap, cur, hq, e, hb, (hs g hq).trans hk, r⟩
theorem QRow.ext {B : Nat} {w w' : World} {v : Value} {q : Option Nat} {xs : List ByteArray} (h : QRow B w v q xs) (k : Ext w w') : QRow B w' v q xs :=
  h.same (fun j hj => by obtain ⟨cur, hc⟩ := h.str j hj; exact k.block j hc.lt)
/-- The first one. -/
theorem QRow.first {B : Nat} {w : World} {v : Value} {q : Option Nat} {x : ByteArray} {xs : List ByteArray} (h : QRow B w v q (x :: xs)) : ∃ a c, v = .slice (some a) (xs.length + 1) c ∧ w.cell? a = some (.string x) := by
  rcases h with ⟨_, h, _⟩ | ⟨g, off, cap, cur, _, rfl, hb, hk, hl, hm, hf, hc⟩
  · cases h
  · exact ⟨⟨g, off, none⟩, cap, rfl, by rw [hk.cell]; exact hc 0 x rfl⟩
theorem qstr_size : (Try.prog.info? 9).map (·.size) = some 1 := by kernel_rfl
/-- Without the first one. -/
theorem QRow.rest {B : Nat} {w : World} {v : Value} {q : Option Nat} {x : ByteArray} {xs : List ByteArray} (h : QRow B w v q (x :: xs)) (kk : IntKind) :
    ∃ A' c', (∀ u, (Instr.sliceAt 33 v (some (.int kk 1)) none none).run Try.prog u = .ok (.slice A' xs.length c') u) ∧ QRow B w (.slice A' xs.length c') q xs := by
  rcases h with ⟨_, h, _⟩ | ⟨g, off, cap, cur, hq, rfl, hb, hk, hl, hm, hf, hc⟩
  · cases h
  · have hl' : xs.length + 1 ≤ cap := hl
    refine ⟨_, _, fun u => run_slice_from (P := Try.prog) (w := u) 33 9 Try.underlying33 1 qstr_size (some ⟨g, off, none⟩) (xs.length + 1) cap 1 (by omega) hl' kk, ?_⟩
    split
    · rename_i h0
      subst h0
      have hx : xs = [] := List.eq_nil_of_length_eq_zero (by omega)
      subst hx
      exact .inr ⟨g, off, 0, cur, hq, rfl, hb, hk, Nat.le_refl _, by omega, by omega, fun j s h => by simp at h⟩
    · have hadd : (⟨g, off, none⟩ : Addr).add (1 * 1) = ⟨g, off + 1, none⟩ := rfl
      refine .inr ⟨g, off + 1, cap - 1, cur, hq, ?_, hb, hk, by omega, by omega, by omega, fun j s hj => ?_⟩
      · rw [Option.map_some, hadd]
      · have := hc (j + 1) s hj
        rw [show off + 1 + j = off + (j + 1) by omega]
        exact this
theorem qstr_info : (Try.prog.info? 9).map (fun i => (i.zero, i.size, i.bytes)) = some (some (.string ByteArray.empty), 1, 16) := by kernel_rfl
theorem run_append_q {B : Nat} {w : World} {v : Value} {q : Option Nat} {xs : List ByteArray} (h : QRow B w v q xs) (hB : B ≤ w.heap.size) (a : Addr) (c : Nat) (s : ByteArray) (ha : w.cell? a = some (.string s)) (hl : xs.length ≤ 1000000) (ty : TypeId) :
    ∃ v' w' q', (Builtin.append_ #[33, 33] ty #[v, .slice (some a) 1 c]).run Try.prog w = .ok v' w' ∧ QRow B w' v' q' (xs ++ [s]) ∧ w.grownBy w' q ∧ (q' = q ∨ ∃ k, q' = some k ∧ w.heap.size ≤ k) := by
  obtain ⟨i, hi, hz, hsize, hby⟩ := info_parts qstr_info
  have ht := Try.underlying33
  have hnews : ∀ j u, [Value.string s][j]? = some u → w.cell? (a.add j) = some u := by
    intro j u hj
    match j, hj with
    | 0, hj => cases hj; simpa [Addr.add] using ha
    | n + 1, hj => simp at hj
  have hone : ∀ u ∈ [Value.string s], u.oneCell' = true := by intro u hu; rw [List.mem_singleton] at hu; subst hu; rfl
  have hnl : [Value.string s].length = 1 * i.size := by rw [hsize]; rfl
  have hfresh : ∀ (olds : List Value) (cap : Nat) (need : Nat), olds = xs.map Value.string → need = xs.length + 1 → need ≤ cap → cap ≤ maxLen →
      QRow B (w.drew.alloc (.cells (olds.toArray ++ [Value.string s].toArray ++ Builtin.zeroCells (Value.string ByteArray.empty).cells (cap - need)) 9)) (.slice (some ⟨w.heap.size, 0, none⟩) need cap) (some w.heap.size) (xs ++ [s]) := by
    rintro olds cap need rfl rfl h1 h2
    refine .inr ⟨w.heap.size, 0, cap, _, rfl, by rw [List.length_append]; rfl, hB, Blk.new w.drew _ _, by rw [List.length_append]; exact h1, h2, ?_, fun j u hj => ?_⟩
    · simp only [Array.size_append, List.size_toArray, size_zeroCells, List.length_map, List.length_cons, List.length_nil]
      have : (Value.string ByteArray.empty).cells.size = 1 := rfl
      rw [this]
      omega
    · have hj' := (List.getElem?_eq_some_iff.1 hj).1
      rw [List.length_append] at hj'
      rw [Nat.zero_add, Array.getElem?_append_left (by simp only [Array.size_append, List.size_toArray, List.length_map, List.length_cons, List.length_nil]; simpa using hj')]
      have e : (xs.map Value.string).toArray ++ [Value.string s].toArray = ((xs ++ [s]).map Value.string).toArray := by simp
      rw [e, List.getElem?_toArray, List.getElem?_map, hj]
      rfl
  rcases h with ⟨rfl, rfl, rfl⟩ | ⟨g, off, cap, cur, rfl, rfl, hb, hk, hle, hm, hfit, hc⟩
  · have hrun := run_append_nil (P := Try.prog) w 33 ty 9 i (.string ByteArray.empty) ht hi hz a 1 c [.string s] hnl hnews (by decide) (by decide) (by rw [hby]; decide)
    refine ⟨_, _, some w.heap.size, hrun, ?_, ⟨rfl, rfl, rfl, by simp, fun k hk _ => Below.heap_alloc w.drew _ k hk⟩, .inr ⟨_, rfl, Nat.le_refl _⟩⟩
    exact hfresh [] _ 1 rfl rfl (grownCap_ge w 1 0 _) (grownCap_le_maxLen w 1 0 _ (by decide))
  · by_cases hroom : xs.length + 1 ≤ cap
    · have hst := run_storeCells_at Try.prog g (off + xs.length) 9 [.string s] 0 cur w hk (by simp; omega) hone
      have hf := run_firstCells_some (P := Try.prog) w i.size 1 a 1 c [.string s] hnl hnews
      simp only [Nat.add_zero] at hst
      refine ⟨.slice (some ⟨g, off, none⟩) (xs.length + 1) cap, w.setRow g (cur.toList.take (off + xs.length) ++ ([Value.string s] : List Value) ++ cur.toList.drop (off + xs.length + 1)).toArray, some g, ?_, ?_, ⟨rfl, rfl, rfl, by simp, fun k _ hne => setRow_other w g k _ (fun e => hne (by rw [e]))⟩, .inl rfl⟩
      · have hadd : (⟨g, off, none⟩ : Addr).add (xs.length * i.size) = ⟨g, off + xs.length, none⟩ := by
          rw [hsize, Nat.mul_one]
          unfold Addr.add
          split
          · rename_i h0; rw [h0, Nat.add_zero]
          · rfl
        simp [Builtin.append_, run_underlying ht, sizeOf, typeInfo, hi, Builtin.lenOf, hroom, hf, hadd]
        simp only [List.append_assoc, List.cons_append, List.nil_append, List.length_cons, List.length_nil, Nat.zero_add] at hst
        rw [hst]
        rfl
      · refine .inr ⟨g, off, cap, _, rfl, by rw [List.length_append]; rfl, hb, hk.row _, by rw [List.length_append]; exact hroom, hm, ?_, fun j u hj => ?_⟩
        · rw [List.size_toArray, List.length_append, List.length_append, List.length_take, List.length_drop, Array.length_toList (xs := cur), List.length_singleton]
          omega
        · rw [List.getElem?_toArray]
          have htl : (cur.toList.take (off + xs.length)).length = off + xs.length := by rw [List.length_take, Array.length_toList (xs := cur)]; omega
          by_cases hj2 : j < xs.length
          · rw [List.getElem?_append_left hj2] at hj
            rw [List.append_assoc, List.getElem?_append_left (by omega), List.getElem?_take, if_pos (by omega), Array.getElem?_toList]
            exact hc j u hj
          · rw [List.getElem?_append_right (by omega)] at hj
            have hj0 : j - xs.length = 0 := by
              have := (List.getElem?_eq_some_iff.1 hj).1
              simp only [List.length_cons, List.length_nil] at this
              omega
            rw [hj0] at hj
            cases hj
            rw [List.append_assoc, List.getElem?_append_right (by omega), htl, show off + j - (off + xs.length) = 0 by omega]
            rfl
    · have holds : ∀ j u, (xs.map Value.string)[j]? = some u → w.cell? ((⟨g, off, none⟩ : Addr).add j) = some u := by
        intro j u hj
        rw [List.getElem?_map] at hj
        cases hx : xs[j]? with
        | none => rw [hx] at hj; cases hj
        | some t =>
          rw [hx] at hj
          cases hj
          have hadd : (⟨g, off, none⟩ : Addr).add j = ⟨g, off + j, none⟩ := by
            unfold Addr.add
            split
            · rename_i h0; rw [h0, Nat.add_zero]
            · rfl
          rw [hadd, hk.cell]
          exact hc j t hx
      have hg : cap < xs.length + 1 := by omega
      have hrun := run_append_grow (P := Try.prog) w 33 ty 9 i (.string ByteArray.empty) ht hi hz ⟨g, off, none⟩ xs.length cap (xs.map Value.string) (by rw [hsize, List.length_map, Nat.mul_one]) holds a 1 c [.string s] hnl hnews hg (by omega) (growslice_fits hg (by rw [hby]; omega))
      refine ⟨_, _, some w.heap.size, hrun, ?_, ⟨rfl, rfl, rfl, by simp, fun k hk _ => Below.heap_alloc w.drew _ k hk⟩, .inr ⟨_, rfl, Nat.le_refl _⟩⟩
      exact hfresh _ _ _ rfl rfl (grownCap_ge w _ _ _) (grownCap_le_maxLen w _ _ _ (by simp only [maxLen]; omega))
theorem wpList_append_q {w : World} {ops : Array Oper} {rest : List Oper} {o : Oper} {a : Act} {Q : Exit → Act → World → Prop} (hgd : o.guard = none) (x y : Operand)
    (ho : o.op = .call { callee := .builtin .append, args := #[x, y], argTypes := #[33, 33] })
    {B : Nat} {v : Value} {q : Option Nat} {xs : List ByteArray} (hx : a.eval x = v) (h : QRow B w v q xs) (hB : B ≤ w.heap.size) (ad : Addr) (c : Nat) (s : ByteArray) (hy : a.eval y = .slice (some ad) 1 c) (ha : w.cell? ad = some (.string s)) (hl : xs.length ≤ 1000000)
    (hk : ∀ v' w' q', QRow B w' v' q' (xs ++ [s]) → w.grownBy w' q → (q' = q ∨ ∃ k, q' = some k ∧ w.heap.size ≤ k) → wpList Try.prog ops Q rest (a.put o.dst v') w') : wpList Try.prog ops Q (o :: rest) a w := by
  refine wpList_plain hgd fun _ hK => ?_
  obtain ⟨v', w', q', h1, h2, h3, h4⟩ := run_append_q h hB ad c s ha hl o.type
  unfold Oper.wp execOp
  simp only [ho, resolve, invoke, builtin, Sem.run_bind, Sem.run_pure, Result.andThen_ok, List.map_toArray, List.map_cons, List.map_nil, hx, hy, h1]
  exact hK _ _ (hk v' w' q' h2 h3 h4)
/-- A store, as a region's last operation. -/
theorem wp_st {P : Program} {o : Oper} {a : Act} {w w' : World} {K : Act → World → Prop} {Q : Exit → Act → World → Prop} (ty : TypeId) (x y : Operand) (ho : o.op = .store ty x y) (hod : o.dst = none) {p v : Value} (hx : a.eval x = p) (hy : a.eval y = v)
    (hrun : (Instr.storeAt ty p v).run P w = .ok () w') (hk : K a w') : o.wp P a w K Q := by
  unfold Oper.wp execOp
  simp only [ho, hx, hy, Sem.run_bind, hrun, Result.andThen_ok, Sem.run_pure]
  simpa [Oper.upon, hod, Act.put] using hk
end Go.Proofs.Ythleaofgodkehaa

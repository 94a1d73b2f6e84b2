/- table.Read: what its loop needs. -/
import Derived.Test.YtnggdkpaofbaaaaTabReadsPure
import Derived.Test.YtnggdkpaofbaaaaTabMany
import Derived.Test.YtnggdkpaofbaaaaPush
import Derived.Test.YtnggdkpaofbaaaaReader
import Derived.Test.YtnggdkpaofbaaaaRowFacts
namespace Go.Proofs.Ytnggdkpaofbaaaa
open Go.RowKit Go.Shelf
set_option linter.unusedVariables false

theorem wpList_slice_from_g {P : Program} {ops : Array Oper} {rest : List Oper} {op : Oper} {a : Act} {w : World} {Q : Exit → Act → World → Prop} {g d' : Nat} {b : Bool} (hgd : op.guard = some (g, b)) (hd' : (ops[g]?).bind (·.dst) = some d') (hv : a.eval (.tmp d') = .bool b)
    (t e : TypeId) (x y : Operand) (ho : op.op = .slice t x (some y) none none) (ht : P.underlying t = some (.slice e)) (sz : Nat) (hs : (P.info? e).map (·.size) = some sz)
    (A : Option Addr) (n c k : Nat) (kk : IntKind) (hx : a.eval x = .slice A n c) (hy : a.eval y = .int kk k) (hk : k ≤ n) (hc : n ≤ c) {cs : List Value} (h : Cells w A cs) (hcs : cs.length = n * sz)
    (hK : ∀ A', Cells w A' (cs.drop (k * sz)) → Same A A' → wpList P ops Q rest (a.put op.dst (.slice A' (n - k) (c - k))) w) : wpList P ops Q (op :: rest) a w :=
  wpList_step fun K hK' => by
    rw [if_pos (wanted_yes hgd hd' hv)]
    exact wp_slice_from t e x y ho ht sz hs A n c k kk hx hy hk hc h hcs fun A' h1 h2 => hK' _ _ (hK A' h1 h2)
def muR (r : PR) : Nat := r.b.length + (if r.bad then 0 else 1)
theorem muR_le (r : PR) : muR r ≤ r.b.length + 1 := by unfold muR; split <;> omega
theorem take_cost (r : PR) (n : Int) : (r.take n).1.length + (r.take n).2.b.length ≤ r.b.length := by
  unfold PR.take
  split
  · exact Nat.zero_le _
  · simp only [List.length_take, List.length_drop]
    omega
theorem text_cost (r : PR) (m : Int) : (r.text m).1.length + (r.text m).2.b.length ≤ r.b.length := by
  unfold PR.text
  split
  · exact Nat.zero_le _
  · exact Nat.le_trans (take_cost _ _) (uint_len r)
theorem text_max (r : PR) (m : Nat) : (r.text m).1.length ≤ m := by
  unfold PR.text
  split
  · exact Nat.zero_le _
  · rename_i h
    unfold PR.take
    split
    · exact Nat.zero_le _
    · simp only [List.length_take, Int.toNat_natCast]
      omega
theorem rd_cost (r : PR) (h : r.bad = false) : 1 + (r.uint.2.text 48).1.length + ((r.uint.2.text 48).2.text 160).1.length + muR ((r.uint.2.text 48).2.text 160).2 ≤ muR r := by
  have h1 := text_cost r.uint.2 48
  have h2 := text_cost (r.uint.2.text 48).2 160
  have h3 := uint_len r
  unfold muR
  rw [h]
  cases hb : ((r.uint.2.text 48).2.text 160).2.bad with
  | true =>
    simp only [Bool.false_eq_true, if_true, if_false]
    omega
  | false =>
    have h4 := uint_less (uint_bad (text_bad (uint_bad (text_bad hb))))
    simp only [Bool.false_eq_true, if_false]
    omega
theorem step_yes {l : List W3} {k : Nat} {r : PR} (hk : k < l.length) (hs : ∀ x ∈ l, okR x) (hr : r = ⟨wrsB (l.drop k), false⟩) :
    r.uint.1 = goneN l[k] ∧ (r.uint.2.text 48).1 = l[k].1.data.toList ∧ ((r.uint.2.text 48).2.text 160).1 = l[k].2.1.data.toList ∧ ((r.uint.2.text 48).2.text 160).2 = ⟨wrsB (l.drop (k + 1)), false⟩ := by
  have hd : wrsB (l.drop k) = wrB l[k] ++ wrsB (l.drop (k + 1)) := by
    rw [← List.getElem_cons_drop hk]
    rfl
  obtain ⟨h1, h2, h3⟩ := wr_of l[k] (hs _ (List.getElem_mem hk)) (wrsB (l.drop (k + 1)))
  rw [hr, hd, h1]
  show goneN l[k] = _ ∧ (PR.text _ 48).1 = _ ∧ _
  rw [h2]
  show _ ∧ _ ∧ (PR.text _ 160).1 = _ ∧ (PR.text _ 160).2 = _
  rw [h3]
  exact ⟨rfl, rfl, rfl, rfl⟩
theorem valid_snoc {out : List W3} {x : W3} (h : ValidT out) (ho : ∀ pre y, out = pre ++ [y] → klt y.1 x.1 = true) (hf : fixW x = x) (hx : okR x) : ValidT (out ++ [x]) := by
  refine ⟨?_, fun y hy => ?_, fun y hy => ?_⟩
  · refine List.pairwise_append.2 ⟨h.sorted, List.pairwise_singleton _ _, fun a ha c hc => ?_⟩
    rw [List.mem_singleton] at hc
    subst hc
    rcases List.eq_nil_or_concat out with rfl | ⟨pre, y, rfl⟩
    · cases ha
    · have h1 := ho pre y (List.concat_eq_append ..)
      rw [List.concat_eq_append] at ha
      have hs := h.sorted
      rw [List.concat_eq_append] at hs
      rcases List.mem_append.1 ha with ha | ha
      · exact klt_trans ((List.pairwise_append.1 hs).2.2 a ha y (by simp)) h1
      · rw [List.mem_singleton] at ha
        subst ha
        exact h1
  · rcases List.mem_append.1 hy with hy | hy
    · exact h.fixed y hy
    · rw [List.mem_singleton] at hy
      subst hy
      exact hf
  · rcases List.mem_append.1 hy with hy | hy
    · exact h.short y hy
    · rw [List.mem_singleton] at hy
      subst hy
      exact hx
theorem wrsN_len (q : List W3) : q.length ≤ wrsN q := by
  induction q with
  | nil => exact Nat.le_refl _
  | cons x t ih =>
    have e : wrsN (x :: t) = wrN x + wrsN t := by simp [wrsN]
    rw [e, List.length_cons]
    unfold wrN
    omega
theorem Rdr.stays {gr B : Nat} {r : PR} (h : gr < B) : Stays B (fun u => Rdr u gr r) := fun w w' row hr hg hk => Rdr.grown hr hg (fun k e => by have := hk k e; omega)
theorem Rdr.lt {w : World} {g : Nat} {r : PR} (h : Rdr w g r) : g < w.heap.size := by
  obtain ⟨A, c, hb, _⟩ := h
  exact hb.lt
theorem OW.far {w0 w w' : World} {B gN : Nat} {RP : World → Prop} {T : TypeId} {nc : Array Value} {rows : List ORow} (h : OW w0 B RP gN T nc rows w) (hs : Stays B RP) {k : Nat} (hg : w.grownBy w' (some k)) (hk : B ≤ k) (hgN : gN ≠ k) (hne : ∀ (i : Nat) (r : ORow), rows[i]? = some r → r.v.ownBlock ≠ some k) (hw : w0.heap.size ≤ k) : OW w0 B RP gN T nc rows w' :=
  ⟨h.ext.grown_ hg (fun j e => by cases e; exact hw), hs w w' _ h.rd hg (fun j e => by cases e; exact hk), h.nod.grown hg (fun e => hgN (Option.some.inj e)), fun i r hi => World.ownsRow.kept (h.own i r hi) hg (.inr (hne i r hi)), h.apart, Nat.le_trans h.hB hg.size⟩
end Go.Proofs.Ytnggdkpaofbaaaa

/- Rows of slices of bytes of the call's own: append onto them. -/
import Derived.Test.YtfjponmpjofbkaaDoorAppend
namespace Go.Proofs.YtfjponmpjofbkaaDoor
open Go.RowKit
set_option linter.unusedVariables false

/-- Values that read as slices of bytes. -/
def Reads (w : World) (ps : List Value) (xs : List (List UInt8)) : Prop := ps.length = xs.length ∧ ∀ (i : Nat) v x, ps[i]? = some v → xs[i]? = some x → BS w v x
theorem Reads.nil (w : World) : Reads w [] [] := ⟨rfl, fun i v x h => by simp at h⟩
theorem Reads.ext {w w' : World} {ps : List Value} {xs : List (List UInt8)} (h : Reads w ps xs) (k : Ext w w') : Reads w' ps xs := ⟨h.1, fun i v x hv hx => (h.2 i v x hv hx).ext k⟩
theorem Reads.append {w : World} {ps qs : List Value} {xs ys : List (List UInt8)} (h : Reads w ps xs) (k : Reads w qs ys) : Reads w (ps ++ qs) (xs ++ ys) := by
  refine ⟨by rw [List.length_append, List.length_append, h.1, k.1], fun i v x hv hx => ?_⟩
  by_cases hi : i < ps.length
  · rw [List.getElem?_append_left hi] at hv
    rw [List.getElem?_append_left (by rw [← h.1]; exact hi)] at hx
    exact h.2 i v x hv hx
  · rw [List.getElem?_append_right (by omega)] at hv
    rw [List.getElem?_append_right (by rw [← h.1]; omega), ← h.1] at hx
    exact k.2 _ v x hv hx
theorem Reads.one {w : World} {v : Value} {x : List UInt8} (h : BS w v x) : Reads w [v] [x] := by
  refine ⟨rfl, fun i u y hu hy => ?_⟩
  match i with
  | 0 =>
    simp at hu hy; subst hu hy; exact h
  | n + 1 => simp at hu
theorem Reads.two {w : World} {v u : Value} {x y : List UInt8} (h : BS w v x) (k : BS w u y) : Reads w [v, u] [x, y] := (Reads.one h).append (Reads.one k)
theorem Reads.bss {w : World} {a : Option Addr} {ps : List Value} {xs : List (List UInt8)} (h : Reads w ps xs) (hc : Cells w a ps) : BSs w a xs := by
  intro i bs hi
  have hlt : i < xs.length := (List.getElem?_eq_some_iff.1 hi).1
  have hp : ps[i]? = some (ps[i]'(by rw [h.1]; exact hlt)) := List.getElem?_eq_getElem _
  obtain ⟨x, e, hcc⟩ := hc i _ hp
  exact ⟨x, _, e, hcc, h.2 i _ _ hp hi⟩
theorem BS.nil (w : World) : BS w (.slice none 0 0) [] := ⟨none, 0, rfl, Nat.le_refl _, Cells.nil _ _⟩
theorem Reads.one_cell {w : World} {ps : List Value} {xs : List (List UInt8)} (h : Reads w ps xs) : ∀ u ∈ ps, u.oneCell' = true := by
  intro u hu
  obtain ⟨i, hi, rfl⟩ := List.getElem_of_mem hu
  have hlt : i < xs.length := by rw [← h.1]; exact hi
  obtain ⟨a, c, e, _, _⟩ := h.2 i _ _ (List.getElem?_eq_getElem hi) (List.getElem?_eq_getElem hlt)
  rw [e]; rfl

/-- A row of slices of bytes of the call's own. -/
def OwnR (B : Nat) (w : World) (v : Value) (ps : List Value) : Prop := w.ownsRow B 24 1 v ps.length ps
theorem OwnR.nil (B : Nat) (w : World) : OwnR B w (.slice none 0 0) [] := World.ownsRow_nil w B _ 1
theorem OwnR.form {B : Nat} {w : World} {v : Value} {ps : List Value} (h : OwnR B w v ps) : ∃ A c, v = .slice A ps.length c ∧ ps.length ≤ c ∧ c ≤ maxLen ∧ Cells w A ps := own_form h (by decide)
theorem OwnR.form_at {B : Nat} {w : World} {v : Value} {ps : List Value} {N : Nat} (h : OwnR B w v ps) (hn : ps.length = N) : ∃ A c, v = .slice A N c ∧ N ≤ c ∧ c ≤ maxLen ∧ Cells w A ps := by
  subst hn; exact h.form
theorem OwnR.ext {B : Nat} {w w' : World} {v : Value} {ps : List Value} (h : OwnR B w v ps) (k : Ext w w') : OwnR B w' v ps := own_ext h k
theorem OwnR.grows {w0 w w' : World} {v : Value} {ps : List Value} (h : OwnR w0.heap.size w v ps) (k : Ext w0 w) (hg : w.grownBy w' v.ownBlock) : Ext w0 w' := k.grown h hg
theorem sl_info : (Tryd.prog.info? 24).map (fun i => (i.zero, i.size, i.bytes)) = some (some (.slice none 0 0), 1, 24) := by kernel_rfl

theorem wpList_append_row (w : World) {ops : Array Oper} {rest : List Oper} {o : Oper} {a : Act} {Q : Exit → Act → World → Prop} (hgd : o.guard = none) (s x : Operand)
    (ho : o.op = .call { callee := .builtin .append, args := #[s, x], argTypes := #[22, 22] })
    (B : Nat) (v : Value) (ps : List Value) (hs : a.eval s = v) (hown : OwnR B w v ps)
    (A : Option Addr) (m c : Nat) (qs : List Value) (hx : a.eval x = .slice A m c) (hm : qs.length = m) (hr : Cells w A qs) (h1 : ∀ u ∈ qs, u.oneCell' = true)
    (hlen : ps.length + m ≤ 1048576) (hbase : B ≤ w.heap.size)
    (h : ∀ v' w', OwnR B w' v' (ps ++ qs) → w.grownBy w' v.ownBlock → wpList Tryd.prog ops Q rest (a.put o.dst v') w') : wpList Tryd.prog ops Q (o :: rest) a w := by
  subst hm
  refine wpList_plain hgd fun _ hK => wp_append w s x 22 ho B 24 (.slice none 0 0) 1 24 Tryd.underlying22 sl_info rfl (by decide) v ps.length ps hs hown A qs.length c qs hx
    (by rw [Nat.mul_one]) hr h1 (by simp only [maxLen]; omega) (by omega) hbase ?_
  intro v' w' ho' hg _
  refine hK _ _ (h v' w' ?_ hg)
  unfold OwnR
  rw [List.length_append]
  exact ho'
end Go.Proofs.YtfjponmpjofbkaaDoor

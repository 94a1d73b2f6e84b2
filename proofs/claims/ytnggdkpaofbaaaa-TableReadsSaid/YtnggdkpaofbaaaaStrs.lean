/- Rows of strings of the call's own: append onto them. -/
import Derived.Test.YtnggdkpaofbaaaaAppend
namespace Go.Proofs.Ytnggdkpaofbaaaa
open Go.RowKit
set_option linter.unusedVariables false

/-- Strings as values. -/
def sv (xs : List (List UInt8)) : List Value := xs.map fun x => .string (bstr x)
theorem sv_length (xs : List (List UInt8)) : (sv xs).length = xs.length := by simp [sv]
theorem sv_append (a b : List (List UInt8)) : sv (a ++ b) = sv a ++ sv b := by simp [sv]
theorem sv_get {xs : List (List UInt8)} {i : Nat} (h : i < xs.length) : (sv xs)[i]? = some (.string (bstr xs[i])) := by simp [sv, h]
theorem sv_one (xs : List (List UInt8)) : ∀ u ∈ sv xs, u.oneCell' = true := by
  intro u hu
  obtain ⟨c, _, rfl⟩ := List.mem_map.1 hu
  rfl
theorem sv_of (xs : List ByteArray) : xs.map Value.string = sv (xs.map fun s => s.data.toList) := by
  simp [sv, bstr_of]
theorem Cells.str {w : World} {a : Option Addr} {xs : List (List UInt8)} (h : Cells w a (sv xs)) {i : Nat} (hi : i < xs.length) :
    ∃ x, a = some x ∧ w.cell? (x.add i) = some (.string (bstr xs[i])) := h i _ (sv_get hi)

/-- A row of strings of the call's own. -/
def OwnS (B : Nat) (w : World) (v : Value) (xs : List (List UInt8)) : Prop := w.ownsRow B 9 1 v xs.length (sv xs)
theorem OwnS.nil (B : Nat) (w : World) : OwnS B w (.slice none 0 0) [] := World.ownsRow_nil w B _ 1
theorem OwnS.form {B : Nat} {w : World} {v : Value} {xs : List (List UInt8)} (h : OwnS B w v xs) : ∃ A c, v = .slice A xs.length c ∧ xs.length ≤ c ∧ c ≤ maxLen ∧ Cells w A (sv xs) := own_form h (by decide)
theorem OwnS.form_at {B : Nat} {w : World} {v : Value} {xs : List (List UInt8)} {N : Nat} (h : OwnS B w v xs) (hn : xs.length = N) : ∃ A c, v = .slice A N c ∧ N ≤ c ∧ c ≤ maxLen ∧ Cells w A (sv xs) := by
  subst hn; exact h.form
theorem OwnS.ext {B : Nat} {w w' : World} {v : Value} {xs : List (List UInt8)} (h : OwnS B w v xs) (k : Ext w w') : OwnS B w' v xs := own_ext h k
theorem OwnS.lower {B B' : Nat} {w : World} {v : Value} {xs : List (List UInt8)} (h : OwnS B w v xs) (hb : B' ≤ B) : OwnS B' w v xs := own_lower h hb
theorem OwnS.grows {w0 w w' : World} {v : Value} {xs : List (List UInt8)} (h : OwnS w0.heap.size w v xs) (k : Ext w0 w) (hg : w.grownBy w' v.ownBlock) : Ext w0 w' := k.grown h hg
theorem str_info : (Try.prog.info? 9).map (fun i => (i.zero, i.size, i.bytes)) = some (some (.string ByteArray.empty), 1, 16) := by kernel_rfl

theorem wp_append_strs (w : World) {o : Oper} {a : Act} {K : Act → World → Prop} {Q : Exit → Act → World → Prop} (s x : Operand)
    (ho : o.op = .call { callee := .builtin .append, args := #[s, x], argTypes := #[97, 97] })
    (B : Nat) (v : Value) (xs : List (List UInt8)) (hs : a.eval s = v) (hown : OwnS B w v xs)
    (A : Option Addr) (m c : Nat) (ys : List (List UInt8)) (hx : a.eval x = .slice A m c) (hm : ys.length = m) (hr : Cells w A (sv ys))
    (hlen : xs.length + m ≤ 8796093022208) (hbase : B ≤ w.heap.size)
    (h : ∀ v' w', OwnS B w' v' (xs ++ ys) → w.grownBy w' v.ownBlock → K (a.put o.dst v') w') : o.wp Try.prog a w K Q := by
  subst hm
  refine wp_append w s x 97 ho B 9 (.string ByteArray.empty) 1 16 Try.underlying97 str_info rfl (by decide) v xs.length (sv xs) hs hown A ys.length c (sv ys) hx
    (by rw [sv_length, Nat.mul_one]) hr (sv_one ys) (by simp only [maxLen]; omega) (by omega) hbase ?_
  intro v' w' ho' hg _
  refine h v' w' ?_ hg
  unfold OwnS
  rw [sv_append, List.length_append]
  exact ho'
theorem wpList_append_strs (w : World) {ops : Array Oper} {rest : List Oper} {o : Oper} {a : Act} {Q : Exit → Act → World → Prop} (hgd : o.guard = none) (s x : Operand)
    (ho : o.op = .call { callee := .builtin .append, args := #[s, x], argTypes := #[97, 97] })
    (B : Nat) (v : Value) (xs : List (List UInt8)) (hs : a.eval s = v) (hown : OwnS B w v xs)
    (A : Option Addr) (m c : Nat) (ys : List (List UInt8)) (hx : a.eval x = .slice A m c) (hm : ys.length = m) (hr : Cells w A (sv ys))
    (hlen : xs.length + m ≤ 8796093022208) (hbase : B ≤ w.heap.size)
    (h : ∀ v' w', OwnS B w' v' (xs ++ ys) → w.grownBy w' v.ownBlock → wpList Try.prog ops Q rest (a.put o.dst v') w') : wpList Try.prog ops Q (o :: rest) a w :=
  wpList_plain hgd fun _ hK => wp_append_strs w s x ho B v xs hs hown A m c ys hx hm hr hlen hbase fun v' w' h2 h3 => hK _ _ (h v' w' h2 h3)
end Go.Proofs.Ytnggdkpaofbaaaa

/- The reference's Ask: what it answers, in every case. -/
import Derived.Test.YthleaofgodkehaaRefAsk
namespace Go.Proofs.Ythleaofgodkehaa
open Go.RowKit
set_option linter.unusedVariables false

theorem rask_calls (B m : Nat) (q : Option Nat) (fs : List UInt8) (ls : List ByteArray) (k : Nat) (w : World) (h : RNetAt B w m q fs ls k) (hk : k < 1000000) (hB : B ≤ w.heap.size) (hls : ls.length ≤ 100000) (o : Option ByteArray) (ho : ∀ s, o = some s → s.size ≤ 140737488351232) :
    RAskC B m q k w (o.getD ByteArray.empty) o.isSome (askP fs ls o).1 (askP fs ls o).2.1 (askP fs ls o).2.2 := by
  by_cases h1 : (fs.headD 0).toNat % 2 = 1
  · have e : askP fs ls o = (fs.tail, ls, none) := if_pos h1
    rw [e]
    exact rask_odd B m q fs ls k w h hk hB h1 _ _
  cases o with
  | none =>
    have e : askP fs ls none = (fs.tail, ls, none) := if_neg h1
    rw [e]
    exact rask_none B m q fs ls k w h hk hB h1 _
  | some s =>
    have e : askP fs ls (some s) = goP fs.tail ls s := if_neg h1
    rw [e]
    show RAskC B m q k w s true (goP fs.tail ls s).1 (goP fs.tail ls s).2.1 (goP fs.tail ls s).2.2
    have h6 : (fs.tail.headD 0).toNat % 6 < 6 := Nat.mod_lt _ (by omega)
    have hc : (fs.tail.headD 0).toNat % 6 = 0 ∨ (fs.tail.headD 0).toNat % 6 = 1 ∨ (fs.tail.headD 0).toNat % 6 = 2 ∨ (fs.tail.headD 0).toNat % 6 = 3 ∨ (fs.tail.headD 0).toNat % 6 = 4 ∨ (fs.tail.headD 0).toNat % 6 = 5 := by omega
    rcases hc with h2 | h2 | h2 | h2 | h2 | h2
    · have e : goP fs.tail ls s = (fs.tail.tail, ls, some s) := by unfold goP; rw [if_neg (by omega), if_neg (by omega), if_neg (by omega), if_neg (by omega), if_neg (by omega)]
      rw [e]
      exact rask_plain B m q fs ls k w h hk hB h1 s h2
    · have e : goP fs.tail ls s = (fs.tail.tail, ls, none) := by unfold goP; rw [if_pos h2]
      rw [e]
      exact rask_lost B m q fs ls k w h hk hB h1 s h2
    · by_cases hs : s.size = 0
      · have e : goP fs.tail ls s = (fs.tail.tail, ls, none) := by unfold goP; rw [if_neg (by omega), if_pos h2, if_pos hs]
        rw [e]
        have hs0 : s = ByteArray.empty := by
          have hl : s.data.toList = [] := List.eq_nil_of_length_eq_zero (by rw [str_len]; exact hs)
          rw [← bstr_of s, hl]
          rfl
        subst hs0
        exact rask_turn0 B m q fs ls k w h hk hB h1 h2
      · have e : goP fs.tail ls s = (fs.tail.tail, ls, some (turnB s (fs.tail.headD 0))) := by unfold goP; rw [if_neg (by omega), if_pos h2, if_neg hs]
        rw [e]
        exact rask_turn B m q fs ls k w h hk hB h1 s h2 hs (ho s rfl)
    · have e : goP fs.tail ls s = (fs.tail.tail, ls ++ [s], none) := by unfold goP; rw [if_neg (by omega), if_neg (by omega), if_pos h2]
      rw [e]
      exact rask_late B m q fs ls k w h hk hB h1 s h2 hls
    · have e : goP fs.tail ls s = (fs.tail.tail, (ls ++ [s]).tail, (ls ++ [s]).head?) := by unfold goP; rw [if_neg (by omega), if_neg (by omega), if_neg (by omega), if_pos h2]
      rw [e]
      exact rask_elder B m q fs ls k w h hk hB h1 s h2 hls
    · have e : goP fs.tail ls s = (fs.tail.tail, ls ++ [s], some s) := by unfold goP; rw [if_neg (by omega), if_neg (by omega), if_neg (by omega), if_neg (by omega), if_pos h2]
      rw [e]
      exact rask_twice B m q fs ls k w h hk hB h1 s h2 hls
/-- The reference's Ask, what comes being told. -/
theorem rask_told {B m : Nat} {q : Option Nat} {fs : List UInt8} {ls : List ByteArray} {k : Nat} {w : World} {o : Option ByteArray} {fs' : List UInt8} {ls' : List ByteArray} {r : Option ByteArray} {D S : ByteArray} {H T : Bool}
    (h : RNetAt B w m q fs ls k) (hk : k < 1000000) (hB : B ≤ w.heap.size) (hls : ls.length ≤ 100000) (ho : ∀ s, o = some s → s.size ≤ 140737488351232) (hD : D = o.getD ByteArray.empty) (hH : H = o.isSome) (hR : askP fs ls o = (fs', ls', r)) (hS : S = r.getD ByteArray.empty) (hT : T = r.isSome) :
    Calls Try.prog 15 #[.pointer (some ⟨m, 0, none⟩), .string D, .bool H] w fun e w' => ∃ r', e = .returned (.tuple #[.string S, .bool T]) ∧ RNetAt B w' m r' fs' ls' (k + 1) ∧ w.grownBy w' (some m) ∧ (r' = q ∨ ∃ j, r' = some j ∧ w.heap.size ≤ j) := by
  have h := rask_calls B m q fs ls k w h hk hB hls o ho
  rw [hR] at h
  subst hS hT hD hH
  exact h
theorem Apart.freshL {w : World} {p q p' : Option Nat} (h : Apart p q) (hq : ∀ j, q = some j → j < w.heap.size) (hp : p' = p ∨ ∃ j, p' = some j ∧ w.heap.size ≤ j) : Apart p' q := by
  intro j hj e
  rcases hp with e1 | ⟨i, e1, l⟩
  · exact h j (by rw [← e1]; exact hj) e
  · rw [e1] at hj
    cases hj
    have := hq j e.symm
    omega
theorem at1_mem (x : List UInt8) : ∀ (L : List Ent1) (s : ByteArray), at1 x L = some s → ∃ p ∈ L, p.2 = s := by
  intro L s h
  unfold at1 at h
  obtain ⟨p, hp, e⟩ := Option.map_eq_some_iff.1 h
  exact ⟨p, List.mem_of_find?_eq_some hp, e⟩
theorem put1_mem (x : List UInt8) (s : ByteArray) : ∀ (L : List Ent1) (p : Ent1), p ∈ put1 x s L → p.2 = s ∨ p ∈ L
  | [], p, h => by
    simp only [put1, List.mem_singleton] at h
    exact .inl (by rw [h])
  | q :: L, p, h => by
    simp only [put1] at h
    split at h
    · rcases List.mem_cons.1 h with rfl | h
      · exact .inl rfl
      · exact .inr (List.mem_cons_of_mem _ h)
    · rcases List.mem_cons.1 h with rfl | h
      · exact .inr (List.mem_cons_self ..)
      · exact (put1_mem x s L p h).imp id (List.mem_cons_of_mem _)
theorem putAll_size (K : Nat) : ∀ (os L : List Ent1), (∀ p ∈ os, p.2.size ≤ K) → (∀ p ∈ L, p.2.size ≤ K) → ∀ p ∈ putAll os L, p.2.size ≤ K
  | [], L, _, h => h
  | o :: os, L, h1, h2 => putAll_size K os _ (fun p hp => h1 p (List.mem_cons_of_mem _ hp)) (fun p hp => by
    rcases put1_mem _ _ _ _ hp with e | e
    · rw [e]; exact h1 o (List.mem_cons_self ..)
    · exact h2 p e)
end Go.Proofs.Ythleaofgodkehaa

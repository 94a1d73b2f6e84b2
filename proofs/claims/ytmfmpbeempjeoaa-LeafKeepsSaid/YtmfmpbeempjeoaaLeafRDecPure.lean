/- Layer 7 in plain Lean: what ends the reading of a node. -/
import Derived.Test.YtmfmpbeempjeoaaLeafDecAll
namespace Go.Proofs.Ytmfmpbeempjeoaa
set_option linter.unusedVariables false

theorem fail_uint : PR.fail.uint = (0, PR.fail) := rfl
theorem fail_text (m : Int) : PR.fail.text m = ([], PR.fail) := by
  unfold PR.text
  split
  · rfl
  · rw [fail_uint]
    unfold PR.take
    rw [if_pos (.inl rfl)]
theorem PR.Ok.text_stays {r : PR} (h : r.Ok) (hb : r.bad = true) (m : Int) : (r.text m).2.bad = true := by
  rw [h.eq hb, fail_text]; rfl
theorem PR.Ok.uint_stays {r : PR} (h : r.Ok) (hb : r.bad = true) : r.uint.2.bad = true := by
  rw [h.eq hb, fail_uint]; rfl
theorem dpairs_ok (l : Bool) {r : PR} (h : r.Ok) (k : Nat) : (dpairs l r k).r.Ok := by
  induction k with
  | zero => exact h
  | succ k ih =>
    cases l with
    | true => exact (ih.text 48).text 160
    | false => exact ih.text 48
theorem dpairs_bad (l : Bool) {r : PR} (h : r.Ok) {j k : Nat} (hjk : j ≤ k) (hb : (dpairs l r j).r.bad = true) : (dpairs l r k).r.bad = true := by
  induction k with
  | zero => obtain rfl : j = 0 := by omega
            exact hb
  | succ k ih =>
    by_cases e : j = k + 1
    · subst e; exact hb
    · have h1 := ih (by omega)
      have ho := dpairs_ok l h k
      cases l with
      | true => exact (ho.text 48).text_stays (ho.text_stays h1 48) 160
      | false => exact ho.text_stays h1 48
theorem dkids_ok {r : PR} (h : r.Ok) (k : Nat) : (dkids r k).r.Ok := by
  induction k with
  | zero => exact h
  | succ k ih => exact ih.uint
theorem dkids_bad {r : PR} (h : r.Ok) {j k : Nat} (hjk : j ≤ k) (hb : (dkids r j).r.bad = true) : (dkids r k).r.bad = true := by
  induction k with
  | zero => obtain rfl : j = 0 := by omega
            exact hb
  | succ k ih =>
    by_cases e : j = k + 1
    · subst e; exact hb
    · exact (dkids_ok h k).uint_stays (ih (by omega))
theorem decTail_bad (l : Bool) {r : PR} (h : r.Ok) {j cnt : Nat} (hj : j ≤ cnt) (hb : (dpairs l r j).r.bad = true) : decTail l cnt r = none := by
  have h1 := dpairs_bad l h hj hb
  unfold decTail
  cases l with
  | true => simp [h1]
  | false =>
    have h2 : (dkids (dpairs false r cnt).r (cnt + 1)).r.bad = true := dkids_bad (dpairs_ok false h cnt) (Nat.zero_le _) h1
    simp [h2]
theorem decTail_badk {r : PR} (h : r.Ok) {j cnt : Nat} (hj : j ≤ cnt + 1) (hb : (dkids (dpairs false r cnt).r j).r.bad = true) : decTail false cnt r = none := by
  have h2 := dkids_bad (dpairs_ok false h cnt) hj hb
  unfold decTail
  simp [h2]
theorem dkids_mem (r : PR) {j k : Nat} (hjk : j < k) : ((min (dkids r j).r.uint.1 4096 : Nat) : Int) ∈ (dkids r k).ds := by
  induction k with
  | zero => omega
  | succ k ih =>
    show _ ∈ (dkids r k).ds ++ [((min (dkids r k).r.uint.1 4096 : Nat) : Int)]
    by_cases e : j = k
    · subst e; simp
    · exact List.mem_append_left _ (ih (by omega))
theorem decTail_far {r : PR} {j cnt : Nat} (hj : j ≤ cnt) (hb : 4095 < (dkids (dpairs false r cnt).r j).r.uint.1) : decTail false cnt r = none := by
  have hm := dkids_mem (dpairs false r cnt).r (j := j) (k := cnt + 1) (by omega)
  rw [Nat.min_eq_right (by omega)] at hm
  have hg : Nd.good ⟨false, (dpairs false r cnt).ks, (dpairs false r cnt).vs, (dkids (dpairs false r cnt).r (cnt + 1)).ds⟩ = false := by
    have hk : Nd.kidsOk ⟨false, (dpairs false r cnt).ks, (dpairs false r cnt).vs, (dkids (dpairs false r cnt).r (cnt + 1)).ds⟩ = false := by
      unfold Nd.kidsOk
      rw [List.all_eq_false]
      exact ⟨_, hm, by decide⟩
    unfold Nd.good
    rw [hk]
    simp
  unfold decTail
  simp [hg]
end Go.Proofs.Ytmfmpbeempjeoaa

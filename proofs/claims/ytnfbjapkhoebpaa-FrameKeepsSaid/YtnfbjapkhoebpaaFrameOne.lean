/- The walks of frame.One, of the reference's Same, of the laws' great. -/
import Derived.Test.YtnfbjapkhoebpaaFrameSplit
namespace Go.Proofs.Ytnfbjapkhoebpaa
open Go.RowKit
set_option linter.unusedVariables false

/-- What One answers. -/
def oneB (bs : List UInt8) : Option (List UInt8) :=
  match nextB bs with
  | none => none
  | some (x, m) => if m = bs.length then some x else none
def oneV : Option (List UInt8) → Value
  | none => .tuple #[.string ByteArray.empty, .bool false]
  | some x => .tuple #[.string (bstr x), .bool true]
theorem oneB_split (bs : List UInt8) : (∀ x, oneB bs = some x ↔ splitB bs = ([x], [])) := by
  intro x
  unfold oneB
  cases h : nextB bs with
  | none =>
    rw [splitB_none h]
    simp
  | some p =>
    obtain ⟨y, m⟩ := p
    have hp := nextB_pos h
    rw [splitB_some h]
    simp only []
    by_cases hm : m = bs.length
    · rw [if_pos hm, hm, List.drop_length, splitB_none nextB_nil]
      simp
    · rw [if_neg hm]
      simp only [reduceCtorEq, false_iff]
      intro he
      injection he with h1 h2
      injection h1 with h3 h4
      cases hr : nextB (bs.drop m) with
      | none =>
        rw [splitB_none hr] at h2
        have := congrArg List.length h2
        rw [List.length_drop] at this
        simp at this
        omega
      | some q =>
        rw [splitB_some (x := q.1) (n := q.2) hr] at h4
        cases h4
theorem oneB_fr (s : List UInt8) (h : s.length < 2 ^ 64) : oneB (fr s) = some s := by
  have := nextB_fr s [] h
  rw [List.append_nil] at this
  unfold oneB
  rw [this]
  simp

set_option maxRecDepth 50000 in
set_option maxHeartbeats 1000000 in
theorem fone_calls (A : Option Addr) (n c : Nat) (bs : List UInt8) (w : World) (hb : Cells w A (bv bs)) (hn : bs.length = n) (hc : n ≤ c) (hl : n ≤ 140737488350000) :
    Calls Try.prog 15 #[.slice A n c] w fun e w' => e = .returned (oneV (oneB bs)) ∧ Ext w w' := by
  have hnx := fnext_calls A n c bs w hb hn hc hl
  unfold oneB
  cases hnb : nextB bs with
  | none =>
    rw [hnb] at hnx
    clear hnb
    go_enter Try.func15, Try.ntmps15
    go_wp2_with (go_at_call 20; refine hnx.mono ?_; rintro e w2 ⟨rfl, hx2⟩; simp only [nextV])
    go_ret2
    exact ⟨rfl, hx2⟩
  | some p =>
    obtain ⟨x, m⟩ := p
    rw [hnb] at hnx
    simp only []
    clear hnb
    rw [hn]
    by_cases hm : m = n
    · rw [if_pos hm]
      subst hm
      have hne : (((m : Int) != (m : Int)) : Bool) = false := by simp
      go_enter Try.func15, Try.ntmps15
      go_wp2_with (go_at_call 20; refine hnx.mono ?_; rintro e w2 ⟨rfl, hx2⟩; simp only [nextV])
      go_ret2
      exact ⟨rfl, hx2⟩
    · rw [if_neg hm]
      have hne : (((m : Int) != (n : Int)) : Bool) = true := by rw [bne_iff_ne]; omega
      have hne2 : (((m : Int) == (n : Int)) : Bool) = false := by rw [beq_eq_false_iff_ne]; omega
      go_enter Try.func15, Try.ntmps15
      go_wp2_with (go_at_call 20; refine hnx.mono ?_; rintro e w2 ⟨rfl, hx2⟩; simp only [nextV])
      go_ret2
      exact ⟨rfl, hx2⟩

set_option maxRecDepth 50000 in
set_option maxHeartbeats 1000000 in
theorem fsame_calls (A B : Option Addr) (n m c d : Nat) (xs ys : List (List UInt8)) (w : World) (ha : Cells w A (sv xs)) (hb : Cells w B (sv ys)) (hn : xs.length = n) (hm : ys.length = m) (hl : n ≤ 140737488350000) (hl2 : m ≤ 140737488350000) :
    Calls Try.prog 16 #[.slice A n c, .slice B m d] w fun e w' => e = .returned (.bool (decide (xs = ys))) ∧ Ext w w' := by
  by_cases hnm : n = m
  · subst hnm
    go_enter Try.func16, Try.ntmps16
    go_wp2
    go_loopw [13] (fun i wr => ∃ k : Nat, k ≤ n ∧ i = .int .i64 k ∧ Aside (xs.take k = ys.take k) ∧ Ext w wr) (fun i _ => n - (intOf i).toNat)
    case atStart => exact ⟨0, Nat.zero_le _, rfl, rfl, Ext.refl _⟩
    case round =>
      obtain ⟨k, hk, rfl, hA, hx⟩ := hrel
      by_cases hlt : k < n
      · obtain ⟨x, hxa, cx⟩ := (ha.ext hx).str (i := k) (by omega)
        obtain ⟨y, hyb, cy⟩ := (hb.ext hx).str (i := k) (by omega)
        subst hxa hyb
        obtain ⟨s, hs⟩ : ∃ s, s = xs[k]'(by omega) := ⟨_, rfl⟩
        obtain ⟨t, ht⟩ : ∃ t, t = ys[k]'(by omega) := ⟨_, rfl⟩
        rw [← hs] at cx
        rw [← ht] at cy
        have hst := str_beq s t
        by_cases he : s = t
        · subst he
          rw [decide_eq_true rfl] at hst
          have HT : Aside (xs.take (k + 1) = ys.take (k + 1)) := by
            show _ = _
            rw [List.take_succ_eq_append_getElem (by omega), List.take_succ_eq_append_getElem (by omega), hA.out, ← hs, ← ht]
          clear hs ht
          go_wp2
          go_region
          go_wp2
          go_roundw
          case rel => exact ⟨k + 1, by omega, by go_num, HT, hx.drewN 1⟩
          case measure => simp [intOf]; omega
        · rw [decide_eq_false he] at hst
          have hne : decide (xs = ys) = false := by
            rw [decide_eq_false_iff_not]
            rintro rfl
            exact he (hs.trans ht.symm)
          have HNE := Lib.hid hne
          clear hs ht hne
          go_wp2
          go_region
          go_wp2
          go_ret
          exact ⟨ret_bool HNE.out.symm, hx.drewN 1⟩
      · obtain rfl : k = n := by omega
        go_wp2
        go_ret
        have h := hA.out
        rw [List.take_of_length_le (by omega), List.take_of_length_le (by omega)] at h
        exact ⟨ret_bool (decide_eq_true h).symm, hx⟩
  · have hne : decide (xs = ys) = false := by
      rw [decide_eq_false_iff_not]
      rintro rfl
      omega
    have hb1 : (((n : Int) != (m : Int)) : Bool) = true := by rw [bne_iff_ne]; omega
    have hb2 : (((n : Int) == (m : Int)) : Bool) = false := by rw [beq_eq_false_iff_ne]; omega
    rw [hne]
    clear hne
    go_enter Try.func16, Try.ntmps16
    go_wp2
    go_ret
    exact ⟨rfl, Ext.refl _⟩
end Go.Proofs.Ytnfbjapkhoebpaa

/- CodeWrites: the walk of the law. -/
import Derived.Test.YtfohdngnflkfjaaWritten
namespace Go.Proofs.Ytfohdngnflkfjaa
open Go.RowKit
set_option linter.unusedVariables false

theorem uint_nil_calls (m L : Nat) (hL : sizeN m = L) (w : World) (hm : m < 18446744073709551616) :
    Calls Try.prog 11 #[.slice none 0 0, .int .u64 m] w fun e w' => ∃ A c, e = .returned (.slice A L c) ∧ Cells w' A (bv (uintB m)) ∧ Ext w w' := by
  refine (uint_calls none 0 0 [] m w (Cells.nil _ _) rfl (Nat.le_refl _) (by decide) hm).mono ?_
  rintro e w1 ⟨v1, rfl, hown, hx⟩
  rw [List.nil_append] at hown
  obtain ⟨A, c, rfl, _, _, hc⟩ := hown.form_at (n := L) hL
  exact ⟨A, c, rfl, hc, hx⟩

theorem great_yes {xs : List Pt} {n : Nat} (h : ¬ (tot xs ≤ 16384 ∧ n ≤ 200)) : (decide (16384 < tot xs) || decide (200 < n)) = true := by
  rw [Bool.or_eq_true, decide_eq_true_eq, decide_eq_true_eq]; omega
theorem great_no {xs : List Pt} {n : Nat} (h : tot xs ≤ 16384 ∧ n ≤ 200) : (decide (16384 < tot xs) || decide (200 < n)) = false := by
  rw [Bool.or_eq_false_iff, decide_eq_false_iff_not, decide_eq_false_iff_not]; omega

theorem writes_calls (A : Option Addr) (n c : Nat) (xs : List Pt) (m : Nat) (w : World) (h : Pts w A xs) (hn : xs.length = n) (hl : n ≤ 140737488351232) (hm : m < 18446744073709551616) :
    Calls Try.prog 5 #[.slice A n c, .int .u64 m] w fun e w' => e = .returned (.bool true) ∧ Ext w w' := by
  by_cases hg : tot xs ≤ 16384 ∧ n ≤ 200
  · have hgr := great_no hg
    have HM := Lib.hid hm
    have HN := Lib.hid hn
    have HG := Lib.hid hg
    obtain ⟨L, hL0⟩ : ∃ L, sizeN m = L := ⟨_, rfl⟩
    have hL := Lib.hid hL0
    have hz : (bstr (uintB m)).size = L := (bstr_size _).trans hL0
    have HGR := Lib.hid hgr
    clear hm hn hg hL0 hgr
    go_enter Try.func5, Try.ntmps5
    go_wp2_with (first
      | (go_at_call 10; refine (alive_calls _).mono ?_; rintro e w1 ⟨rfl, hx⟩)
      | (go_at_call 19; (with_reducible refine (great_calls A n c xs _ (h.ext hx) HN.out hl).mono ?_); rintro e w2 ⟨rfl, hx2⟩; rw [HGR.out]; replace hx := hx.trans hx2; clear hx2)
      | (go_at_call 20; (with_reducible refine (written_calls A n c xs _ (h.ext hx) HN.out HG.out.2 HG.out.1).mono ?_); rintro e w3 ⟨v3, rfl, hown, hx3⟩; replace hx := hx.trans hx3; clear hx3; obtain ⟨A3, c3, rfl, hl3, hm3, hc3⟩ := hown.form; have hcv := conv_str (P := Try.prog) (c := c3) Try.underlying22 Try.underlying5 Try.underlying9 rfl hc3; clear hown hc3)
      | (go_at_call 18; (with_reducible refine (size_calls m _ HM.out).mono ?_); rintro e w' ⟨rfl, rfl⟩; rw [hL.out])
      | (go_at_call 15; (with_reducible refine (refUint_calls m _ HM.out).mono ?_); rintro e w5 ⟨rfl, hx5⟩; replace hx := hx.trans hx5; clear hx5)
      | (go_at_call 11; (with_reducible refine (uint_nil_calls m L hL.out _ HM.out).mono ?_); rintro e w6 ⟨A6, c6, rfl, hc6, hx6⟩; replace hx := hx.trans hx6; clear hx6))
    go_ret
    exact ⟨rfl, hx⟩
  · have hgr := great_yes hg
    have HN := Lib.hid hn
    have HGR := Lib.hid hgr
    clear hn hg hgr
    go_enter Try.func5, Try.ntmps5
    go_wp2_with (first
      | (go_at_call 10; refine (alive_calls _).mono ?_; rintro e w1 ⟨rfl, hx⟩)
      | (go_at_call 19; (with_reducible refine (great_calls A n c xs _ (h.ext hx) HN.out hl).mono ?_); rintro e w2 ⟨rfl, hx2⟩; rw [HGR.out]; replace hx := hx.trans hx2; clear hx2))
    go_ret
    exact ⟨rfl, hx⟩
end Go.Proofs.Ytfohdngnflkfjaa

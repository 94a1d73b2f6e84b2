/- CodeOrders: the walk of the law. -/
import Derived.Test.YtfohdngnflkfjaaCodeLaw
import Derived.Deep.QuietTactic
import Derived.BigQuiet
namespace Go.Proofs.Ytfohdngnflkfjaa
open Go.RowKit
set_option linter.unusedVariables false

theorem xor_pair : ∀ k : Fin 128, bits .xor .u8 (((2 * k.val : Nat)) : Int) (((2 * k.val + 1 : Nat)) : Int) = 1 ∧ bits .xor .u8 (((2 * k.val + 1 : Nat)) : Int) (((2 * k.val : Nat)) : Int) = 1 := by decide +kernel

theorem uint_pair (k : Nat) : ∃ c0 c1 t, uintB (2 * k) = c0 :: t ∧ uintB (2 * k + 1) = c1 :: t ∧ bits .xor .u8 (c0.toNat : Int) (c1.toNat : Int) = 1 ∧ bits .xor .u8 (c1.toNat : Int) (c0.toNat : Int) = 1 := by
  by_cases h : k < 64
  · refine ⟨_, _, _, uintB_lt (by omega), uintB_lt (by omega), ?_⟩
    rw [ofNat_small (by omega), ofNat_small (by omega)]
    exact xor_pair ⟨k, by omega⟩
  · refine ⟨UInt8.ofNat (2 * k % 128 + 128), UInt8.ofNat ((2 * k + 1) % 128 + 128), uintB (2 * k / 128), uintB_ge (by omega), ?_, ?_⟩
    · rw [uintB_ge (by omega)]
      have : (2 * k + 1) / 128 = 2 * k / 128 := by omega
      rw [this]
    · rw [ofNat_small (by omega), ofNat_small (by omega)]
      have h1 : 2 * k % 128 + 128 = 2 * (k % 64 + 64) := by omega
      have h2 : (2 * k + 1) % 128 + 128 = 2 * (k % 64 + 64) + 1 := by omega
      rw [h1, h2]
      exact xor_pair ⟨k % 64 + 64, by omega⟩

theorem int_pair (n : Int) : ∃ c0 c1 t, intB n = c0 :: t ∧ intB (-n - 1) = c1 :: t ∧ bits .xor .u8 (c0.toNat : Int) (c1.toNat : Int) = 1 := by
  unfold intB zig
  by_cases h : 0 ≤ n
  · rw [if_pos h, if_neg (by omega)]
    obtain ⟨c0, c1, t, h0, h1, h2, h3⟩ := uint_pair n.toNat
    refine ⟨c0, c1, t, ?_, ?_, h2⟩
    · rw [← h0]; congr 1; omega
    · rw [← h1]; congr 1; omega
  · rw [if_neg h, if_pos (by omega)]
    obtain ⟨c0, c1, t, h0, h1, h2, h3⟩ := uint_pair (-n - 1).toNat
    refine ⟨c1, c0, t, ?_, ?_, h3⟩
    · rw [← h1]; congr 1; omega
    · rw [← h0]; congr 1; omega

/-- Int's answer on nil, its first byte laid open. -/
theorem int_nil_calls (m : Int) (c0 : UInt8) (t : List UInt8) (hm : intB m = c0 :: t) (L : Nat) (hL : t.length + 1 = L) (w : World) (h0 : -9223372036854775808 ≤ m) (h1 : m ≤ 9223372036854775807) :
    Calls Try.prog 12 #[.slice none 0 0, .int .i64 m] w fun e w' => ∃ g c, e = .returned (.slice (some ⟨g, 0, none⟩) L c) ∧ L ≤ c ∧ Cells w' (some ⟨g, 0, none⟩) (bv (c0 :: t)) ∧ Ext w w' := by
  subst hL
  refine (int_calls none 0 0 [] m w (Cells.nil _ _) rfl (Nat.le_refl _) (by decide) h0 h1).mono ?_
  rintro e w1 ⟨v1, rfl, hown, hx⟩
  rw [List.nil_append, hm] at hown
  obtain ⟨g, c, rfl, _, _, hc⟩ := hown.some_ (by simp)
  exact ⟨g, c, rfl, hc, hown.cells, hx⟩

theorem Cells.tail_ {w : World} {g : Nat} {c : UInt8} {t : List UInt8} (h : Cells w (some ⟨g, 0, none⟩) (bv (c :: t))) : Cells w (some ⟨g, 1, none⟩) (bv t) := by
  intro i v hv
  obtain ⟨x, hx, hc⟩ := h (i + 1) v hv
  cases hx
  refine ⟨_, rfl, ?_⟩
  rw [add_new] at hc
  have e : (⟨g, 1, none⟩ : Addr).add i = ⟨g, i + 1, none⟩ := by
    unfold Addr.add
    split
    · simp_all
    · simp [Nat.add_comm]
  rw [e]
  exact hc
theorem Cells.tail_if {w : World} {g L d : Nat} {c : UInt8} {t : List UInt8} (h : Cells w (some ⟨g, 0, none⟩) (bv (c :: t))) (hL : t.length + 1 = L) (hd : L ≤ d) : Cells w (if d = 1 then some ⟨g, 0, none⟩ else some ⟨g, 1, none⟩) (bv t) := by
  split
  · obtain rfl : t = [] := List.eq_nil_of_length_eq_zero (by omega)
    exact Cells.nil _ _
  · exact h.tail_
theorem orders_calls (a b : Nat) (n : Int) (w : World) (ha : a < 18446744073709551616) (hb : b < 18446744073709551616) (h0 : -9223372036854775808 ≤ n) (h1 : n ≤ 9223372036854775807) :
    Calls Try.prog 4 #[.int .u64 a, .int .u64 b, .int .i64 n] w fun e w' => e = .returned (.bool true) ∧ Ext w w' := by
  obtain ⟨c0, c1, t, e0, e1, hxr⟩ := int_pair n
  have E0 := Lib.hid e0
  obtain ⟨L, hL0⟩ : ∃ L, t.length + 1 = L := ⟨_, rfl⟩
  have hL := Lib.hid hL0
  have b0 : (0 : Int) < (L : Int) := by omega
  have b1 : (1 : Int) ≤ (L : Int) := by omega
  have n0 : decide (0 < L) = true := decide_eq_true (by omega)
  have n1 : 0 < L := by omega
  have n2 : 1 ≤ L := by omega
  have b2 : t.length = L - 1 := by omega
  have B2 := Lib.hid b2
  clear hL0 b2
  have E1 := Lib.hid e1
  have hneg : wrap64 (wrap64 (-n) - 1) = -n - 1 := by unfold wrap64; omega
  have N0 : -9223372036854775808 ≤ -n - 1 := by omega
  have N1 : -n - 1 ≤ 9223372036854775807 := by omega
  have HN := Lib.hid (And.intro N0 N1)
  have HM := Lib.hid (And.intro h0 h1)
  have HA := Lib.hid ha
  have HB := Lib.hid hb
  have hsa : 1 ≤ sizeN a := uintB_pos a
  have hsb : sizeN b ≤ 10 := sizeN_64 (by simpa using hb)
  have hsab : a ≤ b → sizeN a ≤ sizeN b := sizeN_mono
  clear e0 e1 N0 N1 h0 h1 ha hb
  rcases Nat.lt_or_ge b a with hab | hab
  case' inl => have hs := hab
  case' inr => have hs := hsab hab
  all_goals
    clear hsab
    go_enter Try.func4, Try.ntmps4
    go_wp2_with (first
      | (go_at_call 10; refine (alive_calls _).mono ?_; rintro e w1 ⟨rfl, hx1⟩)
      | (go_at_call 18; (with_reducible refine (size_calls a _ HA.out).mono ?_); rintro e w' ⟨rfl, rfl⟩)
      | (go_at_call 18; (with_reducible refine (size_calls b _ HB.out).mono ?_); rintro e w' ⟨rfl, rfl⟩)
      | (go_at_call 12; (with_reducible refine (int_nil_calls n c0 t E0.out L hL.out _ HM.out.1 HM.out.2).mono ?_); rintro e w2 ⟨g2, d2, rfl, hd2, hc2, hx2⟩)
      | (go_at_call 12; (with_reducible refine (int_nil_calls (-n - 1) c1 t E1.out L hL.out _ HN.out.1 HN.out.2).mono ?_); rintro e w3 ⟨g3, d3, rfl, hd3, hc3, hx3⟩))
    have hc2' := hc2.ext hx3
    have k2 : w3.cell? ⟨g2, 0, none⟩ = some (.int .u8 c0.toNat) := by obtain ⟨x, hx, h⟩ := hc2'.byte (i := 0) (by simp); cases hx; exact h
    have k3 : w3.cell? ⟨g3, 0, none⟩ = some (.int .u8 c1.toNat) := by obtain ⟨x, hx, h⟩ := hc3.byte (i := 0) (by simp); cases hx; exact h
    have q2 : ∀ k, (convert 22 9 (.slice (if d2 = 1 then some ⟨g2, 0, none⟩ else some ⟨g2, 1, none⟩) (L - 1) (d2 - 1))).run Try.prog (w3.drewN k) = .ok (.string (bstr t)) (w3.drewN k) := fun k => conv_str (P := Try.prog) Try.underlying22 Try.underlying5 Try.underlying9 B2.out ((hc2'.tail_if hL.out hd2).ext ((Ext.refl w3).drewN k))
    have q3 : ∀ k, (convert 22 9 (.slice (if d3 = 1 then some ⟨g3, 0, none⟩ else some ⟨g3, 1, none⟩) (L - 1) (d3 - 1))).run Try.prog (w3.drewN k) = .ok (.string (bstr t)) (w3.drewN k) := fun k => conv_str (P := Try.prog) Try.underlying22 Try.underlying5 Try.underlying9 B2.out ((hc3.tail_if hL.out hd3).ext ((Ext.refl w3).drewN k))
    have hx := (hx1.trans hx2).trans hx3
    clear hc2 hc2' hc3 hx1 hx2 hx3
    go_quiet (fail)
    (go_wp2; all_goals (go_ret; exact ⟨rfl, hx.drewN _⟩))
end Go.Proofs.Ytfohdngnflkfjaa

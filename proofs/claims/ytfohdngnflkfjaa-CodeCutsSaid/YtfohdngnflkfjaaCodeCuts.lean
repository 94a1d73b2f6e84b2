/- CodeCuts: the walk of the law. -/
import Derived.Test.YtfohdngnflkfjaaCodeLaw
import Derived.Test.YtfohdngnflkfjaaConv
namespace Go.Proofs.Ytfohdngnflkfjaa
open Go.RowKit
set_option linter.unusedVariables false

theorem uint_cut_pr (n : Nat) (h : n < 2 ^ 64) (k : Nat) (hk : k < (uintB n).length) : PR.uint ⟨(uintB n).take k, false⟩ = (0, PR.fail) := by
  unfold PR.uint; rw [uint_cut n h k hk]
theorem take_fail (n : Int) : PR.fail.take n = ([], PR.fail) := by unfold PR.take PR.fail; rw [if_pos (.inl rfl)]
theorem int_fail : PR.fail.int = (0, PR.fail) := rfl
theorem text_cut (s : List UInt8) (h : s.length < 2 ^ 64) (k : Nat) (hk : k < (textB s).length) : PR.text ⟨(textB s).take k, false⟩ s.length = ([], PR.fail) := by
  by_cases hu : k < (uintB s.length).length
  · have e : (textB s).take k = (uintB s.length).take k := by unfold textB; rw [List.take_append_of_le_length (by omega)]
    rw [e]
    exact PR.text_bad _ (by rw [uint_cut_pr _ h k hu]; rfl)
  · have e : (textB s).take k = uintB s.length ++ s.take (k - (uintB s.length).length) := by unfold textB; rw [List.take_append, List.take_of_length_le (by omega)]
    rw [e]
    unfold PR.text
    rw [PR.uint_of _ h]
    simp only
    rw [if_neg (by omega)]
    unfold PR.take
    rw [if_pos]
    refine .inr (.inr ?_)
    unfold textB at hk
    rw [List.length_append] at hk
    show ((s.take _).length : Int) < (s.length : Int)
    rw [List.length_take]
    omega

theorem bv_take (bs : List UInt8) (k : Nat) : (bv bs).take k = bv (bs.take k) := by simp [bv]
theorem blk_ne {g h : Nat} (k : g ≠ h) : ∀ x : Addr, (some (⟨g, 0, none⟩ : Addr)) = some x → x.block ≠ h := by intro x hx; cases hx; exact k
theorem text_cut_s (s : ByteArray) (hs : s.size ≤ 140737488351232) (k : Nat) (hk : k < (textB s.data.toList).length) : PR.text ⟨(textB s.data.toList).take k, false⟩ s.size = ([], PR.fail) := by
  have h := text_cut s.data.toList (by rw [str_len]; omega) k hk
  rw [str_len] at h
  exact h
theorem cuts_calls (m : Nat) (s : ByteArray) (cut : Int) (w : World) (hm : m < 18446744073709551616) (hs : s.size ≤ 140737488351232) :
    Calls Try.prog 6 #[.int .u64 m, .string s, .int .i64 cut] w fun e w' => e = .returned (.bool true) ∧ Ext w w' := by
  have HM := Lib.hid hm
  have HS := Lib.hid hs
  have hu10 : (uintB m).length ≤ 10 := sizeN_64 (by simpa using hm)
  have ht10 : (textB s.data.toList).length ≤ s.size + 10 := by unfold textB; rw [List.length_append, str_len]; have := sizeN_64 (n := s.size) (by omega); unfold sizeN at this; omega
  have H10 := Lib.hid hu10
  have T10 := Lib.hid ht10
  clear hm hu10 ht10
  obtain ⟨La, hLa0⟩ : ∃ La, La = (uintB m).length := ⟨_, rfl⟩
  obtain ⟨Lb, hLb0⟩ : ∃ Lb, Lb = (textB s.data.toList).length := ⟨_, rfl⟩
  have hla : La ≤ 10 := hLa0 ▸ H10.out
  have hlb : Lb ≤ s.size + 10 := hLb0 ▸ T10.out
  have hLa := Lib.hid hLa0
  have hLb := Lib.hid hLb0
  clear hLa0 hLb0
  by_cases hbig : 1024 < s.size
  · go_enter Try.func6, Try.ntmps6
    go_wp2_with (go_at_call 10; refine (alive_calls _).mono ?_; rintro e w1 ⟨rfl, hx1⟩)
    go_ret
    exact ⟨rfl, hx1⟩
  by_cases hneg : cut < 0
  · go_enter Try.func6, Try.ntmps6
    go_wp2_with (first
      | (go_at_call 10; refine (alive_calls _).mono ?_; rintro e w1 ⟨rfl, hx1⟩)
      | (go_at_call 15; (with_reducible refine (refUint_calls m _ HM.out).mono ?_); rintro e w2 ⟨rfl, hx2'⟩; have hx2 := hx1.trans hx2'; obtain ⟨g2, c2, w2', hcv2, hl2, hg2, hgg2, hc2, hx3'⟩ := conv_bytes (P := Try.prog) Try.underlying9 Try.underlying22 Try.underlying5 w2 (bstr (uintB m)); have hx3 := hx2.trans hx3')
      | (go_at_call 16; (with_reducible refine (refText_calls s _ HS.out).mono ?_); rintro e w4 ⟨rfl, hx4'⟩; have hx4 := hx3.trans hx4'; obtain ⟨g4, c4, w4', hcv4, hl4, hg4, hgg4, hc4, hx5'⟩ := conv_bytes (P := Try.prog) Try.underlying9 Try.underlying22 Try.underlying5 w4 (bstr (textB s.data.toList)); have hx5 := hx4.trans hx5'))
    go_ret
    exact ⟨rfl, hx5⟩
  obtain ⟨k, rfl⟩ := Int.eq_ofNat_of_zero_le (Int.not_lt.1 hneg)
  clear hneg
  have hemp : (bstr []).toList.isEmpty = true := by decide +kernel
  rcases Nat.lt_or_ge k La with hk1 | hk1 <;> rcases Nat.lt_or_ge k Lb with hk2 | hk2
  all_goals
    go_enter Try.func6, Try.ntmps6
    go_wp2_with (first
      | (go_at_call 10; refine (alive_calls _).mono ?_; rintro e w1 ⟨rfl, hx⟩)
      | (go_at_call 15; (with_reducible refine (refUint_calls m _ HM.out).mono ?_); rintro e w2 ⟨rfl, hx2'⟩; obtain ⟨g2, c2, w2', hcv2, hl2, hg2, hgg2, hc2, hx3'⟩ := conv_bytes (P := Try.prog) Try.underlying9 Try.underlying22 Try.underlying5 w2 (bstr (uintB m)); replace hx := (hx.trans hx2').trans hx3'; rw [bstr_size, ← hLa.out] at hcv2 hl2; rw [bstr_data] at hc2; clear hg2 hgg2 hx2' hx3')
      | (go_at_call 16; (with_reducible refine (refText_calls s _ HS.out).mono ?_); rintro e w4 ⟨rfl, hx4'⟩; obtain ⟨g4, c4, w4', hcv4, hl4, hg4, hgg4, hc4, hx5'⟩ := conv_bytes (P := Try.prog) Try.underlying9 Try.underlying22 Try.underlying5 w4 (bstr (textB s.data.toList)); replace hx := (hx.trans hx4').trans hx5'; rw [bstr_size, ← hLb.out] at hcv4 hl4; rw [bstr_data] at hc4; replace hc2 := (hc2.ext hx4').ext hx5'; clear hg4 hx4' hx5')
      | (go_at_call 14; (with_reducible refine (read_calls (some ⟨g2, 0, none⟩) k c2 ((uintB m).take k) _ (bv_take _ _ ▸ hc2.take k) (by rw [List.length_take, ← hLa.out]; omega) (by omega)).mono ?_); rintro e w6 ⟨g6, rfl, hg6, hr6, hx6'⟩; replace hg6 := (And.intro (Nat.ne_of_lt (Nat.lt_of_lt_of_le hgg4 hg6)) (Nat.le_trans hx.size hg6)); replace hx := hx.trans hx6'; replace hc4 := hc4.ext hx6'; clear hx6' hc2)
      | (go_at_call 21; (with_reducible refine (ruint_calls g6 _ _ hr6).mono ?_); rintro e w7 ⟨rfl, hr7, ht7⟩; rw [uint_cut_pr m (by simpa using HM.out) k (by rw [← hLa.out]; exact hk1)] at hr7 ⊢; replace hx := ht7.ext hx hg6.2; replace hc4 := ht7.cells hc4 (blk_ne hg6.1); clear hr6 ht7)
      | (go_at_call 22; (with_reducible refine (rgood_calls g6 _ _ hr7).mono ?_); rintro e w5 ⟨rfl, rfl⟩)
      | (go_at_call 17; (with_reducible refine (rtake_calls g6 _ 0 _ hr7).mono ?_); rintro e w5 ⟨rfl, hr8, ht8⟩; rw [take_fail]; replace hx := ht8.ext hx hg6.2; replace hc4 := ht8.cells hc4 (blk_ne hg6.1); clear hr7 hr8 ht8)
      | (go_at_call 14; (with_reducible refine (read_calls (some ⟨g4, 0, none⟩) k c4 ((textB s.data.toList).take k) _ (bv_take _ _ ▸ hc4.take k) (by rw [List.length_take, ← hLb.out]; omega) (by omega)).mono ?_); rintro e w9 ⟨g9, rfl, hg9, hr9, hx9'⟩; replace hg9 := Nat.le_trans hx.size hg9; replace hx := hx.trans hx9'; clear hx9' hc4)
      | (go_at_call 23; (with_reducible refine (rtext_calls g9 _ s.size _ hr9 (by have := HS.out; omega)).mono ?_); rintro e w10 ⟨rfl, hr10, ht10⟩; rw [text_cut_s s HS.out k (by rw [← hLb.out]; exact hk2)] at hr10 ⊢; replace hx := ht10.ext hx hg9; clear hr9 ht10)
      | (go_at_call 22; (with_reducible refine (rgood_calls g9 _ _ hr10).mono ?_); rintro e w5 ⟨rfl, rfl⟩)
      | (go_at_call 24; (with_reducible refine (rint_calls g9 _ _ hr10).mono ?_); rintro e w11 ⟨rfl, hr11, ht11⟩; rw [int_fail]; replace hx := ht11.ext hx hg9; clear hr10 hr11 ht11))
    go_ret
    exact ⟨rfl, hx⟩
end Go.Proofs.Ytfohdngnflkfjaa

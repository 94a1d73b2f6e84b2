/- The walks of the laws' own functions: alive, great. -/
import Derived.Test.YtnfbjapkhoebpaaFrameOne
namespace Go.Proofs.Ytnfbjapkhoebpaa
open Go.RowKit
set_option linter.unusedVariables false

theorem crc_nine : (crc [49, 50, 51, 52, 53, 54, 55, 56, 57]).toNat = 3808858755 := by decide +kernel
theorem crc_nine_b : ((((crc [49, 50, 51, 52, 53, 54, 55, 56, 57]).toNat : Int) == 3808858755) : Bool) = true := by rw [crc_nine]; decide
theorem ab_len : (fr [97, 98]).length = 7 := by
  have h : sizeN 2 = 1 := by unfold sizeN; rw [uintB_lt (by decide)]; rfl
  rw [fr_len, textB_len, show ([97, 98] : List UInt8).length = 2 from rfl, h]
theorem ab_str : ((bstr [97, 98]).toList == [97, 98]) = true := by kernel_rfl

set_option maxRecDepth 50000 in
theorem frame_alive (w : World) : Calls Try.prog 8 #[] w fun e w' => e = .returned (.bool true) ∧ Ext w w' := by
  have hput := fun w => fput_calls none 0 0 [] ⟨#[97, 98]⟩ w (Cells.nil _ _) rfl (Nat.le_refl _) (by decide)
  have hone := fun A c w h => fone_calls A 7 c (fr [97, 98]) w h ab_len
  rw [oneB_fr _ (by decide)] at hone
  obtain ⟨f, hf⟩ : ∃ f, f = fr [97, 98] := ⟨_, rfl⟩
  have hfl : f.length = 7 := by rw [hf]; exact ab_len
  simp only [List.nil_append] at hput
  rw [show fr (⟨#[97, 98]⟩ : ByteArray).data.toList = fr [97, 98] from rfl, ← hf] at hput
  rw [← hf] at hone
  clear hf
  have hsum := fun A c w h => fsum_calls A 9 c [49, 50, 51, 52, 53, 54, 55, 56, 57] w h rfl (by decide)
  obtain ⟨S, hS⟩ : ∃ S, S = crc [49, 50, 51, 52, 53, 54, 55, 56, 57] := ⟨_, rfl⟩
  have hnine := crc_nine_b
  rw [← hS] at hnine
  rw [← hS] at hsum
  clear hS
  have kc := fun (w : World) (C : Array Value) (n c : Nat) => Lib.run_convert_bytes_const (P := Try.prog) w 22 5 C n c Try.underlying22 Try.underlying5
  have hab := ab_str
  go_enter Try.func8, Try.ntmps8
  go_wp2_with (first
    | (go_at_call 11; refine (hput _).mono ?_; rintro e w1 ⟨v1, rfl, hown, hx⟩; obtain ⟨A1, c1, rfl, hc1, hm1, hb1⟩ := hown.form_at hfl)
    | (go_at_call 15; refine (hone A1 c1 _ hb1 hc1 (by decide)).mono ?_; rintro e w2 ⟨rfl, hx2⟩; simp only [oneV])
    | (go_at_call 9; refine (hsum _ 9 _ (Cells.lit rfl (bv [49, 50, 51, 52, 53, 54, 55, 56, 57]) _ _)).mono ?_; rintro e w3 ⟨rfl, rfl⟩))
  go_ret
  exact ⟨rfl, (hx.trans hx2).alloc _⟩

/-- More than is played. -/
def greatB (xs : List (List UInt8)) : Bool := decide (8192 < (xs.map List.length).sum ∨ 60 < xs.length)

set_option maxRecDepth 50000 in
theorem frame_great (A : Option Addr) (n c : Nat) (xs : List (List UInt8)) (w : World) (h : Cells w A (sv xs)) (hn : xs.length = n) (hl : n ≤ 140737488350000) (hx : ∀ x ∈ xs, x.length ≤ 140737488351232) :
    Calls Try.prog 17 #[.slice A n c] w fun e w' => e = .returned (.bool (greatB xs)) ∧ w = w' := by
  go_enter Try.func17, Try.ntmps17
  go_wp2
  go_loop [3, 8] (fun v i => ∃ k s : Nat, k ≤ n ∧ s ≤ 8192 ∧ i = .int .i64 k ∧ v = .int .i64 s ∧ Aside (s = ((xs.take k).map List.length).sum)) (fun _ i => n - (intOf i).toNat)
  case atStart => exact ⟨0, 0, Nat.zero_le _, Nat.zero_le _, rfl, rfl, rfl⟩
  case round =>
    obtain ⟨k, s, hk, hs, rfl, rfl, hA⟩ := hrel
    by_cases hlt : k < n
    · obtain ⟨x, hxa, cx⟩ := h.str (i := k) (by omega)
      subst hxa
      have hxl := hx _ (List.getElem_mem (show k < xs.length by omega))
      obtain ⟨t, ht⟩ : ∃ t, t = xs[k]'(by omega) := ⟨_, rfl⟩
      rw [← ht] at cx hxl
      have hz := bstr_size t
      have hsum : ((xs.take (k + 1)).map List.length).sum = s + t.length := by
        rw [List.take_succ_eq_append_getElem (by omega), List.map_append, List.sum_append, ← hA.out, ht]; simp
      have HS := Lib.hid hsum
      clear hsum ht
      by_cases hg : 8192 < s + t.length
      · have hG : greatB xs = true := by
          unfold greatB
          rw [decide_eq_true_iff]
          refine .inl (Nat.lt_of_lt_of_le hg ?_)
          rw [← HS.out]
          conv => rhs; rw [← List.take_append_drop (k + 1) xs]
          rw [List.map_append, List.sum_append]
          exact Nat.le_add_right _ _
        have HG := Lib.hid hG
        clear hG
        go_wp2
        go_ret
        exact ⟨ret_bool HG.out.symm, rfl⟩
      · go_wp2
        go_round
        case rel => exact ⟨k + 1, s + t.length, by omega, by omega, by go_num, by go_num, HS.out.symm⟩
        case measure => simp [intOf]; omega
    · obtain rfl : n = k := by omega
      have hG : greatB xs = decide (60 < n) := by
        unfold greatB
        have := hA.out
        rw [List.take_of_length_le (by omega)] at this
        rw [← this, hn, decide_eq_decide]
        omega
      have HG := Lib.hid hG
      clear hG
      go_wp2
      go_ret
      exact ⟨ret_bool (HG.out.trans (by rw [decide_eq_decide]; omega)).symm, rfl⟩
end Go.Proofs.Ytnfbjapkhoebpaa

/- FrameSplits: Split and One answer what the document says: the walk of the law. -/
import Derived.Test.YtnfbjapkhoebpaaFrameLaw
namespace Go.Proofs.Ytnfbjapkhoebpaa
open Go.RowKit
set_option linter.unusedVariables false

theorem bstr_nil_eq : bstr [] = ByteArray.empty := rfl
theorem str_nil_beq (r : List UInt8) : ((bstr r).toList == ({ data := #[] } : ByteArray).toList) = decide (r = []) := str_beq r []
theorem str_nil_list : (bstr []).toList = [] := by rw [ByteArray.toList_eq, bstr_data]
theorem str_nil_list_beq (r : List UInt8) : ((bstr r).toList == []) = decide (r = []) := by
  have h := str_beq r []
  rw [str_nil_list] at h
  exact h
theorem str_nil_list_eq {r : List UInt8} (h : ¬ r = []) : ¬ (bstr r).toList = [] := by
  rw [ByteArray.toList_eq, bstr_data]; exact h
theorem Cells.str1 {w : World} {a : Option Addr} {x : List UInt8} (h : Cells w a (sv [x])) :
    ∃ y, a = some y ∧ w.cell? y = some (.string (bstr x)) := by
  obtain ⟨y, ha, hc⟩ := h.str (i := 0) (Nat.zero_lt_one)
  exact ⟨y, ha, hc⟩

theorem oneB_none {bs : List UInt8} {xs : List (List UInt8)} {r : List UInt8} (h : splitB bs = (xs, r)) (hx : ¬ (xs.length = 1 ∧ r = [])) : oneB bs = none := by
  cases ho : oneB bs with
  | none => rfl
  | some x =>
    have := (oneB_split bs x).1 ho
    rw [h] at this
    injection this with h1 h2
    exact absurd ⟨by rw [h1]; rfl, h2⟩ hx

set_option maxRecDepth 50000 in
set_option maxHeartbeats 4000000 in
theorem frameSplits_calls (A : Option Addr) (n c : Nat) (bs : List UInt8) (w : World) (hb : Cells w A (bv bs)) (hn : bs.length = n) (hc : n ≤ c) (hl : n ≤ 140737488351232) :
    Calls Try.prog 4 #[.slice A n c] w fun e w' => e = .returned (.bool true) ∧ Ext w w' := by
  by_cases h1 : 8192 < n
  · go_enter Try.func4, Try.ntmps4
    go_wp2_with (go_at_call 8; refine (frame_alive _).mono ?_; rintro e w1 ⟨rfl, hx1⟩)
    go_ret
    exact ⟨rfl, hx1⟩
  obtain ⟨⟨xs, r⟩, hsp⟩ : ∃ p, splitB bs = p := ⟨_, rfl⟩
  have hle := splitB_len bs
  rw [hsp] at hle
  simp only [] at hle
  have hxl : xs.length ≤ n := by rw [← hn]; exact hle.1
  have hrl : r.length ≤ n := by rw [← hn]; exact hle.2
  have hcb : ∀ w', Ext w w' → (convert 22 9 (.slice A n c)).run Try.prog w' = .ok (.string (bstr bs)) w' := fun w' k => conv_str Try.underlying22 Try.underlying5 Try.underlying9 hn (hb.ext k)
  have hsplit := fun w' h => fsplit_calls A n c bs w' h hn hc (by omega)
  have hrsplit := fun w' => frsplit_calls n bs w' hn (by omega)
  have hone := fun w' h => fone_calls A n c bs w' h hn hc (by omega)
  obtain ⟨D, hD⟩ : ∃ D, D = n - r.length := ⟨_, rfl⟩
  rw [hsp] at hsplit hrsplit
  simp only [] at hsplit hrsplit
  rw [← hD] at hsplit
  have hrz := bstr_size r
  have hfin : (((D : Int) == (n : Int) - (r.length : Int)) : Bool) = true := by rw [beq_iff_eq]; omega
  obtain ⟨m, hm⟩ : ∃ m, xs.length = m := ⟨_, rfl⟩
  have hsame := fun A B c d w' h h2 => fsame_calls A B m m c d xs xs w' h h2 hm hm (by omega) (by omega)
  rw [decide_eq_true rfl] at hsame
  by_cases hA : xs.length = 1 ∧ r = []
  · obtain ⟨h2, rfl⟩ := hA
    obtain ⟨x, rfl⟩ := List.length_eq_one_iff.1 h2
    rw [(oneB_split bs x).2 hsp] at hone
    simp only [List.length_singleton] at hm
    subst hm
    have hself := str_beq x x
    rw [decide_eq_true rfl] at hself
    have hnil := str_nil_list
    clear hsp hle hD h2
    go_enter Try.func4, Try.ntmps4
    go_wp2_with (first
      | (go_at_call 8; refine (frame_alive _).mono ?_; rintro e w1 ⟨rfl, hx1⟩)
      | (go_at_call 13; refine (hsplit _ (hb.ext hx1)).mono ?_; rintro e w2 ⟨v2, rfl, hown2, hx2⟩; have hx12 := hx1.trans hx2; obtain ⟨A2, c2, rfl, hc2, hm2, hb2⟩ := hown2.form_at rfl; have hcb2 := hcb _ hx12)
      | (go_at_call 14; refine (hrsplit _).mono ?_; rintro e w3 ⟨v3, rfl, hown3, hx3⟩; have hx13 := hx12.trans hx3; obtain ⟨A3, c3, rfl, hc3, hm3, hb3⟩ := hown3.form_at rfl; obtain ⟨y3, hy3, hcell3⟩ := (hb3.str1); subst hy3)
      | (go_at_call 15; refine (hone _ (hb.ext hx13)).mono ?_; rintro e w4 ⟨rfl, hx4⟩; have hx14 := hx13.trans hx4; have hcell4 := hx4.cell hcell3; simp only [oneV])
      | (go_at_call 16; refine (hsame _ _ _ _ _ (hb2.ext (hx3.trans hx4)) (hb3.ext hx4)).mono ?_; rintro e w5 ⟨rfl, hx5⟩; have hx15 := hx14.trans hx5))
    all_goals
      go_ret
      exact ⟨ret_bool hfin, hx15⟩
  · rw [oneB_none hsp hA] at hone
    have hnil := str_nil_list
    have hemp : ByteArray.empty.toList = [] := str_nil_list
    clear hsp hle hD
    by_cases hm1 : m = 1
    · subst hm1
      have hr : ¬ r = [] := fun h => hA ⟨hm, h⟩
      have hrn := str_nil_list_eq hr
      have hre : (bstr r).toList.isEmpty = false := by rw [List.isEmpty_eq_false_iff]; exact hrn
      clear hr
      go_enter Try.func4, Try.ntmps4
      go_wp2_with (first
        | (go_at_call 8; refine (frame_alive _).mono ?_; rintro e w1 ⟨rfl, hx1⟩)
        | (go_at_call 13; refine (hsplit _ (hb.ext hx1)).mono ?_; rintro e w2 ⟨v2, rfl, hown2, hx2⟩; have hx12 := hx1.trans hx2; obtain ⟨A2, c2, rfl, hc2, hm2, hb2⟩ := hown2.form_at hm; have hcb2 := hcb _ hx12)
        | (go_at_call 14; refine (hrsplit _).mono ?_; rintro e w3 ⟨v3, rfl, hown3, hx3⟩; have hx13 := hx12.trans hx3; obtain ⟨A3, c3, rfl, hc3, hm3, hb3⟩ := hown3.form_at hm)
        | (go_at_call 15; refine (hone _ (hb.ext hx13)).mono ?_; rintro e w4 ⟨rfl, hx4⟩; have hx14 := hx13.trans hx4; simp only [oneV])
        | (go_at_call 16; refine (hsame _ _ _ _ _ (hb2.ext (hx3.trans hx4)) (hb3.ext hx4)).mono ?_; rintro e w5 ⟨rfl, hx5⟩; have hx15 := hx14.trans hx5))
      all_goals
        first
          | (go_ret; exact ⟨ret_bool hfin, hx15⟩)
          | (go_ret; exact ⟨rfl, hx15⟩)
          | (trace_state; sorry)
    · have hm1 : (((m : Int) == 1) : Bool) = false := by rw [beq_eq_false_iff_ne]; omega
      go_enter Try.func4, Try.ntmps4
      go_wp2_with (first
        | (go_at_call 8; refine (frame_alive _).mono ?_; rintro e w1 ⟨rfl, hx1⟩)
        | (go_at_call 13; refine (hsplit _ (hb.ext hx1)).mono ?_; rintro e w2 ⟨v2, rfl, hown2, hx2⟩; have hx12 := hx1.trans hx2; obtain ⟨A2, c2, rfl, hc2, hm2, hb2⟩ := hown2.form_at hm; have hcb2 := hcb _ hx12)
        | (go_at_call 14; refine (hrsplit _).mono ?_; rintro e w3 ⟨v3, rfl, hown3, hx3⟩; have hx13 := hx12.trans hx3; obtain ⟨A3, c3, rfl, hc3, hm3, hb3⟩ := hown3.form_at hm)
        | (go_at_call 15; refine (hone _ (hb.ext hx13)).mono ?_; rintro e w4 ⟨rfl, hx4⟩; have hx14 := hx13.trans hx4; simp only [oneV])
        | (go_at_call 16; refine (hsame _ _ _ _ _ (hb2.ext (hx3.trans hx4)) (hb3.ext hx4)).mono ?_; rintro e w5 ⟨rfl, hx5⟩; have hx15 := hx14.trans hx5))
      all_goals
        first
          | (go_ret; exact ⟨ret_bool hfin, hx15⟩)
          | (go_ret; exact ⟨rfl, hx15⟩)
          | (trace_state; sorry)
end Go.Proofs.Ytnfbjapkhoebpaa

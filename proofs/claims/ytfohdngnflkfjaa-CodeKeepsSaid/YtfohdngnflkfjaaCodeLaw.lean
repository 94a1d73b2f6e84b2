/- What the laws of chapter 01 share: a new reader, the nil reader, alive. -/
import Derived.Test.YtfohdngnflkfjaaCode
import Derived.Test.YtfohdngnflkfjaaReader
import Derived.Test.YtfohdngnflkfjaaRef01b
namespace Go.Proofs.Ytfohdngnflkfjaa
open Go.RowKit
set_option linter.unusedVariables false

theorem Own.form_at {B : Nat} {w : World} {v : Value} {bs : List UInt8} {n : Nat} (h : Own B w v bs) (hn : bs.length = n) : ∃ A c, v = .slice A n c ∧ n ≤ c ∧ c ≤ maxLen ∧ Cells w A (bv bs) := by
  subst hn; exact h.form
theorem Own.ne {B : Nat} {w : World} {A : Option Addr} {n c : Nat} {bs : List UInt8} (h : Own B w (.slice A n c) bs) : ∀ x, A = some x → B ≤ x.block ∧ x.block < w.heap.size := by
  intro x hx
  subst hx
  exact h.lt rfl

theorem read_calls (A : Option Addr) (n c : Nat) (bs : List UInt8) (w : World) (hb : Cells w A (bv bs)) (hn : bs.length = n) (hl : n ≤ 140737488351232) :
    Calls Try.prog 14 #[.slice A n c] w fun e w' => ∃ g, e = .returned (.pointer (some ⟨g, 0, none⟩)) ∧ w.heap.size ≤ g ∧ Rdr w' g ⟨bs, false⟩ ∧ Ext w w' := by
  subst hn
  go_enter Try.func14, Try.ntmps14
  go_wp2_with (at_builtin; refine wpList_append_u8 _ rfl (.const (.slice none 0 0)) (.tmp 3) rfl w.heap.size _ [] rfl (Own.nil _ _) A bs.length c bs rfl rfl hb (by simp; omega) (Nat.le_refl _) ?_; intro v1 w1 hown hg _; have hx := (Own.nil w.heap.size w).grows (Ext.refl _) hg; rw [List.nil_append] at hown; obtain ⟨A1, c1, hv1, hl1, hm1, hc1⟩ := hown.form; subst hv1)
  go_ret
  refine ⟨w1.heap.size, rfl, hx.size, ⟨A1, c1, Blk.new w1 _ _, hl1, hl, hc1.ext ((Ext.refl _).alloc _), fun x hx => ?_⟩, hx.alloc _⟩
  have := hown.ne x hx
  omega

theorem ruint_nil (w : World) : Calls Try.prog 21 #[.pointer none] w fun e w' => e = .returned (.int .u64 0) ∧ w = w' := by
  go_enter Try.func21, Try.ntmps21
  go_wp2
  go_ret
  exact ⟨rfl, rfl⟩
theorem rint_nil (w : World) : Calls Try.prog 24 #[.pointer none] w fun e w' => e = .returned (.int .i64 0) ∧ w = w' := by
  go_enter Try.func24, Try.ntmps24
  go_wp2_with (go_at_call 21; refine (ruint_nil _).mono ?_; rintro e w1 ⟨rfl, rfl⟩)
  go_ret
  exact ⟨ret_int (by decide +kernel), rfl⟩
theorem rtake_nil (n : Int) (w : World) : Calls Try.prog 17 #[.pointer none, .int .i64 n] w fun e w' => e = .returned (.string (bstr [])) ∧ w = w' := by
  go_enter Try.func17, Try.ntmps17
  go_wp2_with (go_at_call 34; refine (rfail_nil _).mono ?_; rintro e w1 ⟨rfl, rfl⟩)
  go_ret
  exact ⟨rfl, rfl⟩
theorem rin_nil (lo hi : Int) (w : World) : Calls Try.prog 28 #[.pointer none, .int .i64 lo, .int .i64 hi] w fun e w' => e = .returned (.int .i64 0) ∧ w = w' := by
  go_enter Try.func28, Try.ntmps28
  go_wp2_with (first
    | (go_at_call 24; refine (rint_nil _).mono ?_; rintro e w1 ⟨rfl, rfl⟩)
    | (go_at_call 22; refine (rgood_nil _).mono ?_; rintro e w' ⟨rfl, rfl⟩)
    | (go_at_call 34; refine (rfail_nil _).mono ?_; rintro e w1 ⟨rfl, rfl⟩))
  go_ret
  exact ⟨rfl, rfl⟩
theorem rtext_nil (n : Int) (w : World) (hmost : n ≤ 9223372036854775807) : Calls Try.prog 23 #[.pointer none, .int .i64 n] w fun e w' => e = .returned (.string (bstr [])) ∧ w = w' := by
  by_cases h0 : n < 0
  · go_enter Try.func23, Try.ntmps23
    go_wp2_with (first
      | (go_at_call 21; refine (ruint_nil _).mono ?_; rintro e w1 ⟨rfl, rfl⟩)
      | (go_at_call 34; refine (rfail_nil _).mono ?_; rintro e w1 ⟨rfl, rfl⟩)
      | (go_at_call 17; refine (rtake_nil _ _).mono ?_; rintro e w1 ⟨rfl, rfl⟩))
    go_ret
    exact ⟨rfl, rfl⟩
  · have hwr : IntKind.u64.wrap n = n := by rw [IntKind.wrap_u64]; omega
    have h1 : 0 ≤ n := by omega
    clear hmost h0
    go_enter Try.func23, Try.ntmps23
    go_wp2_with (first
      | (go_at_call 21; refine (ruint_nil _).mono ?_; rintro e w1 ⟨rfl, rfl⟩)
      | (go_at_call 34; refine (rfail_nil _).mono ?_; rintro e w1 ⟨rfl, rfl⟩)
      | (go_at_call 17; refine (rtake_nil _ _).mono ?_; rintro e w1 ⟨rfl, rfl⟩))
    go_ret
    exact ⟨rfl, rfl⟩

theorem u300 : uintB 300 = [172, 2] := by rw [uintB_ge (by decide), uintB_lt (by decide)]; rfl
theorem im1 : intB (-1) = [1] := by unfold intB zig; rw [if_neg (by decide)]; rw [uintB_lt (by decide)]; rfl
theorem alive_uint : PR.uint ⟨[172, 130, 0], false⟩ = (0, PR.fail) := rfl

theorem uint_300 (w : World) : Calls Try.prog 11 #[.slice none 0 0, .int .u64 300] w fun e w' => ∃ v, e = .returned v ∧ Own w.heap.size w' v [172, 2] ∧ Ext w w' := by
  have h := uint_calls none 0 0 [] 300 w (Cells.nil _ _) rfl (Nat.le_refl _) (by decide) (by decide)
  rw [List.nil_append, u300] at h
  exact h
theorem alive_calls (w : World) : Calls Try.prog 10 #[] w fun e w' => e = .returned (.bool true) ∧ Ext w w' := by
  have H2 := Lib.hid im1
  have H3 := Lib.hid alive_uint
  go_enter Try.func10, Try.ntmps10
  go_wp2_with (first
    | (go_at_call 11; (with_reducible refine (uint_300 _).mono ?_); rintro e w1 ⟨v1, rfl, hown, hx1⟩; obtain ⟨A1, c1, hv1, hl1, hm1, hc1⟩ := hown.form_at (n := 2) rfl; subst hv1)
    | (go_at_call 12; (with_reducible refine (int_calls A1 2 c1 [172, 2] (-1) _ hc1 rfl hl1 (by decide) (by decide) (by decide)).mono ?_); rintro e w2 ⟨v2, rfl, hown2, hx2'⟩; rw [H2.out] at hown2; obtain ⟨A2, c2, hv2, hl2, hm2, hc2⟩ := hown2.form_at (n := 3) rfl; subst hv2; have hx2 := hx1.trans hx2'; clear hx2' hown hown2)
    | (go_at_call 14; (with_reducible refine (read_calls _ 3 3 [172, 130, 0] _ (Cells.lit rfl [.int .u8 172, .int .u8 130, .int .u8 0] _ _) rfl (by decide)).mono ?_); rintro e w3 ⟨g, rfl, hg, hr, hx3'⟩; have hx3 := (hx2.alloc _).trans hx3'; have hcv : (convert 22 9 (.slice A2 3 c2)).run Try.prog w3 = .ok (.string ⟨#[172, 2, 1]⟩) w3 := conv_str (P := Try.prog) (bs := [172, 2, 1]) Try.underlying22 Try.underlying5 Try.underlying9 rfl (hc2.ext (((Ext.refl _).alloc _).trans hx3')); have hgx := Nat.le_trans (hx2.alloc (.cells #[.int .u8 172, .int .u8 130, .int .u8 0] 5)).size hg; clear hx3' hg hc2 hx2)
    | (go_at_call 21; (with_reducible refine (ruint_calls g _ _ hr).mono ?_); rintro e w4 ⟨rfl, hr4, ht4⟩; rw [H3.out] at hr4 ⊢; have hx4 := ht4.ext hx3 hgx; clear hr hx3 ht4)
    | (go_at_call 22; (with_reducible refine (rgood_calls g _ _ hr4).mono ?_); rintro e w5 ⟨rfl, rfl⟩))
  go_ret
  exact ⟨rfl, hx4⟩
end Go.Proofs.Ytfohdngnflkfjaa

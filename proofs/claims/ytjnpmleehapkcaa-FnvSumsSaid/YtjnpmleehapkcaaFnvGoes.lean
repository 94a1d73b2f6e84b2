/- FnvGoes: a sum goes on from one piece to the next: the walk of the law. -/
import Derived.Test.YtjnpmleehapkcaaAppend
import Derived.Test.YtjnpmleehapkcaaFnv
namespace Go.Proofs.Ytjnpmleehapkcaa
open Go.RowKit
set_option linter.unusedVariables false

/-- The reference's step is the step. -/
theorem step_ref_calls (s : BitVec 64) (c : UInt8) (w : World) :
    Calls Try.prog 9 #[.int .u64 s.toNat, .int .u8 c.toNat] w fun e w' => e = .returned (.int .u64 (step s c).toNat) ∧ w = w' := by
  have hs := s.isLt
  have hc : c.toNat < 256 := c.toNat_lt
  go_enter Try.func9, Try.ntmps9
  go_wp2
  go_ret
  refine ⟨ret_int ?_, rfl⟩
  exact step_ref_int s c

theorem goes_calls (s : BitVec 64) (a b : Option Addr) (ca cb : Nat) (xs ys : List UInt8) (w : World) (ha : Cells w a (bv xs)) (hb : Cells w b (bv ys))
    (hca : xs.length ≤ ca) (hla : xs.length ≤ 140737488351232) (hlb : ys.length ≤ 140737488351232) :
    Calls Try.prog 3 #[.int .u64 s.toNat, .slice a xs.length ca, .slice b ys.length cb] w fun e w' => e = .returned (.bool true) ∧ Ext w w' := by
  by_cases h1 : 8192 < xs.length
  · go_enter Try.func3, Try.ntmps3
    go_wp2_with (go_at_call 8; refine (fnv_alive _).mono ?_; rintro e w1 ⟨rfl, hx1⟩)
    go_ret
    exact ⟨rfl, hx1⟩
  by_cases h2 : 8192 < ys.length
  · go_enter Try.func3, Try.ntmps3
    go_wp2_with (go_at_call 8; refine (fnv_alive _).mono ?_; rintro e w1 ⟨rfl, hx1⟩)
    go_ret
    exact ⟨rfl, hx1⟩
  go_enter Try.func3, Try.ntmps3
  go_wp2_with (go_at_call 8; refine (fnv_alive _).mono ?_; rintro e w1 ⟨rfl, hx1⟩)
  have ha1 := ha.ext hx1
  go_loop [7, 24] (fun v i => ∃ k : Nat, k ≤ xs.length ∧ i = .int .i64 k ∧ v = .int .u64 (more s (xs.take k)).toNat) (fun _ i => xs.length - (intOf i).toNat)
  case atStart => exact ⟨0, Nat.zero_le _, rfl, rfl⟩
  case round =>
    obtain ⟨k, hk, rfl, rfl⟩ := hrel
    by_cases hlt : k < xs.length
    · obtain ⟨x, hx, hcell⟩ := ha1.byte hlt
      subst hx
      go_wp2_with (go_at_call 9; refine (step_ref_calls _ _ _).mono ?_; rintro e w' ⟨rfl, rfl⟩)
      go_round
      case rel => exact ⟨k + 1, by omega, by go_num, by rw [more_take _ _ _ hlt]⟩
      case measure => simp [intOf]; omega
    · obtain rfl : k = xs.length := by omega
      rw [List.take_length]
      have hma : more s (xs ++ ys) = more (more s xs) ys := more_append s xs ys
      have hfa : fnv (xs ++ ys) = more (fnv xs) ys := fnv_append xs ys
      have hlx : xs.length ≤ maxLen := by simp only [maxLen]; omega
      have hly : ys.length ≤ maxLen := by simp only [maxLen]; omega
      have hlz : xs.length + ys.length ≤ maxLen := by simp only [maxLen]; omega
      go_wp2_with (first
        | (at_builtin; refine wpList_append_u8 _ rfl (.tmp 32) (.tmp 33) rfl w.heap.size (.slice (some ⟨w1.heap.size, 0, none⟩) 0 0) [] rfl (Own.lit [] #[] rfl hx1.size (by simp [maxLen])) a xs.length ca xs rfl rfl (ha1.ext ((Ext.refl _).alloc _)) (by simp; omega) (hx1.alloc _).size ?_; intro v2 w2 hown2 hg2 _; have hx2 : Ext w w2 := (Own.lit [] #[] rfl hx1.size (by simp [maxLen])).grows (hx1.alloc _) hg2; simp only [List.nil_append] at hown2; have hb2 := hb.ext hx2; clear hg2 ha1)
        | (at_builtin; refine wpList_append_u8 _ rfl (.tmp 34) (.tmp 35) rfl w.heap.size v2 xs rfl hown2 b ys.length cb ys rfl rfl hb2 (by omega) hx2.size ?_; intro v3 w3 hown3 hg3 _; have hx3 : Ext w w3 := hown2.grows hx2 hg3; obtain ⟨A3, c3, hv3, hl3, hm3, hc3⟩ := hown3.form; subst hv3; have ha3 := ha.ext hx3; have hb3 := hb.ext hx3; clear hg3 hown2 hb2 hown3)
        | (go_at_call 10; (with_reducible refine (more_calls _ _ _ _ _ _ ha3 rfl hlx).mono ?_); rintro e w' ⟨rfl, rfl⟩)
        | (go_at_call 10; (with_reducible refine (more_calls _ _ _ _ _ _ hb3 rfl hly).mono ?_); rintro e w' ⟨rfl, rfl⟩)
        | (go_at_call 10; (with_reducible refine (more_calls _ _ _ _ _ _ hc3 List.length_append hlz).mono ?_); rintro e w' ⟨rfl, rfl⟩)
        | (go_at_call 10; (with_reducible refine (more_calls _ _ _ _ _ _ (hb3.ext ((Ext.refl _).alloc _)) rfl hly).mono ?_); rintro e w' ⟨rfl, rfl⟩)
        | (go_at_call 11; (with_reducible refine (sum_one_calls _ a _ ca 1 xs _ ?h1 hca (ha3.ext ((Ext.refl _).alloc _)) rfl hlx).mono ?_); (case h1 => (go_simp; done)); rintro e w' ⟨rfl, rfl⟩)
        | (go_at_call 11; (with_reducible refine (sum_one_calls _ A3 (xs.length + ys.length) c3 1 (xs ++ ys) _ ?h1 (by simpa using hl3) (hc3.ext (((Ext.refl _).alloc _).alloc _)) List.length_append hlz).mono ?_); (case h1 => (go_simp; done)); rintro e w' ⟨rfl, rfl⟩)
        )
      go_ret
      exact ⟨rfl, (hx3.alloc _).alloc _⟩

end Go.Proofs.Ytjnpmleehapkcaa

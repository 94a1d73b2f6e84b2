/- FnvKeeps: what is handed in stays: the walk of the law. -/
import Derived.Test.YtjnpmleehapkcaaAppend
import Derived.Test.YtjnpmleehapkcaaFnv
namespace Go.Proofs.Ytjnpmleehapkcaa
open Go.RowKit
set_option linter.unusedVariables false

theorem sum_two_calls (x : Addr) (d : Nat) (xs ys : List UInt8) (w : World) (h : BSs w (some x) [xs, ys]) (hx : xs.length ≤ maxLen) (hy : ys.length ≤ maxLen) :
    Calls Try.prog 11 #[.slice (some x) 2 d] w fun e w' => e = .returned (.int .u64 (fnv (xs ++ ys)).toNat) ∧ w = w' := by
  have k := sum_calls (some x) d [xs, ys] w h (by simp [maxLen]) (by simp; exact ⟨hx, hy⟩)
  simpa using k

theorem keeps_calls (a b : Option Addr) (ca cb : Nat) (xs ys : List UInt8) (w : World) (ha : Cells w a (bv xs)) (hb : Cells w b (bv ys))
    (hca : xs.length ≤ ca) (hcb : ys.length ≤ cb) (hla : xs.length ≤ 140737488351232) (hlb : ys.length ≤ 140737488351232) :
    Calls Try.prog 5 #[.slice a xs.length ca, .slice b ys.length cb] w fun e w' => e = .returned (.bool true) ∧ Ext w w' := by
  by_cases h1 : 8192 < xs.length
  · go_enter Try.func5, Try.ntmps5
    go_wp2_with (go_at_call 8; refine (fnv_alive _).mono ?_; rintro e w1 ⟨rfl, hx1⟩)
    go_ret
    exact ⟨rfl, hx1⟩
  by_cases h2 : 8192 < ys.length
  · go_enter Try.func5, Try.ntmps5
    go_wp2_with (go_at_call 8; refine (fnv_alive _).mono ?_; rintro e w1 ⟨rfl, hx1⟩)
    go_ret
    exact ⟨rfl, hx1⟩
  have hlx : xs.length ≤ maxLen := by simp only [maxLen]; omega
  have hly : ys.length ≤ maxLen := by simp only [maxLen]; omega
  go_enter Try.func5, Try.ntmps5
  go_wp2_with (first
    | (go_at_call 8; refine (fnv_alive _).mono ?_; rintro e w1 ⟨rfl, hx1⟩; have ha1 := ha.ext hx1)
    | (at_builtin; refine wpList_append_u8 _ rfl (.tmp 18) (.tmp 19) rfl w.heap.size (.slice (some ⟨w1.heap.size, 0, none⟩) 0 0) [] rfl (Own.lit [] #[] rfl hx1.size (by simp [maxLen])) a xs.length ca xs rfl rfl (ha1.ext ((Ext.refl _).alloc _)) (by simp; omega) (hx1.alloc _).size ?_; intro v2 w2 hown2 hg2 _; have hx2 : Ext w w2 := (Own.lit [] #[] rfl hx1.size (by simp [maxLen])).grows (hx1.alloc _) hg2; simp only [List.nil_append] at hown2; have hb2 := hb.ext hx2; obtain ⟨A2, c2, hv2, hl2, hm2, hc2⟩ := hown2.form; subst hv2; clear hg2 ha1 hown2)
    | (at_builtin; refine wpList_append_u8 _ rfl (.tmp 21) (.tmp 22) rfl w2.heap.size (.slice (some ⟨w2.heap.size, 0, none⟩) 0 0) [] rfl (Own.lit [] #[] rfl (Nat.le_refl _) (by simp [maxLen])) b ys.length cb ys rfl rfl (hb2.ext ((Ext.refl _).alloc _)) (by simp; omega) (by simp) ?_; intro v4 w4 hown4 hg4 _; have hx4 : Ext w2 w4 := (Own.lit [] #[] rfl (Nat.le_refl _) (by simp [maxLen])).grows ((Ext.refl _).alloc _) hg4; simp only [List.nil_append] at hown4; obtain ⟨A4, c4, hv4, hl4, hm4, hc4⟩ := hown4.form; subst hv4; clear hg4 hown4; have hc2' := hc2.ext hx4; have hx4' : Ext w w4 := hx2.trans hx4; have ha4 := ha.ext hx4'; have hb4 := hb.ext hx4';
       have k1 := fun o => conv_str (P := Try.prog) Try.underlying23 Try.underlying5 Try.underlying9 (c := c2) rfl (hc2'.ext ((Ext.refl w4).alloc o));
       have k2 := fun o => conv_str (P := Try.prog) Try.underlying23 Try.underlying5 Try.underlying9 (c := c4) rfl (hc4.ext ((Ext.refl w4).alloc o));
       have k3 := fun o => conv_str (P := Try.prog) Try.underlying23 Try.underlying5 Try.underlying9 (c := ca) rfl (ha4.ext ((Ext.refl w4).alloc o));
       have k4 := fun o => conv_str (P := Try.prog) Try.underlying23 Try.underlying5 Try.underlying9 (c := cb) rfl (hb4.ext ((Ext.refl w4).alloc o)))
    | (go_at_call 11; (with_reducible refine (sum_two_calls _ _ xs ys _ (BSs.two (Cells.lit rfl [.slice A2 xs.length c2, .slice A4 ys.length c4] _ _) (BS.of rfl hl2 (hc2'.ext ((Ext.refl w4).alloc _))) (BS.of rfl hl4 (hc4.ext ((Ext.refl w4).alloc _)))) hlx hly).mono ?_); rintro e w' ⟨rfl, rfl⟩)
    | (go_at_call 11; (with_reducible refine (sum_two_calls _ _ xs ys _ (BSs.two (Cells.lit (by simp) [.slice a xs.length ca, .slice b ys.length cb] _ _) (BS.of rfl hca (ha4.ext (((Ext.refl w4).alloc _).alloc _))) (BS.of rfl hcb (hb4.ext (((Ext.refl w4).alloc _).alloc _)))) hlx hly).mono ?_); rintro e w' ⟨rfl, rfl⟩))
  go_ret
  exact ⟨rfl, (hx4'.alloc _).alloc _⟩
end Go.Proofs.Ytjnpmleehapkcaa

/- FnvTurned: of bytes of which one is turned the sum is another one: the walk of the law. -/
import Derived.Test.YtjnpmleehapkcaaAppend
import Derived.Test.YtjnpmleehapkcaaFnv
namespace Go.Proofs.Ytjnpmleehapkcaa
open Go.RowKit
set_option linter.unusedVariables false

def x8 (a c : UInt8) : UInt8 := a ^^^ c
theorem xor_u8 (a c : UInt8) : bits .xor .u8 (a.toNat : Int) (c.toNat : Int) = ((x8 a c).toNat : Int) := by
  rw [bits_xor_u8_nat _ _ a.toNat_lt c.toNat_lt, x8, UInt8.toNat_xor]

theorem turned_ne (bs : List UInt8) (k : Nat) (hk : k < bs.length) (c : UInt8) (hc : c ≠ 0) : fnv (bs.set k (x8 bs[k] c)) ≠ fnv bs := by
  intro h
  unfold x8 at h
  have e1 : bs = bs.take k ++ bs[k] :: bs.drop (k + 1) := by simp
  have e2 : bs.set k (bs[k] ^^^ c) = bs.take k ++ (bs[k] ^^^ c) :: bs.drop (k + 1) := List.set_eq_take_append_cons_drop.trans (by rw [if_pos hk])
  rw [e2] at h
  have h2 : more begin_ (bs.take k ++ (bs[k] ^^^ c) :: bs.drop (k + 1)) = more begin_ (bs.take k ++ bs[k] :: bs.drop (k + 1)) := h.trans (by rw [← e1]; rfl)
  have h3 := more_turned _ _ _ _ _ h2
  apply hc
  have h4 : bs[k] ^^^ (bs[k] ^^^ c) = bs[k] ^^^ bs[k] := by rw [h3]
  rw [← UInt8.xor_assoc, UInt8.xor_self, UInt8.zero_xor] at h4
  exact h4

theorem turned_out (b : Option Addr) (cb : Nat) (bs : List UInt8) (at_ : Int) (c : UInt8) (w : World) (hlb : bs.length ≤ 140737488351232)
    (h : 4096 < bs.length ∨ at_ < 0 ∨ bs.length ≤ at_ ∨ c = 0) :
    Calls Try.prog 6 #[.slice b bs.length cb, .int .i64 at_, .int .u8 c.toNat] w fun e w' => e = .returned (.bool true) ∧ Ext w w' := by
  by_cases h1 : 4096 < bs.length
  · go_enter Try.func6, Try.ntmps6
    go_wp2_with (go_at_call 8; refine (fnv_alive _).mono ?_; rintro e w1 ⟨rfl, hx1⟩)
    go_ret
    exact ⟨rfl, hx1⟩
  by_cases h2 : at_ < 0
  · go_enter Try.func6, Try.ntmps6
    go_wp2_with (go_at_call 8; refine (fnv_alive _).mono ?_; rintro e w1 ⟨rfl, hx1⟩)
    go_ret
    exact ⟨rfl, hx1⟩
  by_cases h3 : (bs.length : Int) ≤ at_
  · go_enter Try.func6, Try.ntmps6
    go_wp2_with (go_at_call 8; refine (fnv_alive _).mono ?_; rintro e w1 ⟨rfl, hx1⟩)
    go_ret
    exact ⟨rfl, hx1⟩
  obtain rfl : c = 0 := by rcases h with h | h | h | h <;> first | omega | exact h
  go_enter Try.func6, Try.ntmps6
  go_wp2_with (go_at_call 8; refine (fnv_alive _).mono ?_; rintro e w1 ⟨rfl, hx1⟩)
  go_ret
  exact ⟨rfl, hx1⟩

theorem turned_calls (b : Option Addr) (cb : Nat) (bs : List UInt8) (at_ : Int) (c : UInt8) (w : World) (hb : Cells w b (bv bs)) (hcb : bs.length ≤ cb) (hlb : bs.length ≤ 140737488351232) :
    Calls Try.prog 6 #[.slice b bs.length cb, .int .i64 at_, .int .u8 c.toNat] w fun e w' => e = .returned (.bool true) ∧ Ext w w' := by
  by_cases h : 4096 < bs.length ∨ at_ < 0 ∨ bs.length ≤ at_ ∨ c = 0
  · exact turned_out b cb bs at_ c w hlb h
  simp only [not_or, Int.not_lt, Nat.not_lt, Int.not_le] at h
  obtain ⟨h1, h2, h3, h4⟩ := h
  obtain ⟨k, rfl⟩ := Int.eq_ofNat_of_zero_le h2
  have hk : k < bs.length := by omega
  have hc : (((c.toNat : Int) == 0) : Bool) = false := by
    rw [beq_eq_false_iff_ne]
    intro h
    apply h4
    apply UInt8.toNat_inj.1
    have : (0 : UInt8).toNat = 0 := rfl
    omega
  have hlx : bs.length ≤ maxLen := by simp only [maxLen]; omega
  have hx8 := xor_u8 bs[k] c
  have hne : ((((fnv (bs.set k (x8 bs[k] c))).toNat : Int) == ((fnv bs).toNat : Int)) : Bool) = false := by
    rw [beq_eq_false_iff_ne]
    intro h
    exact turned_ne bs k hk c h4 (BitVec.eq_of_toNat_eq (by omega))
  have hset : (bs.set k (x8 bs[k] c)).length = bs.length := List.length_set
  go_enter Try.func6, Try.ntmps6
  go_wp2_with (first
    | (go_at_call 8; refine (fnv_alive _).mono ?_; rintro e w1 ⟨rfl, hx1⟩; have hb1 := hb.ext hx1)
    | (at_builtin; refine wpList_append_u8 _ rfl (.tmp 27) (.tmp 28) rfl w.heap.size (.slice (some ⟨w1.heap.size, 0, none⟩) 0 0) [] rfl (Own.lit [] #[] rfl hx1.size (by simp [maxLen])) b bs.length cb bs rfl rfl (hb1.ext ((Ext.refl _).alloc _)) (by simp; omega) (hx1.alloc _).size ?_; intro v2 w2 hown2 hg2 _; have hx2 : Ext w w2 := (Own.lit [] #[] rfl hx1.size (by simp [maxLen])).grows (hx1.alloc _) hg2; simp only [List.nil_append] at hown2; have hb2 := hb.ext hx2; obtain ⟨g2, c2, hv2, hbg2, hlg2, hl2⟩ := hown2.some_ (by omega); subst hv2; have hcell := hown2.cell hk; have hfr := hown2.frozen k; have hown3 := (hown2.set k (x8 bs[k] c)).1; have hc3 := hown3.cells; have hx3 := hx2.set (p := ⟨g2, k, none⟩) hbg2 (.int .u8 (x8 bs[k] c).toNat); have hb3 := hb.ext hx3; clear hg2 hb1)
    | (go_at_call 11; (with_reducible refine (sum_one_calls _ (some ⟨g2, 0, none⟩) bs.length c2 1 (bs.set k (x8 bs[k] c)) _ ?h1 hl2 (hc3.ext ((Ext.refl _).alloc _)) hset hlx).mono ?_); (case h1 => (go_simp; done)); rintro e w' ⟨rfl, rfl⟩)
    | (go_at_call 11; (with_reducible refine (sum_one_calls _ b bs.length cb 1 bs _ ?h1 hcb (hb3.ext (((Ext.refl _).alloc _).alloc _)) rfl hlx).mono ?_); (case h1 => (go_simp; done)); rintro e w' ⟨rfl, rfl⟩)
    )
  go_ret
  exact ⟨ret_bool (by unfold bne; rw [hne]; rfl), (hx3.alloc _).alloc _⟩
end Go.Proofs.Ytjnpmleehapkcaa

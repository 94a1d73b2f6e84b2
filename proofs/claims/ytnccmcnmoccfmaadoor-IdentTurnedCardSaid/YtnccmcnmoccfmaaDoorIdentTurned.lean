/- IdentTurned: of bytes of which one is turned the name by Fnv is another one: the walk of the law. -/
import Derived.Test.YtnccmcnmoccfmaaDoorIdentLaw
namespace Go.Proofs.YtnccmcnmoccfmaaDoor
open Go.RowKit
set_option linter.unusedVariables false

theorem bytes8_inj {n m : BitVec 64} (h : bytes8 n = bytes8 m) : n = m := by
  unfold bytes8 byteAt at h
  simp only [List.cons.injEq, and_true] at h
  obtain ⟨h0, h1, h2, h3, h4, h5, h6, h7⟩ := h
  have hn := n.isLt
  have hm := m.isLt
  have key : ∀ a b : Nat, UInt8.ofNat a = UInt8.ofNat b → a % 256 = b % 256 := fun a b h => by
    have := congrArg UInt8.toNat h
    rwa [UInt8.toNat_ofNat', UInt8.toNat_ofNat'] at this
  have k0 := key _ _ h0
  have k1 := key _ _ h1
  have k2 := key _ _ h2
  have k3 := key _ _ h3
  have k4 := key _ _ h4
  have k5 := key _ _ h5
  have k6 := key _ _ h6
  have k7 := key _ _ h7
  clear h0 h1 h2 h3 h4 h5 h6 h7 key
  apply BitVec.eq_of_toNat_eq
  generalize n.toNat = x at *
  generalize m.toNat = y at *
  have step : ∀ (x y e : Nat), x / 2 ^ (e + 8) = y / 2 ^ (e + 8) → x / 2 ^ e % 256 = y / 2 ^ e % 256 → x / 2 ^ e = y / 2 ^ e := by
    intro x y e h1 h2
    rw [Nat.pow_add, ← Nat.div_div_eq_div_mul, ← Nat.div_div_eq_div_mul] at h1
    generalize x / 2 ^ e = u at *
    generalize y / 2 ^ e = v at *
    have e8 : (2 : Nat) ^ 8 = 256 := rfl
    rw [e8] at h1
    omega
  have s8 : x / 2 ^ (56 + 8) = y / 2 ^ (56 + 8) := by
    rw [Nat.div_eq_of_lt hn, Nat.div_eq_of_lt hm]
  have s7 := step x y 56 s8 k0
  have s6 := step x y 48 s7 k1
  have s5 := step x y 40 s6 k2
  have s4 := step x y 32 s5 k3
  have s3 := step x y 24 s4 k4
  have s2 := step x y 16 s3 k5
  have s1 := step x y 8 s2 k6
  have s0 := step x y 0 s1 k7
  rwa [Nat.pow_zero, Nat.div_one, Nat.div_one] at s0
theorem idName_one_ne {xs ys : List UInt8} (h : fnv xs ≠ fnv ys) : idName 1 xs ≠ idName 1 ys := by
  unfold idName
  rw [if_pos rfl, if_pos rfl]
  intro e
  injection e with _ e
  exact h (bytes8_inj e)
theorem idPad_inj {s t : List UInt8} (hl : s.length = t.length) (h : idPad s = idPad t) : s = t := by
  unfold idPad at h
  exact (List.append_inj h hl).1
theorem idName_one_len (xs : List UInt8) : (idName 1 xs).length = 9 := by
  unfold idName
  rw [if_pos rfl]
  rfl
theorem idPad_one_ne {xs ys : List UInt8} (h : fnv xs ≠ fnv ys) : idPad (idName 1 xs) ≠ idPad (idName 1 ys) := fun e => idName_one_ne h (idPad_inj ((idName_one_len xs).trans (idName_one_len ys).symm) e)

theorem Own.set_at {B : Nat} {w : World} {g n cc : Nat} {bs : List UInt8} (h : Own B w (.slice (some ⟨g, 0, none⟩) n cc) bs) (hn : bs.length = n) (k : Nat) (x : UInt8) :
    Own B (w.setCell ⟨g, k, none⟩ (.int .u8 x.toNat)) (.slice (some ⟨g, 0, none⟩) n cc) (bs.set k x) ∧ w.grownBy (w.setCell ⟨g, k, none⟩ (.int .u8 x.toNat)) (some g) := by
  subst hn
  exact h.set k x
theorem Own.cell_at {B : Nat} {w : World} {g n cc : Nat} {bs : List UInt8} (h : Own B w (.slice (some ⟨g, 0, none⟩) n cc) bs) (hn : bs.length = n) {k : Nat} (hk : k < bs.length) : w.cell? ⟨g, k, none⟩ = some (.int .u8 bs[k].toNat) := by
  subst hn
  exact h.cell hk
theorem Own.frozen_at {B : Nat} {w : World} {g n cc : Nat} {bs : List UInt8} (h : Own B w (.slice (some ⟨g, 0, none⟩) n cc) bs) (hn : bs.length = n) (k : Nat) : w.frozen? ⟨g, k, none⟩ = false := by
  subst hn
  exact h.frozen k

theorem identTurned_out (b : Option Addr) (n cb : Nat) (at_ : Int) (c : UInt8) (w : World) (hT : Tab w) (hlb : n ≤ 140737488351232) (lo : -9223372036854775808 ≤ at_) (hi : at_ ≤ 9223372036854775807)
    (h : 4096 < n ∨ at_ < 0 ∨ (n : Int) ≤ at_ ∨ c = 0) :
    Calls Tryd.prog 5 #[.slice b n cb, .int .i64 at_, .int .u8 c.toNat] w fun e w' => e = .returned (.bool true) ∧ Ext w w' := by
  by_cases h1 : 4096 < n
  · go_enter Tryd.func5, Tryd.ntmps5
    go_wp2_with (go_at_call 8; refine (ident_alive _ hT).mono ?_; rintro e w1 ⟨rfl, hx1⟩)
    go_ret
    exact ⟨rfl, hx1⟩
  by_cases h2 : at_ < 0
  · go_enter Tryd.func5, Tryd.ntmps5
    go_wp2_with (go_at_call 8; refine (ident_alive _ hT).mono ?_; rintro e w1 ⟨rfl, hx1⟩)
    go_ret
    exact ⟨rfl, hx1⟩
  by_cases h3 : (n : Int) ≤ at_
  · go_enter Tryd.func5, Tryd.ntmps5
    go_wp2_with (go_at_call 8; refine (ident_alive _ hT).mono ?_; rintro e w1 ⟨rfl, hx1⟩)
    go_ret
    exact ⟨rfl, hx1⟩
  have h4 : c = 0 := by
    rcases h with h | h | h | h
    · exact absurd h h1
    · exact absurd h h2
    · exact absurd h h3
    · exact h
  subst h4
  go_enter Tryd.func5, Tryd.ntmps5
  go_wp2_with (go_at_call 8; refine (ident_alive _ hT).mono ?_; rintro e w1 ⟨rfl, hx1⟩)
  go_ret
  exact ⟨rfl, hx1⟩

set_option maxRecDepth 50000 in
set_option maxHeartbeats 4000000 in
theorem identTurned_calls (b : Option Addr) (n cb : Nat) (bs : List UInt8) (at_ : Int) (c : UInt8) (w : World) (hb : Cells w b (bv bs)) (hn : bs.length = n) (hcb : n ≤ cb) (hlb : n ≤ 140737488351232) (lo : -9223372036854775808 ≤ at_) (hi : at_ ≤ 9223372036854775807) (hT : Tab w) :
    Calls Tryd.prog 5 #[.slice b n cb, .int .i64 at_, .int .u8 c.toNat] w fun e w' => e = .returned (.bool true) ∧ Ext w w' := by
  by_cases h : 4096 < n ∨ at_ < 0 ∨ (n : Int) ≤ at_ ∨ c = 0
  · exact identTurned_out b n cb at_ c w hT hlb lo hi h
  simp only [not_or, Int.not_lt, Nat.not_lt, Int.not_le] at h
  obtain ⟨h1, h2, h3, h4⟩ := h
  obtain ⟨k, rfl⟩ := Int.eq_ofNat_of_zero_le h2
  have hkn : k < n := by omega
  have hk : k < bs.length := by omega
  have hc : (((c.toNat : Int) == 0) : Bool) = false := by
    rw [beq_eq_false_iff_ne]
    intro h
    apply h4
    apply UInt8.toNat_inj.1
    have : (0 : UInt8).toNat = 0 := rfl
    omega
  obtain ⟨b0, hb0⟩ : ∃ b0, b0 = bs[k] := ⟨_, rfl⟩
  have hx8 := xor_u8 b0 c
  obtain ⟨ys, hys⟩ : ∃ ys, ys = bs.set k (x8 b0 c) := ⟨_, rfl⟩
  have hyl : ys.length = n := by rw [hys, List.length_set, hn]
  have hne : fnv ys ≠ fnv bs := by rw [hys, hb0]; exact turned_ne bs k hk c h4
  have hnl : n ≤ 1048576 := by omega
  have hofy := fun g c2 w' hy hc2 hT' => idof_calls 1 (some ⟨g, 0, none⟩) n c2 ys w' hy hyl hc2 hnl hT'
  have hofb := fun w' hy hT' => idof_calls 1 b n cb bs w' hy hn hcb hnl hT'
  have e1 : (((1 : UInt8).toNat : Nat) : Int) = 1 := rfl
  simp only [e1] at hofy hofb
  have htxy := fun w' => idtext_calls (idPad (idName 1 ys)) w' (idPad_len33 1 ys)
  have htxb := fun w' => idtext_calls (idPad (idName 1 bs)) w' (idPad_len33 1 bs)
  rw [idText_of _ (by decide)] at htxy htxb
  have heq := fun w' => id_equal (idPad (idName 1 ys)) (idPad (idName 1 bs)) (idPad_len33 1 ys) (idPad_len33 1 bs) w'
  rw [beq_eq_false_iff_ne.2 (idPad_one_ne hne)] at heq
  have hstr := str_beq_ne (idName_one_ne hne)
  obtain ⟨S, hS⟩ : ∃ S, S = bstr (idName 1 ys) := ⟨_, rfl⟩
  obtain ⟨T, hTT⟩ : ∃ T, T = bstr (idName 1 bs) := ⟨_, rfl⟩
  unfold idv at hofy hofb htxy htxb
  obtain ⟨X, hX⟩ : ∃ X, X = (bv (idPad (idName 1 ys))).toArray := ⟨_, rfl⟩
  obtain ⟨Y, hY⟩ : ∃ Y, Y = (bv (idPad (idName 1 bs))).toArray := ⟨_, rfl⟩
  rw [← hX] at hofy htxy heq
  rw [← hY] at hofb htxb heq
  rw [← hS] at htxy hstr
  rw [← hTT] at htxb hstr
  have Hys := Lib.hid hys
  have Hb0 := Lib.hid hb0
  have Hn := Lib.hid hn
  clear hys hb0 hS hTT hX hY hne hyl hn
  go_enter Tryd.func5, Tryd.ntmps5
  go_wp2_with (first
    | (go_at_call 8; refine (ident_alive _ hT).mono ?_; rintro e w1 ⟨rfl, hx1⟩; have lit0 : Own w1.heap.size (w1.alloc (.cells #[] 5)) (.slice (some ⟨w1.heap.size, 0, none⟩) 0 0) [] := Own.lit [] #[] rfl (Nat.le_refl _) (by simp [maxLen]))
    | (at_builtin; refine wpList_append_u8 _ rfl (.tmp 27) (.tmp 28) rfl w1.heap.size (.slice (some ⟨w1.heap.size, 0, none⟩) 0 0) [] rfl lit0 b n cb bs rfl Hn.out ((hb.ext hx1).ext ((Ext.refl _).alloc _)) (by simp; omega) (by simp) ?_; intro v2 w2 hown2 hg2 _; have hx2 : Ext w1 w2 := lit0.grows ((Ext.refl _).alloc _) hg2; rw [List.nil_append] at hown2; have hx12 := hx1.trans hx2; obtain ⟨g2, c2, hv2, hbg2, hlg2, hl2⟩ := hown2.some_ (by omega); rw [Hn.out] at hv2 hl2; subst hv2; have hcell := hown2.cell_at Hn.out hk; rw [← Hb0.out] at hcell; have hfr := hown2.frozen_at Hn.out k; have hown3 := (hown2.set_at Hn.out k (x8 b0 c)).1; rw [← Hys.out] at hown3; have hc3 := hown3.cells; have hx3 := hx12.set (p := ⟨g2, k, none⟩) (Nat.le_trans hx1.size hbg2) (.int .u8 (x8 b0 c).toNat); have hb3 := hb.ext hx3; clear hg2)
    | (go_at_call 9; first
      | ((with_reducible refine (hofy g2 c2 _ (hc3.ext (Ext.refl _)) hl2 (hT.ext hx3)).mono ?_); rintro e w4 ⟨rfl, hx4⟩; have hx34 := hx3.trans hx4)
      | ((with_reducible refine (hofb _ (hb.ext hx34) (hT.ext hx34)).mono ?_); rintro e w5 ⟨rfl, hx5⟩; have hx35 := hx34.trans hx5)
      | ((with_reducible refine (hofy g2 c2 _ (hc3.ext (hx4.trans hx5)) hl2 (hT.ext hx35)).mono ?_); rintro e w6 ⟨rfl, hx6⟩; have hx36 := hx35.trans hx6)
      | ((with_reducible refine (hofb _ (hb.ext hx37) (hT.ext hx37)).mono ?_); rintro e w8 ⟨rfl, hx8⟩; have hx38 := hx37.trans hx8))
    | (go_at_call 13; first
      | ((with_reducible refine (htxy _).mono ?_); rintro e w7 ⟨rfl, hx7⟩; have hx37 := hx36.trans hx7)
      | ((with_reducible refine (htxb _).mono ?_); rintro e w9 ⟨rfl, hx9⟩; have hx39 := hx38.trans hx9)))
  all_goals (first | (go_ret; exact ⟨rfl, hx39⟩) | (trace_state; sorry))
end Go.Proofs.YtnccmcnmoccfmaaDoor

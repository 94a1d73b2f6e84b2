/- ShaIs: Of answers the digest that the document defines, of any pieces: the walk of the law. -/
import Derived.Test.YtfjponmpjofbkaaDoorShaLaw
namespace Go.Proofs.YtfjponmpjofbkaaDoor
open Go.RowKit
set_option linter.unusedVariables false

set_option maxRecDepth 100000 in
set_option maxHeartbeats 8000000 in
theorem is_calls (a : Option Addr) (c : Nat) (xs : List (List UInt8)) (w : World) (h : BSs w a xs) (hl : xs.length ≤ 140737488351232) (hl2 : ∀ x ∈ xs, x.length ≤ 140737488351232) (hT : Tab w) :
    Calls Tryd.prog 3 #[.slice a xs.length c] w fun e w' => e = .returned (.bool true) ∧ Ext w w' := by
  go_enter Tryd.func3, Tryd.ntmps3
  obtain ⟨n, hn⟩ : ∃ n, xs.length = n := ⟨_, rfl⟩
  rw [hn] at hl ⊢
  have heq := dg_eq xs.flatten
  go_wp2_with (go_at_call 8; ((with_reducible refine (sha_alive _ hT).mono ?_); rintro e w1 ⟨rfl, hx1⟩))
  go_loopg [3, 10] n (fun gk v i wr => ∃ (k : Nat) (L : Nat), k + gk = n ∧ i = .int .i64 k ∧ Aside (Own w.heap.size wr v (xs.take k).flatten ∧ L = (xs.take k).flatten.length) ∧ L ≤ 8192 ∧ (0 < k → n ≤ 200) ∧ Ext w wr)
  case atStart => exact ⟨0, 0, by omega, rfl, ⟨Own.nil _ _, rfl⟩, by omega, fun h => absurd h (by omega), hx1⟩
  case round =>
    clear hx1
    obtain ⟨k, L, hk, rfl, ⟨own, hL⟩, hL2, hn2, hx⟩ := hrel
    obtain ⟨A1, c1, rfl, hl3, hm3, hc3⟩ := Own.form_at own hL.symm
    cases gk with
    | succ j =>
      have hlt : k < xs.length := by omega
      obtain ⟨y, b, cb, hy, hcell, hcb, hb⟩ := h.get hlt
      subst hy
      have hcell' := hx.cell hcell
      have hpl := hl2 _ (List.getElem_mem hlt)
      have hfe := flat_take hlt
      obtain ⟨p, hp⟩ : ∃ p, p = xs[k] := ⟨_, rfl⟩
      rw [← hp] at hcell' hcb hb hfe hpl
      obtain ⟨pn, hpn⟩ : ∃ pn, pn = p.length := ⟨_, rfl⟩
      rw [← hpn] at hcell' hcb hpl
      have Hpn := Lib.hid hpn
      have HL := Lib.hid hL
      have Hown := Lib.hid own
      clear hp hpn hcell hL own hc3
      by_cases hout : 8192 < L + pn
      · have hout' : (8192 : Int) < (L : Int) + (pn : Int) := by omega
        go_wp2
        go_ret
        exact ⟨rfl, hx⟩
      by_cases hout2 : 200 < n
      · have hout' : ¬ (8192 : Int) < (L : Int) + (pn : Int) := by omega
        have hout2' : (200 : Int) < (n : Int) := by omega
        go_wp2
        go_ret
        exact ⟨rfl, hx⟩
      · have hout' : ¬ (8192 : Int) < (L : Int) + (pn : Int) := by omega
        have hout2' : ¬ (200 : Int) < (n : Int) := by omega
        go_wp2_with (at_builtin; refine wpList_append_u8 _ rfl (.tmp 25) (.tmp 26) rfl w.heap.size (.slice A1 L c1) (xs.take k).flatten rfl Hown.out b pn cb p rfl Hpn.out.symm (hb.ext hx) (by rw [← HL.out]; omega) hx.size ?_; intro v2 w2 own2 hg2 _; have hx2 : Ext w w2 := Hown.out.grows hx hg2; rw [hfe] at own2; clear hg2)
        go_roundg j
        case measure => omega
        case rel => exact ⟨k + 1, L + pn, by omega, by go_num, ⟨own2, by rw [← hfe, List.length_append, ← HL.out, ← Hpn.out]⟩, by omega, fun _ => by omega, hx2⟩
    | zero =>
      obtain rfl : k = n := by omega
      have hall : xs.take k = xs := by rw [← hn, List.take_length]
      rw [hall] at own hL hc3
      have hk2 : k ≤ 200 := by rcases Nat.eq_zero_or_pos k with e | e; omega; exact hn2 e
      have hfl : xs.flatten.length ≤ 8192 := by omega
      clear hall hk hn2 own
      obtain ⟨all, hal⟩ : ∃ all, xs.flatten = all := ⟨_, rfl⟩
      rw [hal] at hL hc3 hfl heq
      have HL := Lib.hid hL
      have Hn := Lib.hid hn
      have Hal := Lib.hid hal
      clear hL hal hn
      go_wp2_with (first
        | (go_at_call 9; ((with_reducible refine (shaOf_calls _ _ _ xs all _ (h.ext hx) Hn.out Hal.out (by omega) (by omega) (hT.ext hx)).mono ?_); rintro e w2 ⟨rfl, hx2⟩; have hxx2 := hx.trans hx2))
        | (go_at_call 10; ((with_reducible refine (refOf_calls _ _ _ all _ (hc3.ext hx2) HL.out.symm (by omega)).mono ?_); rintro e w3 ⟨rfl, hx3⟩; have hxx3 := hxx2.trans hx3; have hxy3 := hx2.trans hx3))
        | (go_at_call 9; ((with_reducible refine (shaOf_calls _ 1 1 [all] all _ (BSs.one (Cells.lit rfl [_] _ _) (BS.of HL.out.symm hl3 ((hc3.ext hxy3).ext ((Ext.refl _).alloc _)))) rfl (by simp) (by decide) (by omega) (hT.ext (hxx3.alloc _))).mono ?_); rintro e w4 ⟨rfl, hx4⟩; have hxx4 := (hxx3.alloc _).trans hx4))
        | (go_at_call 9; ((with_reducible refine (shaOf_calls _ _ _ xs all _ (h.ext hxx4) Hn.out Hal.out (by omega) (by omega) (hT.ext hxx4)).mono ?_); rintro e w5 ⟨rfl, hx5⟩; have hxx5 := hxx4.trans hx5)))
      go_ret
      exact ⟨rfl, hxx5⟩
end Go.Proofs.YtfjponmpjofbkaaDoor

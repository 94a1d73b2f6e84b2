/- ShaCuts: bytes that are cut anywhere into three have the digest of them whole: the walk of the law. -/
import Derived.Test.YtfjponmpjofbkaaDoorShaLaw
import Derived.Deep.RegionWith
namespace Go.Proofs.YtfjponmpjofbkaaDoor
open Go.RowKit
set_option linter.unusedVariables false

theorem BSs.three {w : World} {a : Option Addr} {u v x : Value} {us vs xs : List UInt8} (h : Cells w a [u, v, x]) (hu : BS w u us) (hv : BS w v vs) (hx : BS w x xs) : BSs w a [us, vs, xs] := by
  intro i bs hi
  match i with
  | 0 =>
    simp at hi; subst hi
    obtain ⟨y, e, hc⟩ := h 0 u rfl
    exact ⟨y, u, e, hc, hu⟩
  | 1 =>
    simp at hi; subst hi
    obtain ⟨y, e, hc⟩ := h 1 v rfl
    exact ⟨y, v, e, hc, hv⟩
  | 2 =>
    simp at hi; subst hi
    obtain ⟨y, e, hc⟩ := h 2 x rfl
    exact ⟨y, x, e, hc, hx⟩
  | n + 3 => simp at hi

theorem three_flat (bs : List UInt8) (i j : Nat) (hij : i ≤ j) : [bs.take i, (bs.drop i).take (j - i), bs.drop j].flatten = bs := by
  simp only [List.flatten_cons, List.flatten_nil, List.append_nil]
  have e : (bs.drop i).take (j - i) ++ bs.drop j = bs.drop i := by
    have := List.take_append_drop (j - i) (bs.drop i)
    rw [List.drop_drop, show i + (j - i) = j by omega] at this
    exact this
  rw [e, List.take_append_drop]

theorem cuts_out (A : Option Addr) (n c : Nat) (i j : Int) (w : World) (hT : Tab w) (hn : n ≤ 140737488351232) (h : 8192 < n ∨ i < 0 ∨ j < i ∨ (n : Int) < j) :
    Calls Tryd.prog 6 #[.slice A n c, .int .i64 i, .int .i64 j] w fun e w' => e = .returned (.bool true) ∧ Ext w w' := by
  by_cases h1 : 8192 < n
  · go_enter Tryd.func6, Tryd.ntmps6
    go_wp2_with (go_at_call 8; ((with_reducible refine (sha_alive _ hT).mono ?_); rintro e w1 ⟨rfl, hx1⟩))
    go_ret
    exact ⟨rfl, hx1⟩
  by_cases h2 : i < 0
  · go_enter Tryd.func6, Tryd.ntmps6
    go_wp2_with (go_at_call 8; ((with_reducible refine (sha_alive _ hT).mono ?_); rintro e w1 ⟨rfl, hx1⟩))
    go_ret
    exact ⟨rfl, hx1⟩
  by_cases h3 : j < i
  · go_enter Tryd.func6, Tryd.ntmps6
    go_wp2_with (go_at_call 8; ((with_reducible refine (sha_alive _ hT).mono ?_); rintro e w1 ⟨rfl, hx1⟩))
    go_ret
    exact ⟨rfl, hx1⟩
  · have h4 : (n : Int) < j := by omega
    go_enter Tryd.func6, Tryd.ntmps6
    go_wp2_with (go_at_call 8; ((with_reducible refine (sha_alive _ hT).mono ?_); rintro e w1 ⟨rfl, hx1⟩))
    go_ret
    exact ⟨rfl, hx1⟩

set_option maxHeartbeats 8000000 in
theorem cuts_calls (A : Option Addr) (c : Nat) (bs : List UInt8) (i j : Int) (w : World) (hb : Cells w A (bv bs)) (hlc : bs.length ≤ c) (hn : bs.length ≤ 140737488351232) (hT : Tab w) :
    Calls Tryd.prog 6 #[.slice A bs.length c, .int .i64 i, .int .i64 j] w fun e w' => e = .returned (.bool true) ∧ Ext w w' := by
  by_cases hout : 8192 < bs.length ∨ i < 0 ∨ j < i ∨ (bs.length : Int) < j
  · exact cuts_out A _ c i j w hT hn hout
  obtain ⟨k, rfl⟩ := Int.eq_ofNat_of_zero_le (show 0 ≤ i by omega)
  obtain ⟨l, rfl⟩ := Int.eq_ofNat_of_zero_le (show 0 ≤ j by omega)
  obtain ⟨n, hbn⟩ : ∃ n, bs.length = n := ⟨_, rfl⟩
  rw [hbn] at hout hlc hn ⊢
  have g1 : n ≤ 8192 := by omega
  have g2 : k ≤ l := by omega
  have g3 : l ≤ n := by omega
  have g4 : k ≤ n := by omega
  have g5 : k ≤ c := by omega
  have g6 : l ≤ c := by omega
  have i1 : (k : Int) ≤ (l : Int) := by omega
  have i2 : (l : Int) ≤ (n : Int) := by omega
  clear hout
  have heq := dg_eq bs
  have hf := three_flat bs k l g2
  have q1 : Cells w A (bv (bs.take k)) := by rw [← bv_take]; exact hb.take k
  have q2 := (cut_cells (sz := 1) (c := c) (k := k) hb (by rw [bv_len, hbn, Nat.mul_one]) g4 hlc).1
  have q3 := (cut_cells (sz := 1) (c := c) (k := l) hb (by rw [bv_len, hbn, Nat.mul_one]) g3 hlc).1
  simp only [Nat.mul_one, bv_drop] at q2 q3
  have q2 := q2.take (l - k)
  rw [bv_take] at q2
  have l1 : (bs.take k).length = k := by rw [List.length_take]; omega
  have l2 : ((bs.drop k).take (l - k)).length = l - k := by rw [List.length_take, List.length_drop]; omega
  have l3 : (bs.drop l).length = n - l := by rw [List.length_drop]; omega
  have Hbn := Lib.hid hbn
  clear hbn
  go_enter Tryd.func6, Tryd.ntmps6
  go_wp2_with (go_at_call 8; ((with_reducible refine (sha_alive _ hT).mono ?_); rintro e w1 ⟨rfl, hx1⟩))
  obtain ⟨A2, hA2⟩ : ∃ A2, (if c = k then A else Option.map (fun x => x.add k) A) = A2 := ⟨_, rfl⟩
  obtain ⟨A3, hA3⟩ : ∃ A3, (if c = l then A else Option.map (fun x => x.add l) A) = A3 := ⟨_, rfl⟩
  rw [hA2] at q2
  rw [hA3] at q3
  have hd1 : Ext w w1.drew := hx1.drew
  have hrow : ∀ (W : World) (a : Option Addr), Ext w W → Cells W a [.slice A k c, .slice A2 (l - k) (c - k), .slice A3 (n - l) (c - l)] → BSs W a [bs.take k, (bs.drop k).take (l - k), bs.drop l] := fun W a hW hc =>
    BSs.three hc (BS.of l1 g5 (q1.ext hW)) (BS.of l2 (by omega) (q2.ext hW)) (BS.of l3 (by omega) (q3.ext hW))
  have hN : bs.length ≤ 1048576 := by rw [Hbn.out]; omega
  clear l1 l2 l3 q1 q2 q3
  have hda : ∀ o, Ext w (w1.alloc o).drew := fun o => (hx1.alloc o).drew
  go_region_with (first
    | (go_at_call 9; ((with_reducible refine (shaOf_calls _ 3 3 _ bs _ (hrow _ _ ?e1 ?c1) rfl hf (by decide) hN (hT.ext ?e2)).mono ?_); ((case e1 => first | exact hda _ | exact hd1.alloc _ | exact hxx5.alloc _ | exact (hxx5.alloc _).drew | exact hxx5)); ((case e2 => first | exact hda _ | exact hd1.alloc _ | exact hxx5.alloc _ | exact (hxx5.alloc _).drew | exact hxx5)); ((case c1 => first | exact (Cells.lit rfl [_, _, _] _ _).ext (Ext.refl _).drew | exact Cells.lit rfl [_, _, _] _ _ | exact ((Cells.lit rfl [_, _, _] _ _).ext (Ext.refl _).drew).ext hx5 | exact (Cells.lit rfl [_, _, _] _ _).ext hx5)); rintro e w2 ⟨rfl, hx2⟩; (have hxx2 : Ext w w2 := by first | exact (hda _).trans hx2 | exact (hd1.alloc _).trans hx2 | exact (hxx5.alloc _).trans hx2 | exact hxx5.trans hx2)))
    | (go_at_call 10; ((with_reducible refine (refOf_calls A n c bs _ (hb.ext ?e1) Hbn.out (by omega)).mono ?_); (case e1 => first | exact hda _ | exact hd1 | exact hd1.alloc _ | exact hxx2); rintro e w5 ⟨rfl, hx5⟩; have hxx5 : Ext w w5 := by first | exact (hda _).trans hx5 | exact hd1.trans hx5 | exact (hd1.alloc _).trans hx5 | exact hxx2.trans hx5)))
  all_goals (go_wp2; go_ret; exact ⟨rfl, by first | exact hxx5 | exact hxx2⟩)
end Go.Proofs.YtfjponmpjofbkaaDoor

/- ShaPieces: however bytes are cut into pieces the digest is that of them whole: the walk of the law. -/
import Derived.Test.YtfjponmpjofbkaaDoorShaLaw
import Derived.Test.YtfjponmpjofbkaaDoorRows2
import Derived.Test.YtfjponmpjofbkaaDoorOpenInts
namespace Go.Proofs.YtfjponmpjofbkaaDoor
open Go.RowKit
set_option linter.unusedVariables false

theorem pieces_out (A : Option Addr) (n c : Nat) (a : Option Addr) (m cc : Nat) (w : World) (hT : Tab w) (hn : n ≤ 140737488351232) (hm : m ≤ 140737488351232) (h : 8192 < n ∨ 200 < m) :
    Calls Tryd.prog 7 #[.slice A n c, .slice a m cc] w fun e w' => e = .returned (.bool true) ∧ Ext w w' := by
  by_cases h1 : 8192 < n
  · go_enter Tryd.func7, Tryd.ntmps7
    go_wp2_with (go_at_call 8; ((with_reducible refine (sha_alive _ hT).mono ?_); rintro e w1 ⟨rfl, hx1⟩))
    go_ret
    exact ⟨rfl, hx1⟩
  · have h2 : 200 < m := by omega
    go_enter Tryd.func7, Tryd.ntmps7
    go_wp2_with (go_at_call 8; ((with_reducible refine (sha_alive _ hT).mono ?_); rintro e w1 ⟨rfl, hx1⟩))
    go_ret
    exact ⟨rfl, hx1⟩

set_option maxHeartbeats 8000000 in
theorem pieces_calls (A : Option Addr) (c : Nat) (bs : List UInt8) (a : Option Addr) (cc : Nat) (xs : List Int) (w : World) (hb : Cells w A (bv bs)) (hlc : bs.length ≤ c) (hn : bs.length ≤ 140737488351232)
    (hi : Cells w a (iv xs)) (hm : xs.length ≤ 140737488351232) (hlo : ∀ x ∈ xs, -9223372036854775808 ≤ x ∧ x ≤ 9223372036854775807) (hT : Tab w) :
    Calls Tryd.prog 7 #[.slice A bs.length c, .slice a xs.length cc] w fun e w' => e = .returned (.bool true) ∧ Ext w w' := by
  by_cases hout : 8192 < bs.length ∨ 200 < xs.length
  · exact pieces_out A _ c a _ cc w hT hn hm hout
  obtain ⟨n, hbn⟩ : ∃ n, bs.length = n := ⟨_, rfl⟩
  obtain ⟨m, hxm⟩ : ∃ m, xs.length = m := ⟨_, rfl⟩
  rw [hbn, hxm] at hout
  rw [hbn] at hlc hn ⊢
  rw [hxm] at hm ⊢
  have g1 : n ≤ 8192 := by omega
  have g2 : m ≤ 200 := by omega
  have g1' : ¬ (8192 : Int) < (n : Int) := by omega
  have g2' : ¬ (200 : Int) < (m : Int) := by omega
  have Hbn := Lib.hid hbn
  have Hxm := Lib.hid hxm
  clear hout hbn hxm
  have heq := dg_eq bs
  go_enter Tryd.func7, Tryd.ntmps7
  go_wp2_with (go_at_call 8; ((with_reducible refine (sha_alive _ hT).mono ?_); rintro e w1 ⟨rfl, hx1⟩))
  have e1 : decide ((8192 : Int) < (n : Int)) = false := decide_eq_false (by omega)
  have e2 : decide ((200 : Int) < (m : Int)) = false := decide_eq_false (by omega)
  rw [e1, e2, Bool.or_false]
  clear e1 e2
  go_loopg [5, 6, 21] m (fun gk v at_ i wr => ∃ (k t : Nat) (ps : List Value) (ys : List (List UInt8)), k + gk = m ∧ i = .int .i64 k ∧ at_ = .int .i64 t ∧ t ≤ n ∧ Aside (OwnR w.heap.size wr v ps ∧ Reads w ps ys ∧ ys.length = 2 * k ∧ ys.flatten = bs.take t) ∧ Ext w wr)
  case atStart => exact ⟨0, 0, [], [], by omega, rfl, rfl, by omega, ⟨OwnR.nil _ _, Reads.nil _, rfl, rfl⟩, hx1⟩
  case round =>
    clear hx1
    obtain ⟨k, t, ps, ys, hk, rfl, rfl, htn, hasd, hx⟩ := hrel
    obtain ⟨own, hrd, hyl, hfl⟩ := hasd
    obtain ⟨A2, hA2⟩ : ∃ A2, (if c = t then A else Option.map (fun x => x.add t) A) = A2 := ⟨_, rfl⟩
    have q2 := (cut_cells (sz := 1) (c := c) (k := t) hb (by rw [bv_len, Hbn.out, Nat.mul_one]) htn hlc).1
    simp only [Nat.mul_one, bv_drop] at q2
    rw [hA2] at q2
    have htc : t ≤ c := by omega
    have Hyl := Lib.hid hyl
    have Hown := Lib.hid own
    have Hfl := Lib.hid hfl
    have hpl : ps.length = 2 * k := by rw [hrd.1, hyl]
    have Hpl := Lib.hid hpl
    clear hyl own hfl hpl
    cases gk with
    | succ j =>
      have hlt : k < xs.length := by rw [Hxm.out]; omega
      obtain ⟨x, rfl, hcell⟩ := hi k _ (iv_get hlt)
      have hcell' := hx.cell hcell
      have hbx := hlo _ (List.getElem_mem hlt)
      obtain ⟨z, hz⟩ : ∃ z, z = xs[k] := ⟨_, rfl⟩
      rw [← hz] at hcell' hbx
      clear hcell hz
      obtain ⟨hz0, hz1⟩ := hbx
      by_cases hneg : z < 0
      · go_wp2
        go_ret
        exact ⟨rfl, hx⟩
      obtain ⟨q, rfl⟩ := Int.eq_ofNat_of_zero_le (show 0 ≤ z by omega)
      by_cases hbig : (n : Int) - (t : Int) < (q : Int)
      · go_wp2
        go_ret
        exact ⟨rfl, hx⟩
      have hq : t + q ≤ n := by omega
      have q3 := q2.take q
      rw [bv_take] at q3
      have l3 : ((bs.drop t).take q).length = q := by rw [List.length_take, List.length_drop, Hbn.out]; omega
      have hneg' : (0 : Int) ≤ (q : Int) := by omega
      have hbig' : ¬ (n : Int) - (t : Int) < (q : Int) := by omega
      have k1 : t ≤ t + q := by omega
      have k2 : t + q ≤ c := by omega
      have k4 : t + q - t = q := by omega
      have k5 : q ≤ c - t := by omega
      obtain ⟨A1, c1, hv, hl1, hm1, hc1⟩ := Hown.out.form
      have hlit : ∀ W : World, Ext w W → Reads W [.slice A2 q (c - t), .slice none 0 0] [(bs.drop t).take q, []] := fun W hW => Reads.two (BS.of l3 k5 (q3.ext hW)) (BS.nil W)
      have hlit1 := (hlit wr hx).one_cell
      have hlen2 : ps.length + 2 ≤ 1048576 := by rw [Hpl.out]; omega
      clear hl1 hm1 hc1 hv q3
      go_wp2_with (at_builtin; refine wpList_append_row _ rfl (.tmp 35) (.tmp 42) rfl w.heap.size u5 ps rfl (Hown.out.ext ((Ext.refl _).alloc _)) (some ⟨wr.heap.size, 0, none⟩) 2 2 [.slice A2 q (c - t), .slice none 0 0] rfl rfl (Cells.lit rfl [_, _] _ _) hlit1 hlen2 (hx.alloc _).size ?_; intro v2 w2 own2 hg2; have hx2 : Ext w w2 := (Hown.out.ext ((Ext.refl _).alloc _)).grows (hx.alloc _) hg2; clear hg2)
      go_roundg j
      case measure => omega
      case rel =>
        refine ⟨k + 1, t + q, _, ys ++ [(bs.drop t).take q, []], by omega, by go_num, by go_num, hq, ⟨own2, hrd.append (hlit w (Ext.refl w)), by rw [List.length_append, Hyl.out]; simp; omega, ?_⟩, hx2⟩
        rw [List.flatten_append, Hfl.out, List.take_add]
        simp
    | zero =>
      obtain rfl : k = m := by omega
      have l3 : (bs.drop t).length = n - t := by rw [List.length_drop, Hbn.out]
      have hlit : ∀ W : World, Ext w W → Reads W [.slice A2 (n - t) (c - t)] [bs.drop t] := fun W hW => Reads.one (BS.of l3 (by omega) (q2.ext hW))
      have hlit1 := (hlit wr hx).one_cell
      have hlen2 : ps.length + 1 ≤ 1048576 := by rw [Hpl.out]; omega
      have hrd2 := hrd.append (hlit w (Ext.refl w))
      obtain ⟨N, hN⟩ : ∃ N, (ps ++ [Value.slice A2 (n - t) (c - t)]).length = N := ⟨_, rfl⟩
      have hN2 : N = 2 * k + 1 := by rw [← hN, List.length_append, Hpl.out]; rfl
      have HN := Lib.hid hN
      have hNy : (ys ++ [bs.drop t]).length = N := by rw [hN2, List.length_append, Hyl.out]; rfl
      have HNy := Lib.hid hNy
      have HN2 : N ≤ 1048576 := by omega
      have hfl2 : (ys ++ [bs.drop t]).flatten = bs := by rw [List.flatten_append, Hfl.out]; simp
      have hbl : bs.length ≤ 1048576 := by rw [Hbn.out]; omega
      clear hN hN2 hNy
      go_wp2_with (first
        | (at_builtin; refine wpList_append_row _ rfl (.tmp 48) (.tmp 52) rfl w.heap.size u5 ps rfl (Hown.out.ext ((Ext.refl _).alloc _)) (some ⟨wr.heap.size, 0, none⟩) 1 1 [.slice A2 (n - t) (c - t)] rfl rfl (Cells.lit rfl [_] _ _) hlit1 hlen2 (hx.alloc _).size ?_; intro v2 w2 own2 hg2; have hx2 : Ext w w2 := (Hown.out.ext ((Ext.refl _).alloc _)).grows (hx.alloc _) hg2; clear hg2; obtain ⟨A3, c3, hv3, hl3, hm3, hc3⟩ := OwnR.form_at own2 HN.out; subst hv3; clear own2)
        | (go_at_call 9; ((with_reducible refine (shaOf_calls _ _ _ (ys ++ [bs.drop t]) bs _ ((hrd2.ext hx2).bss hc3) HNy.out hfl2 HN2 hbl (hT.ext hx2)).mono ?_); rintro e w4 ⟨rfl, hx4⟩; have hxx4 := hx2.trans hx4))
        | (go_at_call 10; ((with_reducible refine (refOf_calls _ _ _ bs _ (hb.ext hxx4) Hbn.out (by omega)).mono ?_); rintro e w5 ⟨rfl, hx5⟩; have hxx5 := hxx4.trans hx5)))
      go_ret
      exact ⟨rfl, hxx5⟩
end Go.Proofs.YtfjponmpjofbkaaDoor

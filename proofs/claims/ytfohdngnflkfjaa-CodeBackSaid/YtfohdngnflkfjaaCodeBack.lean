/- CodeBack: the walk of the law. -/
import Derived.Test.YtfohdngnflkfjaaCodeWrites
import Derived.Deep.RegionWith
namespace Go.Proofs.Ytfohdngnflkfjaa
open Go.RowKit
set_option linter.unusedVariables false

theorem Rdr.lt {w : World} {g : Nat} {r : PR} (h : Rdr w g r) : g < w.heap.size := let ⟨_, _, h1, _⟩ := h; h1.lt
theorem Boxed.turns {w w' : World} {b g : Nat} {q : Pt} (h : Boxed w b q) (k : Turns w w' g) (hne : b ≠ g) : Boxed w' b q :=
  have e : some b ≠ some g := fun e => hne (Option.some.inj e)
  ⟨k.cell h.c0 e, k.cell h.c1 e, k.cell h.c2 e, k.cell h.c3 e, k.cell h.c4 e, k.cell h.c5 e⟩

theorem ruint_val (g : Nat) (r : PR) (m : Nat) (r' : PR) (w : World) (h : Rdr w g r) (hp : r.uint = (m, r')) :
    Calls Try.prog 21 #[.pointer (some ⟨g, 0, none⟩)] w fun e w' => e = .returned (.int .u64 (m : Nat)) ∧ Rdr w' g r' ∧ Turns w w' g := by
  have := ruint_calls g r w h
  rw [hp] at this
  exact this
theorem rint_val (g : Nat) (r : PR) (m : Int) (r' : PR) (w : World) (h : Rdr w g r) (hp : r.int = (m, r')) :
    Calls Try.prog 24 #[.pointer (some ⟨g, 0, none⟩)] w fun e w' => e = .returned (.int .i64 m) ∧ Rdr w' g r' ∧ Turns w w' g := by
  have := rint_calls g r w h
  rw [hp] at this
  exact this
theorem rin_val (g : Nat) (r : PR) (lo hi m : Int) (r' : PR) (w : World) (h : Rdr w g r) (hp : r.in_ lo hi = (m, r')) :
    Calls Try.prog 28 #[.pointer (some ⟨g, 0, none⟩), .int .i64 lo, .int .i64 hi] w fun e w' => e = .returned (.int .i64 m) ∧ Rdr w' g r' ∧ Turns w w' g := by
  have := rin_calls g r lo hi w h
  rw [hp] at this
  exact this
theorem rtake_val (g : Nat) (r : PR) (n : Int) (s : ByteArray) (r' : PR) (w : World) (h : Rdr w g r) (hp : r.take n = (s.data.toList, r')) :
    Calls Try.prog 17 #[.pointer (some ⟨g, 0, none⟩), .int .i64 n] w fun e w' => e = .returned (.string s) ∧ Rdr w' g r' ∧ Turns w w' g := by
  have := rtake_calls g r n w h
  rw [hp, bstr_of] at this
  exact this
theorem rtext_val (g : Nat) (r : PR) (n : Int) (s : ByteArray) (r' : PR) (w : World) (h : Rdr w g r) (hn : n ≤ 9223372036854775807) (hp : r.text n = (s.data.toList, r')) :
    Calls Try.prog 23 #[.pointer (some ⟨g, 0, none⟩), .int .i64 n] w fun e w' => e = .returned (.string s) ∧ Rdr w' g r' ∧ Turns w w' g := by
  have := rtext_calls g r n w h hn
  rw [hp, bstr_of] at this
  exact this

theorem wrs_drop (xs : List Pt) (k : Nat) (h : k < xs.length) : wrs (xs.drop k) = xs[k].out ++ wrs (xs.drop (k + 1)) := by
  unfold wrs
  rw [List.drop_eq_getElem_cons h, List.flatMap_cons]
theorem PR.in_of (n : Int) (h0 : -9223372036854775808 ≤ n) (h1 : n ≤ 9223372036854775807) (r : List UInt8) : PR.in_ ⟨intB n ++ r, false⟩ n n = (n, ⟨r, false⟩) := by
  unfold PR.in_
  rw [PR.int_of n h0 h1]
  simp

set_option maxHeartbeats 8000000 in
theorem back_calls (A : Option Addr) (n c : Nat) (xs : List Pt) (w : World) (h : Pts w A xs) (hn : xs.length = n) (hl : n ≤ 140737488351232) :
    Calls Try.prog 8 #[.slice A n c] w fun e w' => e = .returned (.bool true) ∧ Ext w w' := by
  by_cases hg : tot xs ≤ 16384 ∧ n ≤ 200
  case neg =>
    have hgr := great_yes hg
    have HN := Lib.hid hn
    have HGR := Lib.hid hgr
    clear hn hg hgr
    go_enter Try.func8, Try.ntmps8
    go_wp2_with (first
      | (go_at_call 10; refine (alive_calls _).mono ?_; rintro e w1 ⟨rfl, hx⟩)
      | (go_at_call 19; (with_reducible refine (great_calls A n c xs _ (h.ext hx) HN.out hl).mono ?_); rintro e w2 ⟨rfl, hx2⟩; rw [HGR.out]; replace hx := hx.trans hx2; clear hx2))
    go_ret
    exact ⟨rfl, hx⟩
  case pos =>
    have hgr := great_no hg
    subst hn
    have HG := Lib.hid hg
    have HGR := Lib.hid hgr
    have hwl := wrs_len xs h.ok
    have HW := Lib.hid (show (wrs xs).length ≤ 140737488351232 by omega)
    clear hg hgr hwl
    go_enter Try.func8, Try.ntmps8
    go_wp2_with (first
      | (go_at_call 10; refine (alive_calls _).mono ?_; rintro e w1 ⟨rfl, hx⟩)
      | (go_at_call 19; (with_reducible refine (great_calls A xs.length c xs _ (h.ext hx) rfl hl).mono ?_); rintro e w2 ⟨rfl, hx2⟩; rw [HGR.out]; replace hx := hx.trans hx2; clear hx2)
      | (go_at_call 20; (with_reducible refine (written_calls A xs.length c xs _ (h.ext hx) rfl HG.out.2 HG.out.1).mono ?_); rintro e w3 ⟨v3, rfl, hown, hx3⟩; replace hx := hx.trans hx3; clear hx3; obtain ⟨A3, c3, rfl, hl3, hm3, hc3⟩ := hown.form; clear hown)
      | (go_at_call 14; (with_reducible refine (read_calls A3 (wrs xs).length c3 (wrs xs) _ hc3 rfl HW.out).mono ?_); rintro e w4 ⟨g, rfl, hg, hr, hx4⟩; have hgw := Nat.le_trans hx.size hg; replace hx := hx.trans hx4; clear hx4 hg hc3))
    go_loopg [22] (xs.length) (fun r i wr => ∃ k : Nat, i = .int .i64 k ∧ k + r = xs.length ∧ Aside (Rdr wr g ⟨wrs (xs.drop k), false⟩) ∧ Ext w wr)
    case atStart => exact ⟨0, rfl, by omega, hr, hx⟩
    case round =>
      clear hr hx
      obtain ⟨k, rfl, hk, hr, hx⟩ := hrel
      by_cases hlt : k < xs.length
      · obtain ⟨x, rfl, hc⟩ := (h.get hlt).2
        have hc' : ∀ j v, xs[k].cs[j]? = some v → wr.cell? ((x.add (k * 6)).add j) = some v := fun j v hv => hx.cell (hc j v hv)
        have hok := (h.get hlt).1
        obtain ⟨q, hq⟩ : ∃ q, q = xs[k] := ⟨_, rfl⟩
        have htk := wrs_drop xs k hlt
        rw [← hq] at hc' htk hok
        have HT := Lib.hid htk
        have HOK := Lib.hid hok
        have hne : wr.heap.size ≠ g := fun e => by have := hr.out.lt; omega
        have hqs : (q.s.size : Int) ≤ 9223372036854775807 := by have := hok.s1; omega
        have HQS := Lib.hid hqs
        clear hq htk hok hc hqs
        have hz : Ext wr (wr.alloc (.cells #[.int .i64 0, .int .u64 0, .int .i64 0, .string ⟨#[]⟩, .int .i64 0, .int .i64 0] 48)) := (Ext.refl _).alloc _
        obtain ⟨r, rfl⟩ : ∃ r, gk = r + 1 := ⟨gk - 1, by omega⟩
        by_cases k0 : q.k = 0
        · have hout : q.out = uintB q.u := by unfold Pt.out; rw [if_pos k0]
          have kb0 : ((q.k == 0) : Bool) = true := by rw [k0]; rfl
          have HP := Lib.hid (show PR.uint ⟨wrs (xs.drop k), false⟩ = (q.u, ⟨wrs (xs.drop (k + 1)), false⟩) by rw [HT.out, hout]; exact PR.uint_of _ (by have := HOK.out.u1; omega) _ _)
          clear k0
          clear hout
          go_wp2_with (first
            | (refine wpList_load_cells rfl 48 (.tmp 24) rfl (x.add (k * 6)) rfl q.cs _ hc' Try.underlying48 rfl pt_info ?_)
            | (refine wpList_store_blk rfl 48 (.tmp 7) (.tmp 25) rfl rfl wr.heap.size q.cs.toArray rfl rfl _ _ (Blk.new wr _ _) rfl (by kernel_rfl) ?_ ?_; (exact q.one); intro w3 hb3 hg3; have hxr := hz.grown_ hg3 (by intro j hj; cases hj; exact Nat.le_refl _); have hx3 := hx.trans hxr; have hr3 := hr.out.ext hxr; have hb := Boxed.of hb3; have hbd := hb.ext (Ext.refl w3).drew; have hrd := hr3.ext (Ext.refl w3).drew; have hxd : Ext w w3.drew := hx3.drew; obtain ⟨b0, b1, b2, b3, b4, b5⟩ := hb; obtain ⟨d0, d1, d2, d3, d4, d5⟩ := hbd; clear hc' hr hb3 hg3 hz hr3))
          go_region_with (go_at_call 21; refine (ruint_val g _ _ _ _ hrd HP.out).mono ?_; rintro e w4 ⟨rfl, hr4, ht4⟩; have hx4 := ht4.ext hxd hgw; have hb4 := (Boxed.mk d0 d1 d2 d3 d4 d5).turns ht4 hne; obtain ⟨e0, e1, e2, e3, e4, e5⟩ := hb4)
          all_goals
            go_wp2
            go_roundg r
            case measure => omega
            case rel => exact ⟨k + 1, by go_num, by omega, hr4, hx4⟩
        have kb0 : ((q.k == 0) : Bool) = false := by rw [beq_eq_false_iff_ne]; exact k0
        by_cases k2 : q.k = 2
        · have hout : q.out = textB q.s.data.toList := by unfold Pt.out; rw [if_neg k0, if_pos k2]
          have kb2 : ((q.k == 2) : Bool) = true := by rw [k2]; rfl
          have HP := Lib.hid (show PR.text ⟨wrs (xs.drop k), false⟩ q.s.size = (q.s.data.toList, ⟨wrs (xs.drop (k + 1)), false⟩) by rw [HT.out, hout]; exact PR.text_of _ _ _ (by rw [str_len]; omega) (by rw [str_len]; have := HQS.out; omega))
          clear k0 k2
          clear hout
          go_wp2_with (first
            | (refine wpList_load_cells rfl 48 (.tmp 24) rfl (x.add (k * 6)) rfl q.cs _ hc' Try.underlying48 rfl pt_info ?_)
            | (refine wpList_store_blk rfl 48 (.tmp 7) (.tmp 25) rfl rfl wr.heap.size q.cs.toArray rfl rfl _ _ (Blk.new wr _ _) rfl (by kernel_rfl) ?_ ?_; (exact q.one); intro w3 hb3 hg3; have hxr := hz.grown_ hg3 (by intro j hj; cases hj; exact Nat.le_refl _); have hx3 := hx.trans hxr; have hr3 := hr.out.ext hxr; have hb := Boxed.of hb3; have hbd := hb.ext (Ext.refl w3).drew; have hrd := hr3.ext (Ext.refl w3).drew; have hxd : Ext w w3.drew := hx3.drew; obtain ⟨b0, b1, b2, b3, b4, b5⟩ := hb; obtain ⟨d0, d1, d2, d3, d4, d5⟩ := hbd; clear hc' hr hb3 hg3 hz hr3))
          go_region_with (go_at_call 23; refine (rtext_val g _ _ q.s _ _ hrd HQS.out HP.out).mono ?_; rintro e w4 ⟨rfl, hr4, ht4⟩; have hx4 := ht4.ext hxd hgw; have hb4 := (Boxed.mk d0 d1 d2 d3 d4 d5).turns ht4 hne; obtain ⟨e0, e1, e2, e3, e4, e5⟩ := hb4)
          all_goals
            go_wp2
            go_roundg r
            case measure => omega
            case rel => exact ⟨k + 1, by go_num, by omega, hr4, hx4⟩
        have kb2 : ((q.k == 2) : Bool) = false := by rw [beq_eq_false_iff_ne]; exact k2
        by_cases k4 : q.k = 4
        · have hout : q.out = q.s.data.toList := by unfold Pt.out; rw [if_neg k0, if_neg k2, if_pos k4]
          have kb4 : ((q.k == 4) : Bool) = true := by rw [k4]; rfl
          have kb3 : ((q.k == 3) : Bool) = false := by rw [k4]; rfl
          have HP := Lib.hid (show PR.take ⟨wrs (xs.drop k), false⟩ q.s.size = (q.s.data.toList, ⟨wrs (xs.drop (k + 1)), false⟩) by rw [HT.out, hout, ← str_len]; exact PR.take_of _ _)
          clear k0 k2 k4
          clear hout
          go_wp2_with (first
            | (refine wpList_load_cells rfl 48 (.tmp 24) rfl (x.add (k * 6)) rfl q.cs _ hc' Try.underlying48 rfl pt_info ?_)
            | (refine wpList_store_blk rfl 48 (.tmp 7) (.tmp 25) rfl rfl wr.heap.size q.cs.toArray rfl rfl _ _ (Blk.new wr _ _) rfl (by kernel_rfl) ?_ ?_; (exact q.one); intro w3 hb3 hg3; have hxr := hz.grown_ hg3 (by intro j hj; cases hj; exact Nat.le_refl _); have hx3 := hx.trans hxr; have hr3 := hr.out.ext hxr; have hb := Boxed.of hb3; have hbd := hb.ext (Ext.refl w3).drew; have hrd := hr3.ext (Ext.refl w3).drew; have hxd : Ext w w3.drew := hx3.drew; obtain ⟨b0, b1, b2, b3, b4, b5⟩ := hb; obtain ⟨d0, d1, d2, d3, d4, d5⟩ := hbd; clear hc' hr hb3 hg3 hz hr3))
          go_region_with (go_at_call 17; refine (rtake_val g _ _ q.s _ _ hrd HP.out).mono ?_; rintro e w4 ⟨rfl, hr4, ht4⟩; have hx4 := ht4.ext hxd hgw; have hb4 := (Boxed.mk d0 d1 d2 d3 d4 d5).turns ht4 hne; obtain ⟨e0, e1, e2, e3, e4, e5⟩ := hb4)
          all_goals
            go_wp2
            go_roundg r
            case measure => omega
            case rel => exact ⟨k + 1, by go_num, by omega, hr4, hx4⟩
        have kb4 : ((q.k == 4) : Bool) = false := by rw [beq_eq_false_iff_ne]; exact k4
        have hout : q.out = intB q.n := by unfold Pt.out; rw [if_neg k0, if_neg k2, if_neg k4]
        by_cases k3 : q.k = 3
        · have kb3 : ((q.k == 3) : Bool) = true := by rw [k3]; rfl
          have HP := Lib.hid (show PR.in_ ⟨wrs (xs.drop k), false⟩ q.n q.n = (q.n, ⟨wrs (xs.drop (k + 1)), false⟩) by rw [HT.out, hout]; exact PR.in_of _ HOK.out.n0 HOK.out.n1 _)
          clear k0 k2 k4 k3
          clear hout
          go_wp2_with (first
            | (refine wpList_load_cells rfl 48 (.tmp 24) rfl (x.add (k * 6)) rfl q.cs _ hc' Try.underlying48 rfl pt_info ?_)
            | (refine wpList_store_blk rfl 48 (.tmp 7) (.tmp 25) rfl rfl wr.heap.size q.cs.toArray rfl rfl _ _ (Blk.new wr _ _) rfl (by kernel_rfl) ?_ ?_; (exact q.one); intro w3 hb3 hg3; have hxr := hz.grown_ hg3 (by intro j hj; cases hj; exact Nat.le_refl _); have hx3 := hx.trans hxr; have hr3 := hr.out.ext hxr; have hb := Boxed.of hb3; have hbd := hb.ext (Ext.refl w3).drew; have hrd := hr3.ext (Ext.refl w3).drew; have hxd : Ext w w3.drew := hx3.drew; obtain ⟨b0, b1, b2, b3, b4, b5⟩ := hb; obtain ⟨d0, d1, d2, d3, d4, d5⟩ := hbd; clear hc' hr hb3 hg3 hz hr3))
          go_region_with (go_at_call 28; refine (rin_val g _ _ _ _ _ _ hrd HP.out).mono ?_; rintro e w4 ⟨rfl, hr4, ht4⟩; have hx4 := ht4.ext hxd hgw; have hb4 := (Boxed.mk d0 d1 d2 d3 d4 d5).turns ht4 hne; obtain ⟨e0, e1, e2, e3, e4, e5⟩ := hb4)
          all_goals
            go_wp2
            go_roundg r
            case measure => omega
            case rel => exact ⟨k + 1, by go_num, by omega, hr4, hx4⟩
        · have kb3 : ((q.k == 3) : Bool) = false := by rw [beq_eq_false_iff_ne]; exact k3
          have HP := Lib.hid (show PR.int ⟨wrs (xs.drop k), false⟩ = (q.n, ⟨wrs (xs.drop (k + 1)), false⟩) by rw [HT.out, hout]; exact PR.int_of _ HOK.out.n0 HOK.out.n1 _ _)
          clear k0 k2 k4 k3
          clear hout
          go_wp2_with (first
            | (refine wpList_load_cells rfl 48 (.tmp 24) rfl (x.add (k * 6)) rfl q.cs _ hc' Try.underlying48 rfl pt_info ?_)
            | (refine wpList_store_blk rfl 48 (.tmp 7) (.tmp 25) rfl rfl wr.heap.size q.cs.toArray rfl rfl _ _ (Blk.new wr _ _) rfl (by kernel_rfl) ?_ ?_; (exact q.one); intro w3 hb3 hg3; have hxr := hz.grown_ hg3 (by intro j hj; cases hj; exact Nat.le_refl _); have hx3 := hx.trans hxr; have hr3 := hr.out.ext hxr; have hb := Boxed.of hb3; have hbd := hb.ext (Ext.refl w3).drew; have hrd := hr3.ext (Ext.refl w3).drew; have hxd : Ext w w3.drew := hx3.drew; obtain ⟨b0, b1, b2, b3, b4, b5⟩ := hb; obtain ⟨d0, d1, d2, d3, d4, d5⟩ := hbd; clear hc' hr hb3 hg3 hz hr3))
          go_region_with (go_at_call 24; refine (rint_val g _ _ _ _ hrd HP.out).mono ?_; rintro e w4 ⟨rfl, hr4, ht4⟩; have hx4 := ht4.ext hxd hgw; have hb4 := (Boxed.mk d0 d1 d2 d3 d4 d5).turns ht4 hne; obtain ⟨e0, e1, e2, e3, e4, e5⟩ := hb4)
          all_goals
            go_wp2
            go_roundg r
            case measure => omega
            case rel => exact ⟨k + 1, by go_num, by omega, hr4, hx4⟩
      · obtain rfl : k = xs.length := by omega
        rw [List.drop_length] at hr
        have HR : Rdr wr g ⟨[], false⟩ := hr.out
        go_wp2_with (go_at_call 32; (with_reducible refine (rend_calls g _ _ HR).mono ?_); rintro e w5 ⟨rfl, rfl⟩)
        go_ret
        exact ⟨rfl, hx⟩
end Go.Proofs.Ytfohdngnflkfjaa

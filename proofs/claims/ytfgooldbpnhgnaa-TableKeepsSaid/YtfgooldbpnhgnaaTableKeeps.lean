/- TableKeeps: the walk. -/
import Derived.Test.YtfgooldbpnhgnaaTabLaw
import Derived.Test.YtfgooldbpnhgnaaTabJoin
import Derived.Test.YtfgooldbpnhgnaaOpenTab
namespace Go.Proofs.Ytfgooldbpnhgnaa
open Go.RowKit Go.Shelf
set_option linter.unusedVariables false

theorem TabAt.past {B p : Nat} {w w' : World} {l : List W3} (h : TabAt B w p l) {row : Option Nat} (hg : w.grownBy w' row) (hr : ∀ j, row = some j → j < B) (hp : B ≤ p) : TabAt B w' p l := by
  obtain ⟨A, c, h1, h2⟩ := h
  refine ⟨A, c, h1.grown hg (fun e => ?_), own_past h2 hg hr⟩
  have := hr p e.symm
  omega
set_option maxRecDepth 50000 in
set_option maxHeartbeats 8000000 in
theorem tableKeeps_calls (ls : List W3) (A : Option Addr) (n c : Nat) (w : World) (hr : Row w A 3 (ls.map wC)) (hn : ls.length = n) (hl : n ≤ 140737488351232) (hi : ∀ p ∈ ls, okW p) :
    Calls Try.prog 4 #[.slice A n c] w fun e w' => e = .returned (.bool true) ∧ Ext w w' := by
  have Hr := Lib.hid hr
  have Hi := Lib.hid hi
  have Hn := Lib.hid hn
  clear hr hi hn
  go_enter Try.func4, Try.ntmps4
  have hm0 : (0 : Int) ≤ 4096 ∧ (4096 : Int) ≤ 1000000 := by decide
  go_upto_region 3 with (first
    | (go_at_call 10; (with_reducible refine (tab_alive w).mono ?_); rintro e w1 ⟨rfl, hx1⟩))
  have HG := Lib.hid (rgreat_calls ls A n c 4096 w1 (Hr.out.ext hx1) Hn.out hl hm0 Hi.out)
  clear hm0
  go_upto_region 5 with (first
    | (go_at_call 11; (with_reducible refine HG.out.mono ?_); rintro e w2 ⟨⟨b, rfl, hb⟩, hx2⟩; cases b))
  rotate_left
  · go_ret
    exact ⟨rfl, hx1.trans hx2⟩
  have hn4 : (n : Int) ≤ 4096 := by simpa using hb
  have hn4' : n ≤ 4096 := by omega
  have hx02 := hx1.trans hx2
  clear hb HG hx1 hx2 hn4
  have lit : (w2.alloc (.cells #[] 44)).ownsRow w2.heap.size 44 3 (.slice (some ⟨w2.heap.size, 0, none⟩) 0 0) 0 [] := World.ownsRow_made w2 #[] 0 (Nat.le_refl _) (by simp [maxLen]) (by simp)
  have HLIT := Lib.hid lit
  have HR2 := Lib.hid (show Cells (w2.alloc (.cells #[] 44)) A (ls.map wC).flatten from Row.cells (Hr.out.ext (hx02.alloc _)) (by decide))
  have HFL := Lib.hid (show (ls.map wC).flatten.length = n * 3 by rw [wflat_len, Hn.out])
  clear lit
  go_upto_region 6 with (at_builtin; refine wpList_append_new rfl (.tmp 13) (.tmp 14) 22 rfl w2.heap.size 44 _ 3 40 Try.underlying22 wfull_info rfl (by decide) w2.heap.size rfl HLIT.out A n c (ls.map wC).flatten rfl HFL.out HR2.out (wflat_one ls) (by simp only [maxLen]; omega) (by omega) (by simp) ?_; intro v3 w3 row3 hx3'; obtain ⟨A3, c3, rfl, _, _, cr3⟩ := own_form row3 (by decide))
  have hx23 : Ext w2 w3 := ((Ext.refl w2).alloc _).trans hx3'
  have hx03 := hx02.trans hx23
  have HROW3 := Lib.hid row3
  have HC3 := Lib.hid cr3
  clear row3 cr3 hx3' HLIT HR2
  have HOF := Lib.hid (of_calls ls A3 n c3 w3 (row_of_cells HC3.out) Hn.out (by omega))
  go_upto_region 7 with (go_at_call 14; (with_reducible refine HOF.out.mono ?_); rintro e w4 ⟨p, rfl, hp, htab, hx4⟩)
  clear HOF
  have HSAME := Lib.hid (rsame_self ls A3 A n c3 c w4 (row_of_cells (HC3.out.ext hx4)) (Hr.out.ext (hx03.trans hx4)) Hn.out (by omega))
  go_upto_region 9 with (go_at_call 22; (with_reducible refine HSAME.out.mono ?_); rintro e w5 ⟨rfl, hx5⟩)
  clear HSAME
  have HT5 := Lib.hid (htab.ext hx5)
  have hrow5 := own_ext HROW3.out (hx4.trans hx5)
  have hx05 := hx03.trans (hx4.trans hx5)
  have hlt3 := HROW3.out.lt
  have HB3 := Lib.hid (show ∀ j, (Value.slice A3 n c3).ownBlock = some j → w2.heap.size ≤ j ∧ j < w3.heap.size from fun j hj => hlt3 j hj)
  obtain ⟨g1, hA1⟩ := own_blk hrow5
  have HA1 := Lib.hid hA1
  clear htab hx4 hx5 hlt3 hrow5 hA1 HROW3 HC3
  go_upto_region 10 with (fail)
  go_loopw [24] (fun i wr => ∃ (k : Nat), k ≤ n ∧ i = .int .i64 k ∧ w5.grownBy wr (Value.slice A3 n c3).ownBlock ∧ Hid (0 < n → ∃ cur, Blk wr g1 44 cur ∧ n * 3 ≤ cur.size)) (fun i _ => n - (intOf i).toNat)
  case atStart => exact ⟨0, Nat.zero_le _, rfl, World.grownBy.refl _ _, Lib.hid (fun h0 => (HA1.out h0).2)⟩
  case round =>
    obtain ⟨k, hk, rfl, hgr, Hcur⟩ := hrel
    by_cases hlt : k < n
    · obtain ⟨rfl, cur0, hbk0, _⟩ := HA1.out (by omega)
      obtain ⟨cur, hbk, hsz⟩ := Hcur.out (by omega)
      have hc0 := hbk.cell_ (i := k * 3) (by omega)
      have hfr := hbk.frozen (k * 3)
      generalize cur[k * 3]'(by omega) = vv at hc0
      have hp0 : (0 : Int) ≤ (k : Int) := by omega
      have hp1 : (k : Int) < (n : Int) := by omega
      have Hbk := Lib.hid hbk
      clear hbk hbk0
      go_wp2
      go_roundw
      case rel => exact ⟨k + 1, by omega, by go_num, hgr.trans (grown_set _ _ _ _), Lib.hid (fun _ => ⟨_, Hbk.out.set _ _, by rw [Array.size_setIfInBounds]; exact hsz⟩)⟩
      case measure => simp [intOf]; omega
    · obtain rfl : n = k := by omega
      have hx0r : Ext w wr := hx05.grown_ hgr (fun j hj => Nat.le_trans hx02.size (HB3.out j hj).1)
      have HTr := Lib.hid (HT5.out.past hgr (fun j hj => (HB3.out j hj).2) hp)
      clear hgr HT5 HA1 Hcur
      obtain ⟨T, hT⟩ : ∃ T, T = tabOf ls := ⟨_, rfl⟩
      have hTl : T.length ≤ 1000000 := by
        rw [hT]
        have := tabOf_len ls
        rw [Hn.out] at this
        omega
      have hTm : mrg false ([(p, T)].map (·.2)) = T := by rw [hT]; exact mrg_one ls
      have hTf : ([(p, T)].map (·.2)).flatten.length ≤ 1000000 := by
        have : ([(p, T)].map (·.2)).flatten = T := by simp
        rw [this]
        exact hTl
      rw [← hT] at HTr
      have HTE := Lib.hid hT
      have HTL := Lib.hid hTl
      have HTM := Lib.hid hTm
      have HTF := Lib.hid hTf
      have HM0 := Lib.hid (fun (u : World) (hu : Ext wr u) => show ∀ t ∈ [(p, T)], TabAt 0 u t.1 t.2 from fun t ht => by
        rw [List.mem_singleton] at ht
        subst ht
        exact (HTr.out.lower (Nat.zero_le _)).ext hu)
      have d1 : 1 ≤ 1000000 := by decide
      clear hT hTl hTm hTf
      go_upto_region 15 with (go_at_call 24; have hmg := merge_calls false [(p, T)] (some ⟨wr.heap.size, 0, none⟩) 1 1 (wr.alloc (.cells #[.pointer (some ⟨p, 0, none⟩)] 29)) (Blk.new wr 29 #[.pointer (some ⟨p, 0, none⟩)]).cells rfl (HM0.out _ ((Ext.refl wr).alloc _)) HTF.out d1; (with_reducible refine hmg.mono ?_); rintro e w7 ⟨p2, rfl, hp2, ht2, hx7'⟩; rw [HTM.out] at ht2)
      have hx7 : Ext wr w7 := ((Ext.refl wr).alloc _).trans hx7'
      clear hmg hx7' HM0 HTF HTM
      have HTA := Lib.hid (HTr.out.ext hx7)
      have HTB := Lib.hid (ht2.lower (show wr.heap.size ≤ _ from ((Ext.refl wr).alloc _).size))
      have hx07 := hx0r.trans hx7
      have hp28 : wr.heap.size ≤ p2 := Nat.le_trans ((Ext.refl wr).alloc _).size hp2
      have HALL := Lib.hid (all_calls _ p T w7 HTA.out HTL.out)
      clear ht2 hx7 HTr
      go_upto_region 16 with (go_at_call 23; (with_reducible refine HALL.out.mono ?_); rintro e w8 ⟨v8, rfl, ho8, hx8⟩; obtain ⟨A8, c8, rfl, _, _, _⟩ := ho8.form)
      obtain ⟨m, hm⟩ : ∃ m, m = T.length := ⟨_, rfl⟩
      unfold OwnW at ho8
      rw [← hm] at ho8 ⊢
      have hlt8 := ho8.lt
      have HB8 := Lib.hid (show ∀ j, (Value.slice A8 m c8).ownBlock = some j → w7.heap.size ≤ j ∧ j < w8.heap.size from fun j hj => hlt8 j hj)
      obtain ⟨g8, hA8⟩ := own_blk ho8
      have HA8 := Lib.hid hA8
      have HMT := Lib.hid hm
      have hml : m ≤ 1000000 := by rw [hm]; exact HTL.out
      clear HALL ho8 hlt8 hA8 hm
      go_upto_region 17 with (fail)
      go_loopw [39] (fun i wr => ∃ (k : Nat), k ≤ m ∧ i = .int .i64 k ∧ w8.grownBy wr (Value.slice A8 m c8).ownBlock ∧ Hid (0 < m → ∃ cur, Blk wr g8 44 cur ∧ m * 3 ≤ cur.size)) (fun i _ => m - (intOf i).toNat)
      case atStart => exact ⟨0, Nat.zero_le _, rfl, World.grownBy.refl _ _, Lib.hid (fun h0 => (HA8.out h0).2)⟩
      case round =>
        obtain ⟨k, hk, rfl, hgr, Hcur⟩ := hrel
        by_cases hlt : k < m
        · obtain ⟨rfl, cur0, hbk0, _⟩ := HA8.out (by omega)
          obtain ⟨cur, hbk, hsz⟩ := Hcur.out (by omega)
          have hc0 := hbk.cell_ (i := k * 3) (by omega)
          have hfr := hbk.frozen (k * 3)
          generalize cur[k * 3]'(by omega) = vv at hc0
          have hp0 : (0 : Int) ≤ (k : Int) := by omega
          have hp1 : (k : Int) < (m : Int) := by omega
          have Hbk := Lib.hid hbk
          clear hbk hbk0
          go_wp2
          go_roundw
          case rel => exact ⟨k + 1, by omega, by go_num, hgr.trans (grown_set _ _ _ _), Lib.hid (fun _ => ⟨_, Hbk.out.set _ _, by rw [Array.size_setIfInBounds]; exact hsz⟩)⟩
          case measure => simp [intOf]; omega
        · obtain rfl : m = k := by omega
          have hx7q : Ext w7 wr := hx8.grown_ hgr (fun j hj => (HB8.out j hj).1)
          have HTq := Lib.hid (HTA.out.ext hx7q)
          have HUq := Lib.hid (HTB.out.ext hx7q)
          have hx0q := hx07.trans hx7q
          clear hgr Hcur HA8 HB8 hx8 HTA HTB HB3
          go_wp2_with (first
            | (go_at_call 23; (with_reducible refine (all_calls _ p T wr HTq.out HTL.out).mono ?_); rintro e w10 ⟨v10, rfl, ho10, hx10⟩; obtain ⟨A10, c10, rfl, _, _, hc10⟩ := ho10.form)
            | (go_at_call 25; ((with_reducible refine (rof_calls ls A n c w10 (Hr.out.ext (hx0q.trans hx10)) Hn.out (Nat.le_trans hn4' (by decide))).mono ?_); rintro e w11 ⟨v11, rfl, ho11, hx11⟩; rw [← HTE.out] at ho11; obtain ⟨A11, c11, rfl, _, _, hc11⟩ := ho11.form))
            | (go_at_call 22; ((with_reducible refine (rsame_self T A10 A11 T.length c10 c11 w11 (row_of_cells (hc10.ext hx11)) (row_of_cells hc11) rfl (Nat.le_trans HTL.out (by decide))).mono ?_); rintro e w12 ⟨rfl, hx12⟩; have hxq12 := hx10.trans (hx11.trans hx12)))
            | (go_at_call 23; (with_reducible refine (all_calls _ p2 T w12 (HUq.out.ext hxq12) HTL.out).mono ?_); rintro e w13 ⟨v13, rfl, ho13, hx13⟩; obtain ⟨A13, c13, rfl, _, _, hc13⟩ := ho13.form)
            | (go_at_call 23; (with_reducible refine (all_calls _ p T w13 (HTq.out.ext (hxq12.trans hx13)) HTL.out).mono ?_); rintro e w14 ⟨v14, rfl, ho14, hx14⟩; obtain ⟨A14, c14, rfl, _, _, hc14⟩ := ho14.form)
            | (go_at_call 22; (with_reducible refine (rsame_self T A13 A14 T.length c13 c14 w14 (row_of_cells (hc13.ext hx14)) (row_of_cells hc14) rfl (Nat.le_trans HTL.out (by decide))).mono ?_); rintro e w15 ⟨rfl, hx15⟩))
          go_ret
          exact ⟨rfl, hx0q.trans (hxq12.trans (hx13.trans (hx14.trans hx15)))⟩
end Go.Proofs.Ytfgooldbpnhgnaa

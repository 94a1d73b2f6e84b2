/- The reference's Read: of which bytes it answers which table. Printed by wip/mktabrread.py. -/
import Derived.Test.YtnggdkpaofbaaaaTabReadSt
import Derived.Test.YtnggdkpaofbaaaaFrameSplit
import Derived.Test.YtnggdkpaofbaaaaRef01b
namespace Go.Proofs.Ytnggdkpaofbaaaa
open Go.RowKit Go.Shelf
set_option linter.unusedVariables false

theorem RRdr.past {w w' : World} {g : Nat} {r : PR} (h : RRdr w g r) {row : Option Nat} (hg : w.grownBy w' row) (hne : row ≠ some g) : RRdr w' g r := ⟨h.1.grown hg (fun e => hne e.symm), h.2⟩
theorem rrun_bytes (r : PR) (h : (((r.uint.2.text 48).2.text 160).2).bad = false) (hu : r.uint.1 ≤ 1) (gn : Bool) (hgn : gn = ((r.uint.1 : Int) == 1)) :
    r.b = wrB (bstr (r.uint.2.text 48).1, bstr ((r.uint.2.text 48).2.text 160).1, gn) ++ ((r.uint.2.text 48).2.text 160).2.b := by
  have h1 := (wr_back r h).1
  have e : goneN (bstr (r.uint.2.text 48).1, bstr ((r.uint.2.text 48).2.text 160).1, gn) = r.uint.1 := by
    subst hgn
    unfold goneN
    have h2 : r.uint.1 = 0 ∨ r.uint.1 = 1 := by omega
    rcases h2 with h2 | h2 <;> rw [h2] <;> rfl
  unfold wrB
  rw [e, bstr_data, bstr_data]
  exact h1
abbrev ReadR (b : List UInt8) (w : World) (e : Ending) (w' : World) : Prop :=
  ((∃ v l, e = .returned (.tuple #[v, .bool true]) ∧ Reads b l ∧ l.length ≤ 100000000 ∧ OwnW w.heap.size w' v l) ∨ (e = .returned (.tuple #[.slice none 0 0, .bool false]) ∧ ∀ l, ¬ Reads b l)) ∧ Ext w w'
set_option maxRecDepth 100000 in
set_option maxHeartbeats 32000000 in
theorem rread_calls (n : Nat) (b : List UInt8) (w : World) (hn : b.length = n) (hl : n ≤ 90000) :
    Calls Try.prog 26 #[.string (bstr b)] w (ReadR b w) := by
  obtain ⟨ys, hys⟩ : ∃ ys, (splitB b).1 = ys := ⟨_, rfl⟩
  obtain ⟨rest, hrest⟩ : ∃ r, (splitB b).2 = r := ⟨_, rfl⟩
  have hsp := frsplit_calls n b w hn (by omega)
  rw [hys, hrest] at hsp
  have HSP := Lib.hid hsp
  have HYS := Lib.hid hys
  have HRE := Lib.hid hrest
  have HN := Lib.hid hn
  clear hsp hys hrest hn
  go_enter Try.func26, Try.ntmps26
  go_upto_region 2 with (go_at_call 60; (with_reducible refine Calls.mono HSP.out ?_); rintro e w1 ⟨v1, rfl, ho1, hx1⟩)
  obtain ⟨A1, c1, rfl, _, _, hc1⟩ := ho1.form
  clear HSP ho1
  by_cases hy1 : ys.length = 1
  rotate_left
  · have HNO : Hid (∀ l, ¬ Reads b l) := Lib.hid (fun l h => by
      have h1 := h.2.1
      rw [HYS.out] at h1
      exact hy1 (by rw [h1]; rfl))
    obtain ⟨m, hm⟩ : ∃ m, ys.length = m := ⟨_, rfl⟩
    rw [hm] at hy1 ⊢
    have hy2 : ¬ ((m : Int) = 1) := by omega
    clear hm hc1
    go_wp2
    go_ret2
    exact ⟨.inr ⟨rfl, HNO.out⟩, hx1⟩
  obtain ⟨s, rfl⟩ := List.length_eq_one_iff.1 hy1
  obtain ⟨hbs, hs64⟩ := split_one HYS.out
  rw [HRE.out] at hbs
  have hfl : (fr s).length + rest.length = n := by have h1 := congrArg List.length hbs; rw [List.length_append, HN.out] at h1; omega
  have hsl : s.length + 5 ≤ (fr s).length := by rw [fr_len, textB_len]; have := uintB_pos s.length; unfold sizeN; omega
  have hrl9 : rest.length ≤ 90000 := by omega
  have hsl9 : s.length ≤ 90000 := by omega
  have hcell0 : ∃ x, A1 = some x ∧ w1.cell? (x.add 0) = some (.string (bstr s)) := hc1 0 _ rfl
  obtain ⟨ad1, rfl, hcl0'⟩ := hcell0
  have hcl0 : w1.cell? ad1 = some (.string (bstr s)) := hcl0'
  have e1 : ([s] : List (List UInt8)).length = 1 := rfl
  rw [e1]
  obtain ⟨nr, hnr⟩ : ∃ x, rest.length = x := ⟨_, rfl⟩
  have hbr : (bstr rest).size = nr := by rw [bstr_size, hnr]
  have HNR := Lib.hid hnr
  have HBR := Lib.hid hbr
  rw [hnr] at hrl9
  have HC0 := Lib.hid hcl0
  clear hy1 hbs hfl hsl hc1 e1 hcl0' hcl0 hnr hbr
  go_upto_region 5 with (fail)
  go_loopw [6] (fun i wr => ∃ k : Nat, k ≤ nr ∧ i = .int .i64 k ∧ Hid ((rest.take k).all (· == 0) = true) ∧ wr = w1) (fun i _ => nr - (intOf i).toNat)
  case atStart => exact ⟨0, Nat.zero_le _, rfl, Lib.hid rfl, rfl⟩
  case round =>
    obtain ⟨k, hk, rfl, HALL, hww⟩ := hrel
    subst hww
    have hbr := HBR.out
    by_cases hlt : k < nr
    · have hlx : k < rest.length := by rw [HNR.out]; exact hlt
      obtain ⟨p, hp⟩ : ∃ p, p = rest[k] := ⟨_, rfl⟩
      have hget : ∀ h' : k < (bstr rest).size, (bstr rest)[k]'h' = p := fun h' => (bstr_get hlx h').trans hp.symm
      have hst : (rest.take (k + 1)).all (· == 0) = (p == 0) := by
        rw [List.take_succ_eq_append_getElem hlx, List.all_append, HALL.out, ← hp]
        simp
      have hst2 : (p == 0) = false → rest.all (· == 0) = false := fun h => by
        rw [List.all_eq_false]
        exact ⟨rest[k], List.getElem_mem hlx, by rw [← hp, h]; simp⟩
      have hz0 : (p == 0) = decide (p.toNat = 0) := by
        rw [Bool.eq_iff_iff, beq_iff_eq, decide_eq_true_eq]
        exact ⟨fun h => by rw [h]; rfl, fun h => UInt8.toNat_inj.1 h⟩
      rw [hz0] at hst hst2
      have hp8 : p.toNat < 256 := p.toNat_lt
      have Hst := Lib.hid hst
      have Hst2 := Lib.hid hst2
      have hq0 : (0 : Int) ≤ (k : Int) := by omega
      have hq1 : (k : Int) < (nr : Int) := by omega
      clear hst hst2 hz0 hp hlx
      by_cases h1 : p.toNat = 0
      · have HS2 : Hid ((rest.take (k + 1)).all (· == 0) = true) := Lib.hid (by rw [Hst.out, h1]; rfl)
        clear Hst Hst2
        go_wp2
        go_roundw
        case rel => exact ⟨k + 1, by omega, by go_num, HS2, by trivial⟩
        case measure => simp [intOf]; omega
      · have HNO : Hid (∀ l, ¬ Reads b l) := Lib.hid (fun l h => by
          have h2 := h.2.2
          rw [HRE.out] at h2
          have h3 := Hst2.out (decide_eq_false h1)
          rw [List.all_eq_false] at h3
          obtain ⟨x, hx, hx2⟩ := h3
          exact hx2 (by rw [h2 x hx]; rfl))
        have hne : ¬ ((p.toNat : Int) = 0) := by omega
        clear Hst Hst2 h1
        go_wp2
        go_ret2
        exact ⟨.inr ⟨rfl, HNO.out⟩, hx1⟩
    · obtain rfl : nr = k := by omega
      have HZR : Hid (∀ x ∈ rest, x = 0) := Lib.hid (fun x hx => by
        have h1 := HALL.out
        rw [← HNR.out, List.take_length] at h1
        have := List.all_eq_true.1 h1 x hx
        simpa using this)
      have hcl0 := HC0.out
      clear HALL
      go_upto_region 10 with (fail)
      clear hcl0 hbr
      obtain ⟨w3, hw3⟩ : ∃ w3, w3 = wr.alloc (.cells #[.string (bstr s), .bool false] 110) := ⟨_, rfl⟩
      rw [← hw3]
      have hx3' : Ext wr w3 := by rw [hw3]; exact (Ext.refl _).alloc _
      obtain ⟨gr, hgr⟩ : ∃ g, g = wr.heap.size := ⟨_, rfl⟩
      have hrd3 : RRdr w3 gr ⟨s, false⟩ := ⟨by rw [hw3, hgr]; exact Blk.new wr _ _, by show s.length ≤ _; omega⟩
      rw [← hgr]
      have hgrw : w.heap.size ≤ gr := by rw [hgr]; exact hx1.size
      have hx3 := hx1.trans hx3'
      obtain ⟨B, hB⟩ : ∃ B, B = w3.heap.size := ⟨_, rfl⟩
      have hgrB : gr < B := by rw [hB]; exact hrd3.1.lt
      have hwB : w.heap.size ≤ B := by omega
      have hHU := rruint_calls gr ⟨s, false⟩ w3 hrd3
      obtain ⟨N, hN⟩ : ∃ x, (PR.uint ⟨s, false⟩).1 = x := ⟨_, rfl⟩
      obtain ⟨r0, hr0⟩ : ∃ x, (PR.uint ⟨s, false⟩).2 = x := ⟨_, rfl⟩
      have hN64 : N < 18446744073709551616 := by rw [← hN]; exact PR.uint_lt _
      have hr0l : r0.b.length ≤ s.length := by rw [← hr0]; exact uint_len ⟨s, false⟩
      rw [hN, hr0] at hHU
      have HHU := Lib.hid hHU
      have HY0 : Hid (∀ l, Reads b l → N = l.length ∧ r0 = ⟨wrsB l, false⟩) := Lib.hid (fun l h => by
        have h1 := h.2.1
        rw [HYS.out] at h1
        have h2 : s = rowB l := (List.cons.inj h1).1
        have hlen : l.length < 2 ^ 64 := by
          have h3 := congrArg List.length h2
          rw [rowB_len] at h3
          have h4 := wrsN_len l
          omega
        have h5 := PR.uint_of l.length hlen (wrsB l) false
        have h6 : PR.uint ⟨s, false⟩ = (l.length, ⟨wrsB l, false⟩) := by rw [h2]; exact h5
        rw [h6] at hN hr0
        exact ⟨hN.symm, hr0.symm⟩)
      have HS0 : Hid (r0.bad = false → s = (uintB N ++ wrsB []) ++ r0.b) := Lib.hid (fun h => by
        have h1 := (uint_back (b := s) (n := N) (r := r0) (Prod.ext hN hr0) h).1
        rw [show wrsB [] = [] from rfl, List.append_nil]
        exact h1)
      have HBB := Lib.hid hB
      have HX3 := Lib.hid hx3
      have hx3B : B ≤ w3.heap.size := by rw [hB]; exact Nat.le_refl _
      clear hHU hN hr0 hw3 hrd3 hB hgr hx3'
      go_upto_region 12 with (go_at_call 61; (with_reducible refine Calls.mono HHU.out ?_); rintro e w5 ⟨rfl, hrd5, ht5⟩)
      have hx5 : Ext w w5 := ht5.ext HX3.out hgrw
      have hB5 : B ≤ w5.heap.size := Nat.le_trans hx3B ht5.size
      have HRD5 := Lib.hid hrd5
      have HY1 : Hid (∀ l, Reads b l → [] = l.take ([] : List W3).length ∧ ([] : List W3).length ≤ l.length ∧ r0 = ⟨wrsB (l.drop ([] : List W3).length), false⟩ ∧ N = l.length) := Lib.hid (fun l h => by
        obtain ⟨h1, h2⟩ := HY0.out l h
        exact ⟨rfl, Nat.zero_le _, by rw [List.length_nil, List.drop_zero]; exact h2, h1⟩)
      have HSH : Hid (∀ l, Reads b l → ∀ x ∈ l, okR x) := Lib.hid (fun l h => h.1.short)
      clear hrd5 ht5 HHU HY0 HBB hx3 hx3B HX3 hx1
      go_loopg [9] (muR r0) (fun gk v wr => ∃ (r : PR) (out : List W3), Hid (muR r ≤ gk) ∧ Hid (OwnW B wr v out) ∧ Hid (RRdr wr gr r) ∧ out.length ≤ N ∧ Hid (out.length + muR r ≤ s.length + 1) ∧ Hid (∀ x ∈ out, okR x) ∧ Hid (∀ l, Reads b l → out = l.take out.length ∧ out.length ≤ l.length ∧ r = ⟨wrsB (l.drop out.length), false⟩ ∧ N = l.length) ∧ Hid (r.bad = false → s = (uintB N ++ wrsB out) ++ r.b) ∧ Ext w wr ∧ B ≤ wr.heap.size)
      case atStart => exact ⟨r0, [], Lib.hid (Nat.le_refl _), Lib.hid (OwnW.nil _ _), HRD5, Nat.zero_le _, Lib.hid (by have := muR_le r0; show 0 + muR r0 ≤ s.length + 1; omega), Lib.hid (fun x hx => by cases hx), HY1, HS0, hx5, hB5⟩
      case round =>
        clear HRD5 HY1 HS0 hx5 hB5
        obtain ⟨r, out, HMU, HO, HRD, hoN, HLN, HOK, HY, HS, hx, hBw⟩ := hrel
        obtain ⟨A8, c8, rfl, _, _, hc8⟩ := HO.out.form
        have hol : out.length ≤ s.length + 1 := by have := HLN.out; omega
        have HR8 := Lib.hid (row_of_cells hc8)
        clear hc8
        have hol9 : out.length ≤ 90001 := by omega
        by_cases hlt : out.length < N
        · have hltI : (out.length : Int) < (N : Int) := by omega
          have HGD := Lib.hid (fun (u : World) (h : RRdr u gr r) => rrgood_calls gr r u h)
          cases hbad : r.bad with
          | true =>
            rw [hbad] at HGD
            have HEN := Lib.hid (rrend_calls gr r wr HRD.out)
            have hend : r.end_ = false := by unfold PR.end_; rw [hbad]; rfl
            rw [hend] at HEN
            have HNO : Hid (∀ l, ¬ Reads b l) := Lib.hid (fun l h => by
              obtain ⟨h1, h2, h3, h4⟩ := HY.out l h
              rw [h3] at hbad
              cases hbad)
            clear hend hbad HY HS HMU
            go_wp2_with (first
              | (go_at_call 62; (with_reducible refine Calls.mono (HGD.out wr HRD.out) ?_); rintro e w' ⟨rfl, rfl⟩)
              | (go_at_call 64; (with_reducible refine Calls.mono HEN.out ?_); rintro e w' ⟨rfl, rfl⟩))
            go_ret2
            exact ⟨.inr ⟨rfl, HNO.out⟩, hx⟩
          | false =>
            rw [hbad] at HGD
            obtain ⟨u1, hu1⟩ : ∃ x, r.uint.1 = x := ⟨_, rfl⟩
            obtain ⟨r1, hr1⟩ : ∃ x, r.uint.2 = x := ⟨_, rfl⟩
            obtain ⟨k1, hk1⟩ : ∃ x, (r1.text 48).1 = x := ⟨_, rfl⟩
            obtain ⟨r2, hr2⟩ : ∃ x, (r1.text 48).2 = x := ⟨_, rfl⟩
            obtain ⟨v1, hv1⟩ : ∃ x, (r2.text 160).1 = x := ⟨_, rfl⟩
            obtain ⟨r3, hr3⟩ : ∃ x, (r2.text 160).2 = x := ⟨_, rfl⟩
            obtain ⟨gn, hgn⟩ : ∃ g, ((u1 : Int) == 1) = g := ⟨_, rfl⟩
            have HCOST : Hid (1 + k1.length + v1.length + muR r3 ≤ muR r) := Lib.hid (by subst hu1 hr1 hk1 hr2 hv1 hr3; exact rd_cost r hbad)
            have HOKR : Hid (okR (bstr k1, bstr v1, gn)) := Lib.hid (by subst hk1 hv1; exact ⟨by show (bstr _).size ≤ 48; rw [bstr_size]; exact text_max r1 48, by show (bstr _).size ≤ 160; rw [bstr_size]; exact text_max r2 160⟩)
            have HBY : Hid (u1 ≤ 1 → r3.bad = false → r.b = wrB (bstr k1, bstr v1, gn) ++ r3.b) := Lib.hid (by subst hu1 hr1 hk1 hr2 hv1 hr3; exact fun h1 h2 => rrun_bytes r h2 h1 gn hgn.symm)
            have HMON : Hid (r3.bad = false → r.bad = false) := Lib.hid (fun _ => hbad)
            have HSTEP : Hid (∀ l, Reads b l → ∃ h : out.length < l.length, u1 ≤ 1 ∧ l[out.length] = (bstr k1, bstr v1, gn) ∧ r3 = ⟨wrsB (l.drop (out.length + 1)), false⟩) := Lib.hid (fun l h => by
              obtain ⟨h1, h2, h3, h4⟩ := HY.out l h
              have hlt2 : out.length < l.length := by omega
              obtain ⟨q1, q2, q3, q4⟩ := step_yes hlt2 (HSH.out l h) h3
              rw [hu1] at q1
              rw [hr1, hk1] at q2
              rw [hr1, hr2, hv1] at q3
              refine ⟨hlt2, by rw [q1]; unfold goneN; split <;> omega, ?_, by rw [← q4, hr1, hr2, hr3]⟩
              obtain ⟨y, hy⟩ : ∃ y, l[out.length] = y := ⟨_, rfl⟩
              rw [hy] at q1 q2 q3 ⊢
              obtain ⟨y0, y1, y2⟩ := y
              rw [q2, q3, ← hgn, q1]
              show (y0, y1, y2) = (bstr y0.data.toList, bstr y1.data.toList, (((goneN (y0, y1, y2) : Nat) : Int) == 1))
              rw [bstr_of, bstr_of]
              cases y2 <;> rfl)
            have HU := Lib.hid (fun (u : World) (h : RRdr u gr r) => rruint_calls gr r u h)
            have HT1 := Lib.hid (fun (u : World) (h : RRdr u gr r1) => rrtext_calls gr r1 48 u h (by decide))
            have HT2 := Lib.hid (fun (u : World) (h : RRdr u gr r2) => rrtext_calls gr r2 160 u h (by decide))
            rw [hu1, hr1] at HU
            rw [hk1, hr2] at HT1
            rw [hv1, hr3] at HT2
            have hu64 : u1 < 18446744073709551616 := by rw [← hu1]; exact PR.uint_lt _
            have hgnd : (gn = true → u1 = 1) := fun h => by rw [← hgn] at h; have := eq_of_beq h; omega
            have HGND := Lib.hid hgnd
            clear hu1 hr1 hk1 hr2 hv1 hr3 hbad hgnd
            go_upto_region 14 with (first
              | (go_at_call 62; (with_reducible refine Calls.mono (HGD.out wr HRD.out) ?_); rintro e w' ⟨rfl, rfl⟩)
              | (go_at_call 61; (with_reducible refine Calls.mono (HU.out wr HRD.out) ?_); rintro e w2 ⟨rfl, hrd2, ht2⟩))
            have hx2 := ht2.ext hx hgrw
            have HO2 : Hid (OwnW B w2 (.slice A8 out.length c8) out) := Lib.hid (own_past HO.out ht2 (fun j e => by cases e; exact hgrB))
            have hB2 : B ≤ w2.heap.size := Nat.le_trans hBw ht2.size
            have HRD2 := Lib.hid hrd2
            clear hrd2 ht2 HO HR8 HGD HU HRD
            go_upto_region 15 with (first
              | (go_at_call 63; (with_reducible refine Calls.mono (HT1.out w2 HRD2.out) ?_); rintro e w3 ⟨rfl, hrd3, ht3⟩)
              | (refine wpList_store_blk rfl 46 (.tmp 11) (.tmp 52) rfl rfl w3.heap.size (wC (bstr k1, ByteArray.empty, gn)).toArray rfl rfl _ _ (Blk.new w3 _ _) rfl (by kernel_rfl) (wC_one _) ?_; intro w4 hb4 hg4; have hx4' : Ext w3 w4 := ((Ext.refl _).alloc _).grown_ hg4 (fun j e => by cases e; exact Nat.le_refl _)))
            have hx3 := ht3.ext hx2 hgrw
            have hx4 := hx3.trans hx4'
            have HO4 : Hid (OwnW B w4 (.slice A8 out.length c8) out) := Lib.hid (OwnW.ext (own_past HO2.out ht3 (fun j e => by cases e; exact hgrB)) hx4')
            have hB4 : B ≤ w4.heap.size := Nat.le_trans (Nat.le_trans hB2 ht3.size) hx4'.size
            have HRD4 := Lib.hid (hrd3.ext hx4')
            obtain ⟨gw, hgw⟩ : ∃ g, g = w3.heap.size := ⟨_, rfl⟩
            have hgwB : B ≤ gw := by rw [hgw]; exact Nat.le_trans hB2 ht3.size
            have HLT : Hid (∀ j, (Value.slice A8 out.length c8).ownBlock = some j → j < gw) := Lib.hid (fun j hj => by rw [hgw]; exact (own_lt (own_past HO2.out ht3 (fun j e => by cases e; exact hgrB)) hj).2)
            rw [← hgw] at hb4 ⊢
            have HB4 := Lib.hid hb4
            clear hrd3 ht3 HO2 HRD2 HT1 hb4 hg4 hgw hx4' hx3 hx2
            go_upto_region 16 with (first
              | (go_at_call 63; (with_reducible refine Calls.mono (HT2.out w4 HRD4.out) ?_); rintro e w5 ⟨rfl, hrd5, ht5⟩; have HB5 := Lib.hid (HB4.out.grown ht5 (fun e => by cases e; omega)); have c1 : w5.cell? ⟨gw, 1, none⟩ = some (.string ByteArray.empty) := (by rw [HB5.out.cell]; rfl); have f1 := HB5.out.frozen 1))
            obtain ⟨x, hxe⟩ : ∃ x, x = (bstr k1, bstr v1, gn) := ⟨_, rfl⟩
            obtain ⟨w6, hw6⟩ : ∃ w6, w6 = w5.setCell ⟨gw, 1, none⟩ (.string (bstr v1)) := ⟨_, rfl⟩
            rw [← hw6]
            have hb6 : Blk w6 gw 46 (wC x).toArray := by rw [hw6, hxe]; exact HB5.out.set 1 _
            have hg6 : w5.grownBy w6 (some gw) := by rw [hw6]; exact grown_set w5 gw 1 _
            have hx6 : Ext w w6 := (ht5.ext hx4 hgrw).grown_ hg6 (fun j e => by cases e; omega)
            have HO6 : Hid (OwnW B w6 (.slice A8 out.length c8) out) := Lib.hid (World.ownsRow.kept (own_past HO4.out ht5 (fun j e => by cases e; exact hgrB)) hg6 (.inr (fun e => by have := HLT.out _ e; omega)))
            have HRD6 := Lib.hid (hrd5.past hg6 (fun e => by cases e; omega))
            have hB6 : B ≤ w6.heap.size := Nat.le_trans (Nat.le_trans hB4 ht5.size) hg6.size
            rw [← hxe] at HOKR HSTEP HBY
            have HC2 : Hid (1 + x.1.size + x.2.1.size + muR r3 ≤ muR r) := Lib.hid (by rw [hxe]; show 1 + (bstr k1).size + (bstr v1).size + _ ≤ _; rw [bstr_size, bstr_size]; exact HCOST.out)
            have HG2 : Hid (x.2.2 = true → u1 = 1) := Lib.hid (by rw [hxe]; exact HGND.out)
            obtain ⟨x0, x1, x2⟩ := x
            have HB6 := Lib.hid hb6
            have hwc1 : w6.cell? ⟨gw, 1, none⟩ = some (.string x1) := by rw [HB6.out.cell]; rfl
            have hwc2 : w6.cell? ⟨gw, 2, none⟩ = some (.bool x2) := by rw [HB6.out.cell]; rfl
            clear hrd5 ht5 HB4 HB5 c1 f1 hw6 hb6 hg6 hx4 HO4 HRD4 HT2 HCOST hgn hxe HLT HGND
            by_cases hu2 : 1 < u1
            · have hu2I : (1 : Int) < (u1 : Int) := by omega
              have HNO : Hid (∀ l, ¬ Reads b l) := Lib.hid (fun l h => by
                obtain ⟨q1, q2, _⟩ := HSTEP.out l h
                omega)
              clear HY HS HMU HSTEP
              go_wp2
              go_ret2
              exact ⟨.inr ⟨rfl, HNO.out⟩, hx6⟩
            have hu2I : ¬ (1 : Int) < (u1 : Int) := by omega
            cases x2 with
            | false =>
              have HS2 : Hid (r3.bad = false → s = (uintB N ++ wrsB (out ++ [(x0, x1, false)])) ++ r3.b) := Lib.hid (fun h => by
                have h1 := HS.out (HMON.out h)
                rw [HBY.out (by omega) h] at h1
                rw [wrsB_snoc, h1]
                simp only [List.append_assoc])
              have HY2 : Hid (∀ l, Reads b l → out ++ [(x0, x1, false)] = l.take (out ++ [(x0, x1, false)]).length ∧ (out ++ [(x0, x1, false)]).length ≤ l.length ∧ r3 = ⟨wrsB (l.drop (out ++ [(x0, x1, false)]).length), false⟩ ∧ N = l.length) := Lib.hid (fun l h => by
                obtain ⟨h1, h2, h3, h4⟩ := HY.out l h
                obtain ⟨q1, _, q2, q3⟩ := HSTEP.out l h
                have e : (out ++ [(x0, x1, false)]).length = out.length + 1 := by rw [List.length_append]; rfl
                rw [e]
                exact ⟨by rw [List.take_succ_eq_append_getElem q1, ← h1, q2], q1, q3, h4⟩)
              have HMU2 : Hid (muR r3 ≤ gk - 1 ∧ 1 ≤ gk) := Lib.hid (by have h1 := HMU.out; have h2 : 1 + x0.size + (x1 : ByteArray).size + muR r3 ≤ muR r := HC2.out; omega)
              have HLN2 : Hid ((out ++ [(x0, x1, false)]).length + muR r3 ≤ s.length + 1) := Lib.hid (by rw [List.length_append]; have h1 := HLN.out; have h2 : 1 + x0.size + (x1 : ByteArray).size + muR r3 ≤ muR r := HC2.out; simp only [List.length_singleton]; omega)
              have HOK2 : Hid (∀ y ∈ out ++ [(x0, x1, false)], okR y) := Lib.hid (fun y hy => by
                rcases List.mem_append.1 hy with hy | hy
                · exact HOK.out y hy
                · rw [List.mem_singleton] at hy
                  subst hy
                  exact HOKR.out)
              have hgk := HMU2.out.2
              clear HY HS HMU HSTEP HBY HC2 HLN HOK
              go_wp2_with (first
                | (refine wpList_load_row_ rfl 46 (.tmp 11) rfl ⟨gw, 0, none⟩ rfl [.string x0, .string x1, .bool false] _ (blk_cells HB6.out) Try.underlying46 rfl (by rw [w_info]; rfl) ?_)
                | (at_builtin; refine wpList_append_w _ rfl (.tmp 67) (.tmp 69) rfl B (.slice A8 out.length c8) out rfl (HO6.out.ext ((Ext.refl w6).alloc (.cells (wC (x0, x1, false)).toArray 46))) (some ⟨w6.heap.size, 0, none⟩) 1 1 [(x0, x1, false)] rfl rfl (Blk.new w6 46 (wC (x0, x1, false)).toArray).cells (by omega) (Nat.le_trans hB6 ((Ext.refl w6).alloc (.cells (wC (x0, x1, false)).toArray 46)).size) ?_; intro v7 w7 ho7 hg7 _; have hxl7 := (Ext.refl w6).alloc (.cells (wC (x0, x1, false)).toArray 46); have hx7 := (hx6.trans hxl7).grown_ hg7 (fun j e => Nat.le_trans hwB (own_lt (HO6.out.ext hxl7) e).1); have HRD7 := Lib.hid ((HRD6.out.ext hxl7).past hg7 (fun e => by have := (own_lt (HO6.out.ext hxl7) e).1; omega)); have hB7 := Nat.le_trans hB6 (Nat.le_trans hxl7.size hg7.size); have HO7 := Lib.hid ho7; clear ho7 hg7 hxl7))
              go_roundg (gk - 1)
              case measure => omega
              case rel => exact ⟨r3, out ++ [(x0, x1, false)], Lib.hid HMU2.out.1, HO7, HRD7, by rw [List.length_append]; simp only [List.length_singleton]; omega, HLN2, HOK2, HY2, HS2, hx7, hB7⟩
            | true =>
              by_cases hne : x1 = ByteArray.empty
              · subst hne
                have hze : (ByteArray.empty.toList == (⟨#[]⟩ : ByteArray).toList) = true := by simp [show (⟨#[]⟩ : ByteArray) = ByteArray.empty from rfl]
                have HS2 : Hid (r3.bad = false → s = (uintB N ++ wrsB (out ++ [(x0, ByteArray.empty, true)])) ++ r3.b) := Lib.hid (fun h => by
                  have h1 := HS.out (HMON.out h)
                  rw [HBY.out (by omega) h] at h1
                  rw [wrsB_snoc, h1]
                  simp only [List.append_assoc])
                have HY2 : Hid (∀ l, Reads b l → out ++ [(x0, ByteArray.empty, true)] = l.take (out ++ [(x0, ByteArray.empty, true)]).length ∧ (out ++ [(x0, ByteArray.empty, true)]).length ≤ l.length ∧ r3 = ⟨wrsB (l.drop (out ++ [(x0, ByteArray.empty, true)]).length), false⟩ ∧ N = l.length) := Lib.hid (fun l h => by
                  obtain ⟨h1, h2, h3, h4⟩ := HY.out l h
                  obtain ⟨q1, _, q2, q3⟩ := HSTEP.out l h
                  have e : (out ++ [(x0, ByteArray.empty, true)]).length = out.length + 1 := by rw [List.length_append]; rfl
                  rw [e]
                  exact ⟨by rw [List.take_succ_eq_append_getElem q1, ← h1, q2], q1, q3, h4⟩)
                have HMU2 : Hid (muR r3 ≤ gk - 1 ∧ 1 ≤ gk) := Lib.hid (by have h1 := HMU.out; have h2 : 1 + x0.size + (ByteArray.empty : ByteArray).size + muR r3 ≤ muR r := HC2.out; omega)
                have HLN2 : Hid ((out ++ [(x0, ByteArray.empty, true)]).length + muR r3 ≤ s.length + 1) := Lib.hid (by rw [List.length_append]; have h1 := HLN.out; have h2 : 1 + x0.size + (ByteArray.empty : ByteArray).size + muR r3 ≤ muR r := HC2.out; simp only [List.length_singleton]; omega)
                have HOK2 : Hid (∀ y ∈ out ++ [(x0, ByteArray.empty, true)], okR y) := Lib.hid (fun y hy => by
                  rcases List.mem_append.1 hy with hy | hy
                  · exact HOK.out y hy
                  · rw [List.mem_singleton] at hy
                    subst hy
                    exact HOKR.out)
                have hgk := HMU2.out.2
                clear HY HS HMU HSTEP HBY HC2 HLN HOK
                go_wp2_with (first
                  | (refine wpList_load_row_ rfl 46 (.tmp 11) rfl ⟨gw, 0, none⟩ rfl [.string x0, .string ByteArray.empty, .bool true] _ (blk_cells HB6.out) Try.underlying46 rfl (by rw [w_info]; rfl) ?_)
                  | (at_builtin; refine wpList_append_w _ rfl (.tmp 67) (.tmp 69) rfl B (.slice A8 out.length c8) out rfl (HO6.out.ext ((Ext.refl w6).alloc (.cells (wC (x0, ByteArray.empty, true)).toArray 46))) (some ⟨w6.heap.size, 0, none⟩) 1 1 [(x0, ByteArray.empty, true)] rfl rfl (Blk.new w6 46 (wC (x0, ByteArray.empty, true)).toArray).cells (by omega) (Nat.le_trans hB6 ((Ext.refl w6).alloc (.cells (wC (x0, ByteArray.empty, true)).toArray 46)).size) ?_; intro v7 w7 ho7 hg7 _; have hxl7 := (Ext.refl w6).alloc (.cells (wC (x0, ByteArray.empty, true)).toArray 46); have hx7 := (hx6.trans hxl7).grown_ hg7 (fun j e => Nat.le_trans hwB (own_lt (HO6.out.ext hxl7) e).1); have HRD7 := Lib.hid ((HRD6.out.ext hxl7).past hg7 (fun e => by have := (own_lt (HO6.out.ext hxl7) e).1; omega)); have hB7 := Nat.le_trans hB6 (Nat.le_trans hxl7.size hg7.size); have HO7 := Lib.hid ho7; clear ho7 hg7 hxl7))
                go_roundg (gk - 1)
                case measure => omega
                case rel => exact ⟨r3, out ++ [(x0, ByteArray.empty, true)], Lib.hid HMU2.out.1, HO7, HRD7, by rw [List.length_append]; simp only [List.length_singleton]; omega, HLN2, HOK2, HY2, HS2, hx7, hB7⟩
              · have hze : (x1.toList == (⟨#[]⟩ : ByteArray).toList) = false := by rw [beq_eq_false_iff_ne]; exact fun e => hne (kl_inj e)
                have hze2 : (x1.toList == []) = false := by rw [beq_eq_false_iff_ne]; intro e; exact hne (kl_inj (e.trans (show ([] : List UInt8) = ByteArray.empty.toList from by rw [ByteArray.toList_eq]; rfl)))
                have HNO : Hid (∀ l, ¬ Reads b l) := Lib.hid (fun l h => by
                  obtain ⟨q1, _, q2, q3⟩ := HSTEP.out l h
                  have h5 := h.1.fixed _ (List.getElem_mem q1)
                  rw [q2] at h5
                  exact hne (congrArg (fun t : W3 => t.2.1) h5).symm)
                clear hne HY HS HMU HSTEP
                go_wp2
                go_ret2
                exact ⟨.inr ⟨rfl, HNO.out⟩, hx6⟩
        · have hNe : N = out.length := by omega
          have hltI : ¬ (out.length : Int) < (N : Int) := by omega
          have HNE := Lib.hid hNe
          have HEN := Lib.hid (rrend_calls gr r wr HRD.out)
          clear hNe
          cases hend : r.end_ with
          | false =>
            rw [hend] at HEN
            have HNO : Hid (∀ l, ¬ Reads b l) := Lib.hid (fun l h => by
              obtain ⟨h1, h2, h3, h4⟩ := HY.out l h
              have h5 : l.drop out.length = [] := List.drop_eq_nil_of_le (by have := HNE.out; omega)
              rw [h5] at h3
              rw [h3] at hend
              cases hend)
            clear hend HY HS HMU
            go_wp2_with (go_at_call 64; (with_reducible refine Calls.mono HEN.out ?_); rintro e w' ⟨rfl, rfl⟩)
            go_ret2
            exact ⟨.inr ⟨rfl, HNO.out⟩, hx⟩
          | true =>
            rw [hend] at HEN
            have HSB : Hid (s = rowB out) := Lib.hid (by
              have h1 : r.bad = false ∧ r.b.length = 0 := by
                unfold PR.end_ at hend
                simpa using hend
              have h2 := HS.out h1.1
              rw [List.eq_nil_of_length_eq_zero h1.2, List.append_nil, HNE.out] at h2
              exact h2)
            have HOF := Lib.hid (rof_calls out A8 out.length c8 wr HR8.out rfl (by omega))
            have hTl := tabOf_len out
            obtain ⟨T, hT⟩ : ∃ T, T = tabOf out := ⟨_, rfl⟩
            have HTT := Lib.hid hT
            rw [← hT] at HOF hTl
            clear hT
            by_cases hto : T = out
            · have hd : decide (T = out) = true := decide_eq_true hto
              have HRD2 : Hid (Reads b out) := Lib.hid (by
                have h1 : tabOf out = out := HTT.out.symm.trans hto
                refine ⟨⟨?_, ?_, HOK.out⟩, by rw [HYS.out, HSB.out], ?_⟩
                · rw [← h1]; exact tabOf_sorted out
                · rw [← h1]; exact tabOf_fixed out
                · rw [HRE.out]; exact HZR.out)
              have HD := Lib.hid hd
              clear hend HY HS HMU hd hto
              go_wp2_with (first
                | (go_at_call 64; (with_reducible refine Calls.mono HEN.out ?_); rintro e w' ⟨rfl, rfl⟩)
                | (go_at_call 22; (with_reducible refine Calls.mono HOF.out ?_); rintro e w6 ⟨v6, rfl, ho6, hx6⟩; obtain ⟨A6, c6, rfl, _, _, hc6⟩ := ho6.form; have HSM := Lib.hid (rsame_calls T out A6 A8 T.length out.length c6 c8 w6 (row_of_cells hc6) (HR8.out.ext hx6) rfl rfl (by omega)); rw [HD.out] at HSM; clear hc6 ho6)
                | (go_at_call 19; (with_reducible refine Calls.mono HSM.out ?_); rintro e w7 ⟨rfl, hx7⟩))
              go_ret2
              exact ⟨.inl ⟨_, out, rfl, HRD2.out, by omega, ((HO.out.ext hx6).ext hx7).lower hwB⟩, (hx.trans hx6).trans hx7⟩
            · have hd : decide (T = out) = false := decide_eq_false hto
              have HNO : Hid (∀ l, ¬ Reads b l) := Lib.hid (fun l h => by
                obtain ⟨h1, h2, h3, h4⟩ := HY.out l h
                have h5 : l.take out.length = l := List.take_of_length_le (by have := HNE.out; omega)
                rw [h5] at h1
                apply hto
                rw [HTT.out, h1]
                exact tabOf_self l h.1.sorted h.1.fixed)
              have HD := Lib.hid hd
              clear hend HY HS HMU hd hto
              go_wp2_with (first
                | (go_at_call 64; (with_reducible refine Calls.mono HEN.out ?_); rintro e w' ⟨rfl, rfl⟩)
                | (go_at_call 22; (with_reducible refine Calls.mono HOF.out ?_); rintro e w6 ⟨v6, rfl, ho6, hx6⟩; obtain ⟨A6, c6, rfl, _, _, hc6⟩ := ho6.form; have HSM := Lib.hid (rsame_calls T out A6 A8 T.length out.length c6 c8 w6 (row_of_cells hc6) (HR8.out.ext hx6) rfl rfl (by omega)); rw [HD.out] at HSM; clear hc6 ho6)
                | (go_at_call 19; (with_reducible refine Calls.mono HSM.out ?_); rintro e w7 ⟨rfl, hx7⟩))
              go_ret2
              exact ⟨.inr ⟨rfl, HNO.out⟩, (hx.trans hx6).trans hx7⟩
end Go.Proofs.Ytnggdkpaofbaaaa

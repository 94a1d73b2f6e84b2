/- table.Read: of which bytes it answers which table. Printed by wip/mktabread.py. -/
import Derived.Test.YtnggdkpaofbaaaaTabReadsPure
import Derived.Test.YtnggdkpaofbaaaaTabBytes
import Derived.Test.YtnggdkpaofbaaaaTabReadSt
import Derived.Test.YtnggdkpaofbaaaaFrameSplit
import Derived.Test.YtnggdkpaofbaaaaCodeRead
import Derived.Test.YtnggdkpaofbaaaaConv
import Derived.BigQuiet
namespace Go.Proofs.Ytnggdkpaofbaaaa
open Go.RowKit Go.Shelf
set_option linter.unusedVariables false

theorem indexz_calls (A : Option Addr) (n c : Nat) (bs : List UInt8) (w : World) (hc : Cells w A (bv bs)) (hn : bs.length = n) (hm : n ≤ 140737488351232) :
    Calls Try.prog 81 #[.slice A n c, (.func (.func 54) #[] #[])] w fun e w' => (∃ r : Int, e = .returned (.int .i64 r) ∧ decide (0 ≤ r) = !bs.all (· == 0)) ∧ w = w' := by
  have HD := Lib.hid hn
  clear hn
  go_enter Try.func81, Try.ntmps81
  go_wp2
  go_loop [8] (fun i => ∃ k : Nat, k ≤ n ∧ i = .int .i64 k ∧ Aside ((bs.take k).all (· == 0) = true)) (fun i => n - (intOf i).toNat)
  case atStart => exact ⟨0, by omega, rfl, rfl⟩
  case round =>
    obtain ⟨k, hk, rfl, hall⟩ := hrel
    by_cases hlt : k < n
    · have hlx : k < bs.length := by rw [HD.out]; exact hlt
      obtain ⟨x, rfl, hcell⟩ := hc k _ (bv_get hlx)
      have hst : (bs.take (k + 1)).all (· == 0) = (bs[k] == 0) := by
        rw [List.take_succ_eq_append_getElem hlx, List.all_append, show (bs.take k).all (· == 0) = true from hall]
        simp
      have hst2 : (bs[k] == 0) = false → bs.all (· == 0) = false := fun h => by
        rw [List.all_eq_false]
        exact ⟨bs[k], List.getElem_mem hlx, by rw [h]; simp⟩
      have hp8 : (bs[k]).toNat < 256 := (bs[k]).toNat_lt
      have hz0 : (bs[k] == 0) = decide ((bs[k]).toNat = 0) := by
        rw [Bool.eq_iff_iff, beq_iff_eq, decide_eq_true_eq]
        exact ⟨fun h => by rw [h]; rfl, fun h => UInt8.toNat_inj.1 h⟩
      rw [hz0] at hst hst2
      obtain ⟨p, hp⟩ : ∃ p, (bs[k]).toNat = p := ⟨_, rfl⟩
      rw [hp] at hcell hst hst2 hp8
      have Hst := Lib.hid hst
      clear hst hz0 hp
      by_cases h1 : p = 0
      · subst h1
        clear hst2
        go_wp2
        go_round
        case rel => exact ⟨k + 1, by omega, by go_num, (show (bs.take (k + 1)).all (· == 0) = true from by rw [Hst.out]; rfl)⟩
        case measure => simp [intOf]; omega
      · have hb := hst2 (by simp [h1])
        have hne : ¬ ((p : Int) = 0) := by omega
        clear hst2
        go_wp2
        go_ret
        exact ⟨⟨_, rfl, by first | omega | (rw [hb]; simp)⟩, rfl⟩
    · obtain rfl : k = n := by omega
      have ha : (bs.take k).all (· == 0) = true := hall
      rw [← HD.out, List.take_length] at ha
      go_wp2
      go_ret
      exact ⟨⟨_, rfl, by first | omega | decide | (rw [ha]; simp)⟩, rfl⟩
theorem containsz_calls (A : Option Addr) (n c : Nat) (bs : List UInt8) (w : World) (hc : Cells w A (bv bs)) (hn : bs.length = n) (hm : n ≤ 140737488351232) (z : Bool) (hz : bs.all (· == 0) = z) :
    Calls Try.prog 53 #[.slice A n c, (.func (.func 54) #[] #[])] w fun e w' => e = .returned (.bool (!z)) ∧ w = w' := by
  subst hz
  go_enter Try.func53, Try.ntmps53
  go_wp2_with (go_at_call 81; ((with_reducible refine (indexz_calls A n c bs _ hc hn hm).mono ?_); rintro e w' ⟨⟨r, rfl, hr⟩, rfl⟩; have Hr := Lib.hid hr; clear hr))
  go_ret
  exact ⟨ret_bool Hr.out, rfl⟩
abbrev ReadP (b : List UInt8) (w : World) (e : Ending) (w' : World) : Prop :=
  ((∃ p l, e = .returned (.tuple #[.pointer (some ⟨p, 0, none⟩), .int .i64 0]) ∧ Reads b l ∧ plN l ≤ 1000000 ∧ TabAt 0 w' p l) ∨ (e = .returned (.tuple #[.pointer none, .int .i64 4]) ∧ ∀ l, ¬ Reads b l)) ∧ Ext w w'
set_option maxRecDepth 100000 in
set_option maxHeartbeats 32000000 in
theorem tread_calls (A : Option Addr) (n c : Nat) (b : List UInt8) (w : World) (hb : Cells w A (bv b)) (hn : b.length = n) (hc : n ≤ c) (hl : n ≤ 900000) :
    Calls Try.prog 25 #[.slice A n c] w (ReadP b w) := by
  obtain ⟨ys, hys⟩ : ∃ ys, (splitB b).1 = ys := ⟨_, rfl⟩
  obtain ⟨rest, hrest⟩ : ∃ r, (splitB b).2 = r := ⟨_, rfl⟩
  have hsp := fsplit_calls A n c b w hb hn hc (by omega)
  rw [hys, hrest] at hsp
  have HSP := Lib.hid hsp
  have HYS := Lib.hid hys
  have HRE := Lib.hid hrest
  have HB := Lib.hid hb
  have HN := Lib.hid hn
  clear hsp hys hrest hb hn
  go_enter Try.func25, Try.ntmps25
  go_upto_region 2 with (go_at_call 52; (with_reducible refine Calls.mono HSP.out ?_); rintro e w1 ⟨v1, rfl, ho1, hx1⟩)
  obtain ⟨A1, c1, rfl, _, _, hc1⟩ := ho1.form
  clear HSP ho1
  by_cases hy1 : ys.length = 1
  rotate_left
  · have HNO : Hid (∀ l, ¬ Reads b l) := Lib.hid (fun l h => by
      have h1 := h.2.1
      rw [HYS.out] at h1
      exact hy1 (by rw [h1]; rfl))
    obtain ⟨m, hm⟩ : ∃ m, ys.length = m := ⟨_, rfl⟩
    rw [hm] at hy1 ⊢
    have hy2 : ¬ ((m : Int) = 1) := by omega
    clear hm hc1
    go_wp2
    go_ret2
    exact ⟨.inr ⟨rfl, HNO.out⟩, hx1⟩
  obtain ⟨s, rfl⟩ := List.length_eq_one_iff.1 hy1
  obtain ⟨hbs, hs64⟩ := split_one HYS.out
  rw [HRE.out] at hbs
  have hfl : (fr s).length + rest.length = n := by have h1 := congrArg List.length hbs; rw [List.length_append, HN.out] at h1; omega
  have hsl : s.length + 5 ≤ (fr s).length := by rw [fr_len, textB_len]; have := uintB_pos s.length; unfold sizeN; omega
  obtain ⟨m, hm⟩ : ∃ m, (fr s).length = m := ⟨_, rfl⟩
  have hmn : n - rest.length = m := by omega
  have hmn2 : n - m = rest.length := by omega
  have hmle : m ≤ n := by omega
  rw [hmn]
  rw [hm] at hfl hsl
  have HM := Lib.hid hm
  have HBS := Lib.hid hbs
  have hdrop : (bv b).drop (m * 1) = bv rest := by
    rw [Nat.mul_one, hbs, bv_append, ← hm, ← bv_length (fr s), List.drop_left]
  have HDROP := Lib.hid hdrop
  obtain ⟨z, hz⟩ : ∃ z, rest.all (· == 0) = z := ⟨_, rfl⟩
  have HZ := Lib.hid hz
  have HBL : Hid ((bv b).length = n * 1) := Lib.hid (by rw [bv_length, HN.out, Nat.mul_one])
  have hcell0 : ∃ x, A1 = some x ∧ w1.cell? (x.add 0) = some (.string (bstr s)) := hc1 0 _ rfl
  obtain ⟨ad1, rfl, hcl0'⟩ := hcell0
  have hcl0 : w1.cell? ad1 = some (.string (bstr s)) := hcl0'
  clear hcl0'
  have e1 : ([s] : List (List UInt8)).length = 1 := rfl
  rw [e1]
  have hp0 : (0 : Int) ≤ (m : Int) := by omega
  have hp1 : (m : Int) ≤ (n : Int) := by omega
  have HMN2 := Lib.hid hmn2.symm
  clear hy1 hbs hm hmn hmn2 hfl hdrop hz hc1 e1
  have ARM1 := Lib.hid (HB.out.ext hx1)
  cases z with
  | false =>
    have HNO : Hid (∀ l, ¬ Reads b l) := Lib.hid (fun l h => by
      have h1 := h.2.2
      rw [HRE.out] at h1
      have h2 := HZ.out
      rw [List.all_eq_false] at h2
      obtain ⟨x, hx, hx2⟩ := h2
      exact hx2 (by rw [h1 x hx]; rfl))
    go_wp2_with (first
      | (refine wpList_slice_from_g (g := 3) (d' := 19) rfl rfl rfl 31 5 (.tmp 20) (.tmp 21) rfl Try.underlying31 1 bs_info A n c m .i64 rfl rfl hmle hc ARM1.out HBL.out ?_; intro A' hA' hS'; rw [HDROP.out] at hA')
      | (go_at_call 53; (with_reducible refine Calls.mono (containsz_calls A' (n - m) (c - m) rest w1 hA' HMN2.out (by omega) false HZ.out) ?_); rintro e w' ⟨rfl, rfl⟩))
    go_ret2
    exact ⟨.inr ⟨rfl, HNO.out⟩, hx1⟩
  | true =>
  have HZR : Hid (∀ x ∈ rest, x = 0) := Lib.hid (fun x hx => by have := List.all_eq_true.1 HZ.out x hx; simpa using this)
  obtain ⟨g2, c2, w2, hcv2, hl2, hg2, hgg2, hc2, hx2⟩ := conv_bytes (P := Try.prog) Try.underlying9 Try.underlying31 Try.underlying5 w1 (bstr s)
  have hbz : (bstr s).size = s.length := bstr_size s
  rw [hbz] at hcv2
  rw [bstr_data] at hc2
  have HRD := Lib.hid (read_calls (some ⟨g2, 0, none⟩) s.length c2 s w2 hc2 rfl (by omega))
  have hx02 := hx1.trans hx2
  obtain ⟨ns, hns⟩ : ∃ x, s.length = x := ⟨_, rfl⟩
  rw [hns] at hcv2 HRD hsl
  have HNS := Lib.hid hns
  clear hl2 hg2 hgg2 hc2 hbz hns
  go_upto_region 5 with (first
    | (refine wpList_slice_from_g (g := 3) (d' := 19) rfl rfl rfl 31 5 (.tmp 20) (.tmp 21) rfl Try.underlying31 1 bs_info A n c m .i64 rfl rfl hmle hc ARM1.out HBL.out ?_; intro A' hA' hS'; rw [HDROP.out] at hA')
    | (go_at_call 53; (with_reducible refine Calls.mono (containsz_calls A' (n - m) (c - m) rest w1 hA' HMN2.out (by omega) true HZ.out) ?_); rintro e w' ⟨rfl, rfl⟩)
    | (go_at_call 55; (with_reducible refine Calls.mono HRD.out ?_); rintro e w3 ⟨gr, rfl, hgr0, hrd3, hx3⟩))
  have hx03 := hx02.trans hx3
  have HRD3 := Lib.hid hrd3
  have hgrw : w.heap.size ≤ gr := Nat.le_trans hx02.size hgr0
  have hgrl : gr < w3.heap.size := hrd3.lt
  clear HRD hcv2 hgr0 hrd3 hcl0 hx2 hx02
  go_upto_region 6 with (fail)
  obtain ⟨w4, hw4⟩ : ∃ w4, w4 = w3.alloc (.cells #[.slice none 0 0] 66) := ⟨_, rfl⟩
  rw [← hw4]
  have hx4 : Ext w3 w4 := by rw [hw4]; exact (Ext.refl _).alloc _
  obtain ⟨gt, hgt⟩ : ∃ g, g = w3.heap.size := ⟨_, rfl⟩
  have hb4 : Blk w4 gt 66 #[.slice none 0 0] := by rw [hw4, hgt]; exact Blk.new w3 _ _
  rw [← hgt] at hgrl ⊢
  have hgtw : w.heap.size ≤ gt := by omega
  have hHU := ruint_calls gr ⟨s, false⟩ w4 (HRD3.out.ext hx4)
  obtain ⟨N, hN⟩ : ∃ x, (PR.uint ⟨s, false⟩).1 = x := ⟨_, rfl⟩
  obtain ⟨r0, hr0⟩ : ∃ x, (PR.uint ⟨s, false⟩).2 = x := ⟨_, rfl⟩
  have hN64 : N < 18446744073709551616 := by rw [← hN]; exact PR.uint_lt _
  have hr0l : r0.b.length ≤ ns := by rw [← hr0, ← HNS.out]; exact uint_len ⟨s, false⟩
  rw [hN, hr0] at hHU
  have HHU := Lib.hid hHU
  obtain ⟨B, hB⟩ : ∃ B, B = w4.heap.size := ⟨_, rfl⟩
  have hgtB : gt < B := by rw [hB]; exact hb4.lt
  have hgrB : gr < B := by omega
  have hwB : w.heap.size ≤ B := by omega
  have HY0 : Hid (∀ l, Reads b l → N = l.length ∧ r0 = ⟨wrsB l, false⟩ ∧ ∀ x ∈ l, okR x) := Lib.hid (fun l h => by
    have h1 := h.2.1
    rw [HYS.out] at h1
    have h2 : s = rowB l := (List.cons.inj h1).1
    have hlen : l.length < 2 ^ 64 := by
      have h3 := congrArg List.length h2
      rw [rowB_len] at h3
      have h4 := wrsN_len l
      omega
    have h5 := PR.uint_of l.length hlen (wrsB l) false
    have h6 : PR.uint ⟨s, false⟩ = (l.length, ⟨wrsB l, false⟩) := by rw [h2]; exact h5
    rw [h6] at hN hr0
    exact ⟨hN.symm, hr0.symm, h.1.short⟩)
  have HB4 := Lib.hid hb4
  have HBB := Lib.hid hB
  clear hHU hN hr0 hw4 hb4 hB hgt
  go_upto_region 7 with (go_at_call 56; (with_reducible refine Calls.mono HHU.out ?_); rintro e w5 ⟨rfl, hrd5, ht5⟩)
  have hOW : OW w B (fun u => Rdr u gr r0) gt 66 #[.slice none 0 0] [⟨46, 3, 0, (([] : List W3).map wC).flatten, .slice none 0 0⟩] w5 :=
    ⟨ht5.ext (hx03.trans hx4) hgrw, hrd5, HB4.out.grown ht5 (fun e => by cases e; omega), fun i q hq => by
      match i, hq with
      | 0, hq => cases hq; exact World.ownsRow_nil w5 _ _ 3
      | i + 1, hq => simp at hq, fun i j q t hij hi hj => by
      match i, j, hi, hj with
      | 0, 0, _, _ => exact absurd rfl hij
      | 0, j + 1, _, hj => simp at hj
      | i + 1, _, hi, _ => simp at hi, by rw [HBB.out]; exact ht5.size⟩
  have HOW := Lib.hid hOW
  have HRST : Hid (∀ l, Reads b l → [] = l.take 0 ∧ 0 ≤ l.length ∧ r0 = ⟨wrsB (l.drop 0), false⟩ ∧ N = l.length - 0) := Lib.hid (fun l h => by
    obtain ⟨h1, h2, _⟩ := HY0.out l h
    exact ⟨rfl, Nat.zero_le _, by rw [List.drop_zero]; exact h2, h1⟩)
  have HSH : Hid (∀ l, Reads b l → ∀ x ∈ l, okR x) := Lib.hid (fun l h => h.1.short)
  clear hOW hrd5 ht5 HHU HB4 HBB HRD3 HY0 hx4 hx3 hx1 hx03
  go_loopg [8] (muR r0) (fun gk v wr => ∃ (rem : Nat) (r : PR) (out : List W3) (At : Option Addr) (ct mo : Nat), v = .int .u64 rem ∧ rem < 18446744073709551616 ∧ Hid (muR r ≤ gk) ∧ Hid (out.length = mo) ∧ Hid (OW w B (fun u => Rdr u gr r) gt 66 #[.slice At mo ct] [⟨46, 3, mo, (out.map wC).flatten, .slice At mo ct⟩] wr) ∧ Hid (ValidT out ∧ plN out + muR r ≤ ns + 1) ∧ Hid (∀ l, Reads b l → out = l.take mo ∧ mo ≤ l.length ∧ r = ⟨wrsB (l.drop mo), false⟩ ∧ rem = l.length - mo))
  case atStart => exact ⟨N, r0, [], none, 0, 0, rfl, hN64, Lib.hid (Nat.le_refl _), Lib.hid rfl, HOW, Lib.hid ⟨⟨List.Pairwise.nil, fun x hx => (by cases hx), fun x hx => (by cases hx)⟩, by have := muR_le r0; show 0 + muR r0 ≤ ns + 1; omega⟩, HRST⟩
  case round =>
    clear HOW HRST hN64 hr0l
    obtain ⟨rem, r, out, At, ct, mo, rfl, hrem64, HMU, HMO, HX, HV, HY⟩ := hrel
    have hmo9 : mo ≤ ns + 1 := by have h1 := HV.out.2; have h2 := plN_len out; rw [HMO.out] at h2; omega
    have hBw : B ≤ wr.heap.size := HX.out.hB
    by_cases hr0 : rem = 0
    · subst hr0
      have hxw := HX.out.ext
      have HXR := Lib.hid HX.out.rd
      cases hend : r.end_ with
      | false =>
        have HEND := Lib.hid hend
        have HNO : Hid (∀ l, ¬ Reads b l) := Lib.hid (fun l h => by
          obtain ⟨h1, h2, h3, h4⟩ := HY.out l h
          have h5 : l.drop mo = [] := List.drop_eq_nil_of_le (by omega)
          rw [h5] at h3
          have h6 := HEND.out
          rw [h3] at h6
          cases h6)
        clear hend HY HV HMU
        go_upto_region 15 with (fail)
        refine wp_region_ops (FInv [92, 93, 94, 95, 96, 97, 98, 99, 100, 101, 102, 103, 104] _ wr.drew [⟨0, none, 92, .val (.pointer (some ⟨gr, 0, none⟩))⟩, ⟨1, none, 93, .val (.bool false)⟩, ⟨2, none, 94, .val (.bool true)⟩, ⟨3, none, 95, .val (.bool true)⟩, ⟨4, none, 96, .val undef⟩, ⟨5, none, 97, .val undef⟩, ⟨6, none, 98, .val undef⟩, ⟨7, none, 99, .val undef⟩, ⟨8, none, 100, .val undef⟩, ⟨9, none, 101, .val undef⟩, ⟨10, none, 102, .val undef⟩, ⟨11, none, 103, .val undef⟩, ⟨12, none, 104, .val (.bool true)⟩]) (by kernel_rfl) (by kernel_rfl) FInv.start ?_ ?_
        · refine ⟨?o0, ?o1, ?o2, ?o3, ?o4, ?o5, ?o6, ?o7, ?o8, ?o9, ?o10, ?o11, ?o12, trivial⟩
          case o0 =>
            intro f a u h hfi hp hq
            have q6 : a.tmps[6]?.getD undef = .pointer (some ⟨gr, 0, none⟩) := h.agree.att (by decide)
            exact h.yieldG rfl (wanted_none rfl) 92 rfl (by change 92 < 106; decide) rfl _ rfl (by go_simp)
          case o1 =>
            intro f a u h hfi hp hq
            have hyu : Ext wr u := ((Ext.refl wr).drew).trans h.ext
            exact h.callG rfl (wanted_none rfl) 93 rfl (by change 93 < 106; decide) rfl _ rfl 59 #[.tmp 92] #[102] _ rfl (by kernel_rfl) (by rw [arr1, h.at_ 0 rfl (pre_of hp 0 rfl)] <;> rfl) ((rend_calls gr r u (HXR.out.ext hyu)).mono (by rintro e w' ⟨rfl, rfl⟩; exact ⟨by rw [HEND.out], Ext.refl _⟩))
          case o2 =>
            intro f a u h hfi hp hq
            have q93 := h.att 1 rfl (pre_of hp 1 rfl)
            exact h.yieldG rfl (wanted_none rfl) 94 rfl (by change 94 < 106; decide) rfl _ rfl (by go_simp)
          case o3 =>
            intro f a u h hfi hp hq
            have q94 := h.att 2 rfl (pre_of hp 2 rfl)
            exact h.yieldG rfl (wanted_none rfl) 95 rfl (by change 95 < 106; decide) rfl _ rfl (by go_simp)
          case o4 =>
            intro f a u h hfi hp hq
            exact h.skipG rfl (wanted_not (g := 3) (d' := 95) rfl rfl (h.at_ 3 rfl (pre_of hp 3 rfl)) rfl) 96 rfl (by change 96 < 106; decide) rfl rfl
          case o5 =>
            intro f a u h hfi hp hq
            exact h.skipG rfl (wanted_not (g := 3) (d' := 95) rfl rfl (h.at_ 3 rfl (pre_of hp 3 rfl)) rfl) 97 rfl (by change 97 < 106; decide) rfl rfl
          case o6 =>
            intro f a u h hfi hp hq
            exact h.skipG rfl (wanted_not (g := 3) (d' := 95) rfl rfl (h.at_ 3 rfl (pre_of hp 3 rfl)) rfl) 98 rfl (by change 98 < 106; decide) rfl rfl
          case o7 =>
            intro f a u h hfi hp hq
            exact h.skipG rfl (wanted_not (g := 3) (d' := 95) rfl rfl (h.at_ 3 rfl (pre_of hp 3 rfl)) rfl) 99 rfl (by change 99 < 106; decide) rfl rfl
          case o8 =>
            intro f a u h hfi hp hq
            exact h.skipG rfl (wanted_not (g := 3) (d' := 95) rfl rfl (h.at_ 3 rfl (pre_of hp 3 rfl)) rfl) 100 rfl (by change 100 < 106; decide) rfl rfl
          case o9 =>
            intro f a u h hfi hp hq
            exact h.skipG rfl (wanted_not (g := 3) (d' := 95) rfl rfl (h.at_ 3 rfl (pre_of hp 3 rfl)) rfl) 101 rfl (by change 101 < 106; decide) rfl rfl
          case o10 =>
            intro f a u h hfi hp hq
            exact h.skipG rfl (wanted_not (g := 3) (d' := 95) rfl rfl (h.at_ 3 rfl (pre_of hp 3 rfl)) rfl) 102 rfl (by change 102 < 106; decide) rfl rfl
          case o11 =>
            intro f a u h hfi hp hq
            exact h.skipG rfl (wanted_not (g := 3) (d' := 95) rfl rfl (h.at_ 3 rfl (pre_of hp 3 rfl)) rfl) 103 rfl (by change 103 < 106; decide) rfl rfl
          case o12 =>
            intro f a u h hfi hp hq
            have q95 := h.att 3 rfl (pre_of hp 3 rfl)
            have q103 := h.att 11 rfl (pre_of hp 11 rfl)
            exact h.yieldG rfl (wanted_none rfl) 104 rfl (by change 104 < 106; decide) rfl _ rfl (by go_simp)
        · intro f a u h hall hfar
          have hyu : Ext wr u := ((Ext.refl wr).drew).trans h.ext
          have e104 := h.at_ 12 rfl (hall 12 (by decide))
          have hag := h.agree.out
          simp only [List.foldl_cons, List.foldl_nil, Act.put, List.setIfInBounds_toArray, List.set_cons_zero, List.set_cons_succ, e104] at hag
          generalize a.eval (.tmp 92) = y92 at hag
          generalize a.eval (.tmp 93) = y93 at hag
          generalize a.eval (.tmp 94) = y94 at hag
          generalize a.eval (.tmp 95) = y95 at hag
          generalize a.eval (.tmp 96) = y96 at hag
          generalize a.eval (.tmp 97) = y97 at hag
          generalize a.eval (.tmp 98) = y98 at hag
          generalize a.eval (.tmp 99) = y99 at hag
          generalize a.eval (.tmp 100) = y100 at hag
          generalize a.eval (.tmp 101) = y101 at hag
          generalize a.eval (.tmp 102) = y102 at hag
          generalize a.eval (.tmp 103) = y103 at hag
          clear h hall hfar e104
          subst hag
          clear HXR HEND
          go_wp2
          go_ret2
          exact ⟨.inr ⟨rfl, HNO.out⟩, hxw.trans hyu⟩
      | true =>
        have HEND := Lib.hid hend
        have HTA : Hid (TabAt 0 wr gt out) := Lib.hid ⟨At, ct, by rw [HMO.out]; exact HX.out.nod, by rw [HMO.out]; exact own_lower (HX.out.own 0 _ rfl) (Nat.zero_le _)⟩
        have HPL : Hid (plN out ≤ 1000000) := Lib.hid (by have := HV.out.2; omega)
        have HBY := Lib.hid (fun (u : World) (hu : Ext wr u) => bytes_calls (.pointer (some ⟨gt, 0, none⟩)) out mo HMO.out u (fun u' hu' => all_tab gt out u' (HTA.out.ext (hu.trans hu')) mo HMO.out (by omega)) HPL.out)
        have HFR : Hid (Cells wr A (bv (fr s))) := Lib.hid (by
          have h1 := (HB.out.ext hxw).take m
          rw [HBS.out, bv_append, ← HM.out, ← bv_length (fr s), List.take_left] at h1
          exact h1)
        by_cases heq : tbB out = fr s
        · have HEQ : Hid (((bstr (tbB out)).toList == (bstr (fr s)).toList) = true) := Lib.hid (by rw [heq]; simp)
          have HREADS : Hid (Reads b out) := Lib.hid (by
            have hrl : (rowB out).length < 2 ^ 64 := by
              have h1 := congrArg List.length heq
              unfold tbB at h1
              rw [HM.out, fr_len, textB_len] at h1
              omega
            have h2 : rowB out = s := fr_inj hrl hs64 heq
            refine ⟨HV.out.1, by rw [HYS.out, h2], ?_⟩
            rw [HRE.out]
            exact HZR.out)
          clear hend HY HV HMU heq
          go_upto_region 15 with (fail)
          refine wp_region_ops (FInv [92, 93, 94, 95, 96, 97, 98, 99, 100, 101, 102, 103, 104] _ wr.drew [⟨0, none, 92, .val (.pointer (some ⟨gr, 0, none⟩))⟩, ⟨1, none, 93, .val (.bool true)⟩, ⟨2, none, 94, .val (.bool false)⟩, ⟨3, none, 95, .val (.bool false)⟩, ⟨4, none, 96, .val (.pointer (some ⟨gt, 0, none⟩))⟩, ⟨5, none, 97, .own (tbB out)⟩, ⟨6, none, 98, .val (.string (bstr (tbB out)))⟩, ⟨7, none, 99, .val (.slice A n c)⟩, ⟨8, none, 100, .val (.int .i64 (m : Int))⟩, ⟨9, none, 101, .val (.slice A m c)⟩, ⟨10, none, 102, .val (.string (bstr (fr s)))⟩, ⟨11, none, 103, .val (.bool false)⟩, ⟨12, none, 104, .val (.bool false)⟩]) (by kernel_rfl) (by kernel_rfl) FInv.start ?_ ?_
          · refine ⟨?o0, ?o1, ?o2, ?o3, ?o4, ?o5, ?o6, ?o7, ?o8, ?o9, ?o10, ?o11, ?o12, trivial⟩
            case o0 =>
              intro f a u h hfi hp hq
              have q6 : a.tmps[6]?.getD undef = .pointer (some ⟨gr, 0, none⟩) := h.agree.att (by decide)
              exact h.yieldG rfl (wanted_none rfl) 92 rfl (by change 92 < 106; decide) rfl _ rfl (by go_simp)
            case o1 =>
              intro f a u h hfi hp hq
              have hyu : Ext wr u := ((Ext.refl wr).drew).trans h.ext
              exact h.callG rfl (wanted_none rfl) 93 rfl (by change 93 < 106; decide) rfl _ rfl 59 #[.tmp 92] #[102] _ rfl (by kernel_rfl) (by rw [arr1, h.at_ 0 rfl (pre_of hp 0 rfl)] <;> rfl) ((rend_calls gr r u (HXR.out.ext hyu)).mono (by rintro e w' ⟨rfl, rfl⟩; exact ⟨by rw [HEND.out], Ext.refl _⟩))
            case o2 =>
              intro f a u h hfi hp hq
              have q93 := h.att 1 rfl (pre_of hp 1 rfl)
              exact h.yieldG rfl (wanted_none rfl) 94 rfl (by change 94 < 106; decide) rfl _ rfl (by go_simp)
            case o3 =>
              intro f a u h hfi hp hq
              have q94 := h.att 2 rfl (pre_of hp 2 rfl)
              exact h.yieldG rfl (wanted_none rfl) 95 rfl (by change 95 < 106; decide) rfl _ rfl (by go_simp)
            case o4 =>
              intro f a u h hfi hp hq
              have q7 : a.tmps[7]?.getD undef = .pointer (some ⟨gt, 0, none⟩) := h.agree.att (by decide)
              exact h.yieldG rfl (wanted_yes (g := 3) (d' := 95) rfl rfl (h.at_ 3 rfl (pre_of hp 3 rfl))) 96 rfl (by change 96 < 106; decide) rfl _ rfl (by go_simp)
            case o5 =>
              intro f a u h hfi hp hq
              have hyu : Ext wr u := ((Ext.refl wr).drew).trans h.ext
              exact h.callO rfl (wanted_yes (g := 3) (d' := 95) rfl rfl (h.at_ 3 rfl (pre_of hp 3 rfl))) 97 rfl (by change 97 < 106; decide) rfl none _ rfl 12 #[.tmp 96] #[29] _ rfl (by kernel_rfl) (by rw [arr1, h.at_ 4 rfl (pre_of hp 4 rfl)]) (HBY.out u hyu)
            case o6 =>
              intro f a u h hfi hp hq
              obtain ⟨A1, c1, e1, l1, _, hc1⟩ := (h.own 5 rfl (pre_of hp 5 rfl) (fun d hd => by cases hd)).form
              exact h.yieldG rfl (wanted_yes (g := 3) (d' := 95) rfl rfl (h.at_ 3 rfl (pre_of hp 3 rfl))) 98 rfl (by change 98 < 106; decide) rfl _ rfl (run_of_sem rfl (by rw [e1]; exact conv_str (P := Try.prog) Try.underlying31 Try.underlying5 Try.underlying9 rfl hc1))
            case o7 =>
              intro f a u h hfi hp hq
              have q0 : a.tmps[0]?.getD undef = .slice A n c := h.agree.att (by decide)
              exact h.yieldG rfl (wanted_yes (g := 3) (d' := 95) rfl rfl (h.at_ 3 rfl (pre_of hp 3 rfl))) 99 rfl (by change 99 < 106; decide) rfl _ rfl (by go_simp)
            case o8 =>
              intro f a u h hfi hp hq
              have q5 : a.tmps[5]?.getD undef = .int .i64 (m : Int) := h.agree.att (by decide)
              exact h.yieldG rfl (wanted_yes (g := 3) (d' := 95) rfl rfl (h.at_ 3 rfl (pre_of hp 3 rfl))) 100 rfl (by change 100 < 106; decide) rfl _ rfl (by go_simp)
            case o9 =>
              intro f a u h hfi hp hq
              have z : ¬ c < m := by omega
              have q99 := h.att 7 rfl (pre_of hp 7 rfl)
              have q100 := h.att 8 rfl (pre_of hp 8 rfl)
              exact h.yieldG rfl (wanted_yes (g := 3) (d' := 95) rfl rfl (h.at_ 3 rfl (pre_of hp 3 rfl))) 101 rfl (by change 101 < 106; decide) rfl _ rfl (by go_simp)
            case o10 =>
              intro f a u h hfi hp hq
              have hyu : Ext wr u := ((Ext.refl wr).drew).trans h.ext
              exact h.yieldG rfl (wanted_yes (g := 3) (d' := 95) rfl rfl (h.at_ 3 rfl (pre_of hp 3 rfl))) 102 rfl (by change 102 < 106; decide) rfl _ rfl (run_of_sem rfl (by rw [h.at_ 9 rfl (pre_of hp 9 rfl)]; exact conv_str (P := Try.prog) Try.underlying31 Try.underlying5 Try.underlying9 HM.out (HFR.out.ext hyu)))
            case o11 =>
              intro f a u h hfi hp hq
              have z := HEQ.out
              have q98 := h.att 6 rfl (pre_of hp 6 rfl)
              have q102 := h.att 10 rfl (pre_of hp 10 rfl)
              exact h.yieldG rfl (wanted_yes (g := 3) (d' := 95) rfl rfl (h.at_ 3 rfl (pre_of hp 3 rfl))) 103 rfl (by change 103 < 106; decide) rfl _ rfl (by go_simp)
            case o12 =>
              intro f a u h hfi hp hq
              have q95 := h.att 3 rfl (pre_of hp 3 rfl)
              have q103 := h.att 11 rfl (pre_of hp 11 rfl)
              exact h.yieldG rfl (wanted_none rfl) 104 rfl (by change 104 < 106; decide) rfl _ rfl (by go_simp)
          · intro f a u h hall hfar
            have hyu : Ext wr u := ((Ext.refl wr).drew).trans h.ext
            have e104 := h.at_ 12 rfl (hall 12 (by decide))
            have hag := h.agree.out
            simp only [List.foldl_cons, List.foldl_nil, Act.put, List.setIfInBounds_toArray, List.set_cons_zero, List.set_cons_succ, e104] at hag
            generalize a.eval (.tmp 92) = y92 at hag
            generalize a.eval (.tmp 93) = y93 at hag
            generalize a.eval (.tmp 94) = y94 at hag
            generalize a.eval (.tmp 95) = y95 at hag
            generalize a.eval (.tmp 96) = y96 at hag
            generalize a.eval (.tmp 97) = y97 at hag
            generalize a.eval (.tmp 98) = y98 at hag
            generalize a.eval (.tmp 99) = y99 at hag
            generalize a.eval (.tmp 100) = y100 at hag
            generalize a.eval (.tmp 101) = y101 at hag
            generalize a.eval (.tmp 102) = y102 at hag
            generalize a.eval (.tmp 103) = y103 at hag
            clear h hall hfar e104
            subst hag
            clear HXR HEND HEQ
            go_wp2
            go_ret2
            exact ⟨.inl ⟨gt, out, rfl, HREADS.out, HPL.out, HTA.out.ext hyu⟩, hxw.trans hyu⟩
        · have HEQ : Hid (((bstr (tbB out)).toList == (bstr (fr s)).toList) = false) := Lib.hid (by
            rw [beq_eq_false_iff_ne]
            exact fun e => heq (bstr_inj (kl_inj e)))
          have HNO : Hid (∀ l, ¬ Reads b l) := Lib.hid (fun l h => by
            obtain ⟨h1, h2, h3, h4⟩ := HY.out l h
            have h5 : l.take mo = l := List.take_of_length_le (by omega)
            rw [h5] at h1
            have h6 := h.2.1
            rw [HYS.out] at h6
            apply heq
            unfold tbB
            rw [h1, ← (List.cons.inj h6).1])
          clear hend HY HV HMU heq
          go_upto_region 15 with (fail)
          refine wp_region_ops (FInv [92, 93, 94, 95, 96, 97, 98, 99, 100, 101, 102, 103, 104] _ wr.drew [⟨0, none, 92, .val (.pointer (some ⟨gr, 0, none⟩))⟩, ⟨1, none, 93, .val (.bool true)⟩, ⟨2, none, 94, .val (.bool false)⟩, ⟨3, none, 95, .val (.bool false)⟩, ⟨4, none, 96, .val (.pointer (some ⟨gt, 0, none⟩))⟩, ⟨5, none, 97, .own (tbB out)⟩, ⟨6, none, 98, .val (.string (bstr (tbB out)))⟩, ⟨7, none, 99, .val (.slice A n c)⟩, ⟨8, none, 100, .val (.int .i64 (m : Int))⟩, ⟨9, none, 101, .val (.slice A m c)⟩, ⟨10, none, 102, .val (.string (bstr (fr s)))⟩, ⟨11, none, 103, .val (.bool true)⟩, ⟨12, none, 104, .val (.bool true)⟩]) (by kernel_rfl) (by kernel_rfl) FInv.start ?_ ?_
          · refine ⟨?o0, ?o1, ?o2, ?o3, ?o4, ?o5, ?o6, ?o7, ?o8, ?o9, ?o10, ?o11, ?o12, trivial⟩
            case o0 =>
              intro f a u h hfi hp hq
              have q6 : a.tmps[6]?.getD undef = .pointer (some ⟨gr, 0, none⟩) := h.agree.att (by decide)
              exact h.yieldG rfl (wanted_none rfl) 92 rfl (by change 92 < 106; decide) rfl _ rfl (by go_simp)
            case o1 =>
              intro f a u h hfi hp hq
              have hyu : Ext wr u := ((Ext.refl wr).drew).trans h.ext
              exact h.callG rfl (wanted_none rfl) 93 rfl (by change 93 < 106; decide) rfl _ rfl 59 #[.tmp 92] #[102] _ rfl (by kernel_rfl) (by rw [arr1, h.at_ 0 rfl (pre_of hp 0 rfl)] <;> rfl) ((rend_calls gr r u (HXR.out.ext hyu)).mono (by rintro e w' ⟨rfl, rfl⟩; exact ⟨by rw [HEND.out], Ext.refl _⟩))
            case o2 =>
              intro f a u h hfi hp hq
              have q93 := h.att 1 rfl (pre_of hp 1 rfl)
              exact h.yieldG rfl (wanted_none rfl) 94 rfl (by change 94 < 106; decide) rfl _ rfl (by go_simp)
            case o3 =>
              intro f a u h hfi hp hq
              have q94 := h.att 2 rfl (pre_of hp 2 rfl)
              exact h.yieldG rfl (wanted_none rfl) 95 rfl (by change 95 < 106; decide) rfl _ rfl (by go_simp)
            case o4 =>
              intro f a u h hfi hp hq
              have q7 : a.tmps[7]?.getD undef = .pointer (some ⟨gt, 0, none⟩) := h.agree.att (by decide)
              exact h.yieldG rfl (wanted_yes (g := 3) (d' := 95) rfl rfl (h.at_ 3 rfl (pre_of hp 3 rfl))) 96 rfl (by change 96 < 106; decide) rfl _ rfl (by go_simp)
            case o5 =>
              intro f a u h hfi hp hq
              have hyu : Ext wr u := ((Ext.refl wr).drew).trans h.ext
              exact h.callO rfl (wanted_yes (g := 3) (d' := 95) rfl rfl (h.at_ 3 rfl (pre_of hp 3 rfl))) 97 rfl (by change 97 < 106; decide) rfl none _ rfl 12 #[.tmp 96] #[29] _ rfl (by kernel_rfl) (by rw [arr1, h.at_ 4 rfl (pre_of hp 4 rfl)]) (HBY.out u hyu)
            case o6 =>
              intro f a u h hfi hp hq
              obtain ⟨A1, c1, e1, l1, _, hc1⟩ := (h.own 5 rfl (pre_of hp 5 rfl) (fun d hd => by cases hd)).form
              exact h.yieldG rfl (wanted_yes (g := 3) (d' := 95) rfl rfl (h.at_ 3 rfl (pre_of hp 3 rfl))) 98 rfl (by change 98 < 106; decide) rfl _ rfl (run_of_sem rfl (by rw [e1]; exact conv_str (P := Try.prog) Try.underlying31 Try.underlying5 Try.underlying9 rfl hc1))
            case o7 =>
              intro f a u h hfi hp hq
              have q0 : a.tmps[0]?.getD undef = .slice A n c := h.agree.att (by decide)
              exact h.yieldG rfl (wanted_yes (g := 3) (d' := 95) rfl rfl (h.at_ 3 rfl (pre_of hp 3 rfl))) 99 rfl (by change 99 < 106; decide) rfl _ rfl (by go_simp)
            case o8 =>
              intro f a u h hfi hp hq
              have q5 : a.tmps[5]?.getD undef = .int .i64 (m : Int) := h.agree.att (by decide)
              exact h.yieldG rfl (wanted_yes (g := 3) (d' := 95) rfl rfl (h.at_ 3 rfl (pre_of hp 3 rfl))) 100 rfl (by change 100 < 106; decide) rfl _ rfl (by go_simp)
            case o9 =>
              intro f a u h hfi hp hq
              have z : ¬ c < m := by omega
              have q99 := h.att 7 rfl (pre_of hp 7 rfl)
              have q100 := h.att 8 rfl (pre_of hp 8 rfl)
              exact h.yieldG rfl (wanted_yes (g := 3) (d' := 95) rfl rfl (h.at_ 3 rfl (pre_of hp 3 rfl))) 101 rfl (by change 101 < 106; decide) rfl _ rfl (by go_simp)
            case o10 =>
              intro f a u h hfi hp hq
              have hyu : Ext wr u := ((Ext.refl wr).drew).trans h.ext
              exact h.yieldG rfl (wanted_yes (g := 3) (d' := 95) rfl rfl (h.at_ 3 rfl (pre_of hp 3 rfl))) 102 rfl (by change 102 < 106; decide) rfl _ rfl (run_of_sem rfl (by rw [h.at_ 9 rfl (pre_of hp 9 rfl)]; exact conv_str (P := Try.prog) Try.underlying31 Try.underlying5 Try.underlying9 HM.out (HFR.out.ext hyu)))
            case o11 =>
              intro f a u h hfi hp hq
              have z := HEQ.out
              have q98 := h.att 6 rfl (pre_of hp 6 rfl)
              have q102 := h.att 10 rfl (pre_of hp 10 rfl)
              exact h.yieldG rfl (wanted_yes (g := 3) (d' := 95) rfl rfl (h.at_ 3 rfl (pre_of hp 3 rfl))) 103 rfl (by change 103 < 106; decide) rfl _ rfl (by go_simp)
            case o12 =>
              intro f a u h hfi hp hq
              have q95 := h.att 3 rfl (pre_of hp 3 rfl)
              have q103 := h.att 11 rfl (pre_of hp 11 rfl)
              exact h.yieldG rfl (wanted_none rfl) 104 rfl (by change 104 < 106; decide) rfl _ rfl (by go_simp)
          · intro f a u h hall hfar
            have hyu : Ext wr u := ((Ext.refl wr).drew).trans h.ext
            have e104 := h.at_ 12 rfl (hall 12 (by decide))
            have hag := h.agree.out
            simp only [List.foldl_cons, List.foldl_nil, Act.put, List.setIfInBounds_toArray, List.set_cons_zero, List.set_cons_succ, e104] at hag
            generalize a.eval (.tmp 92) = y92 at hag
            generalize a.eval (.tmp 93) = y93 at hag
            generalize a.eval (.tmp 94) = y94 at hag
            generalize a.eval (.tmp 95) = y95 at hag
            generalize a.eval (.tmp 96) = y96 at hag
            generalize a.eval (.tmp 97) = y97 at hag
            generalize a.eval (.tmp 98) = y98 at hag
            generalize a.eval (.tmp 99) = y99 at hag
            generalize a.eval (.tmp 100) = y100 at hag
            generalize a.eval (.tmp 101) = y101 at hag
            generalize a.eval (.tmp 102) = y102 at hag
            generalize a.eval (.tmp 103) = y103 at hag
            clear h hall hfar e104
            subst hag
            clear HXR HEND HEQ
            go_wp2
            go_ret2
            exact ⟨.inr ⟨rfl, HNO.out⟩, hxw.trans hyu⟩
    have hrp : (0 : Int) < (rem : Int) := by omega
    have HGD := Lib.hid (fun (u : World) (h : Rdr u gr r) => rgood_calls gr r u h)
    cases hbad : r.bad with
    | true =>
      rw [hbad] at HGD
      have hxw := HX.out.ext
      have HXR := Lib.hid HX.out.rd
      have hend : r.end_ = false := by unfold PR.end_; rw [hbad]; rfl
      have HEND := Lib.hid hend
      have HNO : Hid (∀ l, ¬ Reads b l) := Lib.hid (fun l h => by
        obtain ⟨h1, h2, h3, h4⟩ := HY.out l h
        rw [h3] at hbad
        cases hbad)
      clear hend hbad HY HV HMU
      go_upto_region 15 with (go_at_call 57; (with_reducible refine Calls.mono (HGD.out wr HXR.out) ?_); rintro e w' ⟨rfl, rfl⟩)
      refine wp_region_ops (FInv [92, 93, 94, 95, 96, 97, 98, 99, 100, 101, 102, 103, 104] _ wr.drew [⟨0, none, 92, .val (.pointer (some ⟨gr, 0, none⟩))⟩, ⟨1, none, 93, .val (.bool false)⟩, ⟨2, none, 94, .val (.bool true)⟩, ⟨3, none, 95, .val (.bool true)⟩, ⟨4, none, 96, .val undef⟩, ⟨5, none, 97, .val undef⟩, ⟨6, none, 98, .val undef⟩, ⟨7, none, 99, .val undef⟩, ⟨8, none, 100, .val undef⟩, ⟨9, none, 101, .val undef⟩, ⟨10, none, 102, .val undef⟩, ⟨11, none, 103, .val undef⟩, ⟨12, none, 104, .val (.bool true)⟩]) (by kernel_rfl) (by kernel_rfl) FInv.start ?_ ?_
      · refine ⟨?o0, ?o1, ?o2, ?o3, ?o4, ?o5, ?o6, ?o7, ?o8, ?o9, ?o10, ?o11, ?o12, trivial⟩
        case o0 =>
          intro f a u h hfi hp hq
          have q6 : a.tmps[6]?.getD undef = .pointer (some ⟨gr, 0, none⟩) := h.agree.att (by decide)
          exact h.yieldG rfl (wanted_none rfl) 92 rfl (by change 92 < 106; decide) rfl _ rfl (by go_simp)
        case o1 =>
          intro f a u h hfi hp hq
          have hyu : Ext wr u := ((Ext.refl wr).drew).trans h.ext
          exact h.callG rfl (wanted_none rfl) 93 rfl (by change 93 < 106; decide) rfl _ rfl 59 #[.tmp 92] #[102] _ rfl (by kernel_rfl) (by rw [arr1, h.at_ 0 rfl (pre_of hp 0 rfl)] <;> rfl) ((rend_calls gr r u (HXR.out.ext hyu)).mono (by rintro e w' ⟨rfl, rfl⟩; exact ⟨by rw [HEND.out], Ext.refl _⟩))
        case o2 =>
          intro f a u h hfi hp hq
          have q93 := h.att 1 rfl (pre_of hp 1 rfl)
          exact h.yieldG rfl (wanted_none rfl) 94 rfl (by change 94 < 106; decide) rfl _ rfl (by go_simp)
        case o3 =>
          intro f a u h hfi hp hq
          have q94 := h.att 2 rfl (pre_of hp 2 rfl)
          exact h.yieldG rfl (wanted_none rfl) 95 rfl (by change 95 < 106; decide) rfl _ rfl (by go_simp)
        case o4 =>
          intro f a u h hfi hp hq
          exact h.skipG rfl (wanted_not (g := 3) (d' := 95) rfl rfl (h.at_ 3 rfl (pre_of hp 3 rfl)) rfl) 96 rfl (by change 96 < 106; decide) rfl rfl
        case o5 =>
          intro f a u h hfi hp hq
          exact h.skipG rfl (wanted_not (g := 3) (d' := 95) rfl rfl (h.at_ 3 rfl (pre_of hp 3 rfl)) rfl) 97 rfl (by change 97 < 106; decide) rfl rfl
        case o6 =>
          intro f a u h hfi hp hq
          exact h.skipG rfl (wanted_not (g := 3) (d' := 95) rfl rfl (h.at_ 3 rfl (pre_of hp 3 rfl)) rfl) 98 rfl (by change 98 < 106; decide) rfl rfl
        case o7 =>
          intro f a u h hfi hp hq
          exact h.skipG rfl (wanted_not (g := 3) (d' := 95) rfl rfl (h.at_ 3 rfl (pre_of hp 3 rfl)) rfl) 99 rfl (by change 99 < 106; decide) rfl rfl
        case o8 =>
          intro f a u h hfi hp hq
          exact h.skipG rfl (wanted_not (g := 3) (d' := 95) rfl rfl (h.at_ 3 rfl (pre_of hp 3 rfl)) rfl) 100 rfl (by change 100 < 106; decide) rfl rfl
        case o9 =>
          intro f a u h hfi hp hq
          exact h.skipG rfl (wanted_not (g := 3) (d' := 95) rfl rfl (h.at_ 3 rfl (pre_of hp 3 rfl)) rfl) 101 rfl (by change 101 < 106; decide) rfl rfl
        case o10 =>
          intro f a u h hfi hp hq
          exact h.skipG rfl (wanted_not (g := 3) (d' := 95) rfl rfl (h.at_ 3 rfl (pre_of hp 3 rfl)) rfl) 102 rfl (by change 102 < 106; decide) rfl rfl
        case o11 =>
          intro f a u h hfi hp hq
          exact h.skipG rfl (wanted_not (g := 3) (d' := 95) rfl rfl (h.at_ 3 rfl (pre_of hp 3 rfl)) rfl) 103 rfl (by change 103 < 106; decide) rfl rfl
        case o12 =>
          intro f a u h hfi hp hq
          have q95 := h.att 3 rfl (pre_of hp 3 rfl)
          have q103 := h.att 11 rfl (pre_of hp 11 rfl)
          exact h.yieldG rfl (wanted_none rfl) 104 rfl (by change 104 < 106; decide) rfl _ rfl (by go_simp)
      · intro f a u h hall hfar
        have hyu : Ext wr u := ((Ext.refl wr).drew).trans h.ext
        have e104 := h.at_ 12 rfl (hall 12 (by decide))
        have hag := h.agree.out
        simp only [List.foldl_cons, List.foldl_nil, Act.put, List.setIfInBounds_toArray, List.set_cons_zero, List.set_cons_succ, e104] at hag
        generalize a.eval (.tmp 92) = y92 at hag
        generalize a.eval (.tmp 93) = y93 at hag
        generalize a.eval (.tmp 94) = y94 at hag
        generalize a.eval (.tmp 95) = y95 at hag
        generalize a.eval (.tmp 96) = y96 at hag
        generalize a.eval (.tmp 97) = y97 at hag
        generalize a.eval (.tmp 98) = y98 at hag
        generalize a.eval (.tmp 99) = y99 at hag
        generalize a.eval (.tmp 100) = y100 at hag
        generalize a.eval (.tmp 101) = y101 at hag
        generalize a.eval (.tmp 102) = y102 at hag
        generalize a.eval (.tmp 103) = y103 at hag
        clear h hall hfar e104
        subst hag
        clear HXR HEND
        go_wp2
        go_ret2
        exact ⟨.inr ⟨rfl, HNO.out⟩, hxw.trans hyu⟩
    | false =>
      rw [hbad] at HGD
      obtain ⟨u1, hu1⟩ : ∃ x, r.uint.1 = x := ⟨_, rfl⟩
      obtain ⟨r1, hr1⟩ : ∃ x, r.uint.2 = x := ⟨_, rfl⟩
      obtain ⟨k1, hk1⟩ : ∃ x, (r1.text 48).1 = x := ⟨_, rfl⟩
      obtain ⟨r2, hr2⟩ : ∃ x, (r1.text 48).2 = x := ⟨_, rfl⟩
      obtain ⟨v1, hv1⟩ : ∃ x, (r2.text 160).1 = x := ⟨_, rfl⟩
      obtain ⟨r3, hr3⟩ : ∃ x, (r2.text 160).2 = x := ⟨_, rfl⟩
      obtain ⟨gn, hgn⟩ : ∃ g, ((u1 : Int) == 1) = g := ⟨_, rfl⟩
      have HCOST : Hid (1 + k1.length + v1.length + muR r3 ≤ muR r) := Lib.hid (by subst hu1 hr1 hk1 hr2 hv1 hr3; exact rd_cost r hbad)
      have HOKR : Hid (okR (bstr k1, bstr v1, gn)) := Lib.hid (by subst hk1 hv1; exact ⟨by show (bstr _).size ≤ 48; rw [bstr_size]; exact text_max r1 48, by show (bstr _).size ≤ 160; rw [bstr_size]; exact text_max r2 160⟩)
      have HSTEP : Hid (∀ l, Reads b l → ∃ h : mo < l.length, l[mo] = (bstr k1, bstr v1, gn) ∧ r3 = ⟨wrsB (l.drop (mo + 1)), false⟩) := Lib.hid (fun l h => by
        obtain ⟨h1, h2, h3, h4⟩ := HY.out l h
        have hlt : mo < l.length := by omega
        obtain ⟨q1, q2, q3, q4⟩ := step_yes hlt (HSH.out l h) h3
        refine ⟨hlt, ?_, by rw [← q4, hr1, hr2, hr3]⟩
        rw [hu1] at q1
        rw [hr1, hk1] at q2
        rw [hr1, hr2, hv1] at q3
        obtain ⟨y, hy⟩ : ∃ y, l[mo] = y := ⟨_, rfl⟩
        rw [hy] at q1 q2 q3 ⊢
        obtain ⟨y0, y1, y2⟩ := y
        rw [q2, q3, ← hgn, q1]
        show (y0, y1, y2) = (bstr y0.data.toList, bstr y1.data.toList, (((goneN (y0, y1, y2) : Nat) : Int) == 1))
        rw [bstr_of, bstr_of]
        cases y2 <;> rfl)
      have HU := Lib.hid (fun (u : World) (h : Rdr u gr r) => ruint_calls gr r u h)
      have HT1 := Lib.hid (fun (u : World) (h : Rdr u gr r1) => rtext_calls gr r1 48 u h (by decide))
      have HT2 := Lib.hid (fun (u : World) (h : Rdr u gr r2) => rtext_calls gr r2 160 u h (by decide))
      rw [hu1, hr1] at HU
      rw [hk1, hr2] at HT1
      rw [hv1, hr3] at HT2
      have hu64 : u1 < 18446744073709551616 := by rw [← hu1]; exact PR.uint_lt _
      clear hu1 hr1 hk1 hr2 hv1 hr3 hbad
      go_upto_region 10 with (first
        | (go_at_call 57; (with_reducible refine Calls.mono (HGD.out wr HX.out.rd) ?_); rintro e w' ⟨rfl, rfl⟩)
        | (go_at_call 56; (with_reducible refine Calls.mono (HU.out wr HX.out.rd) ?_); rintro e w2 ⟨rfl, hrd2, ht2⟩)
        | (refine wpList_store_blk rfl 46 (.tmp 9) (.tmp 45) rfl rfl w2.heap.size (wC (ByteArray.empty, ByteArray.empty, gn)).toArray rfl rfl _ _ (Blk.new w2 _ _) rfl (by kernel_rfl) (wC_one _) ?_; intro w3 hb3 hg3; have hx3 : Ext w2 w3 := ((Ext.refl _).alloc _).grown_ hg3 (fun j e => by cases e; exact Nat.le_refl _)))
      have hgrt : gr ≠ gt := by omega
      have HX2 := Lib.hid (HX.out.turn (RP' := fun u => Rdr u gr r1) ht2 hrd2 (fun k hk => by cases hk; exact ⟨hgrw, hgrB, hgrt⟩))
      have HX3 := Lib.hid (HX2.out.more (Rdr.stays hgrB) hx3)
      obtain ⟨gw, hgw⟩ : ∃ g, g = w2.heap.size := ⟨_, rfl⟩
      have HLT : Hid (∀ j, (Value.slice At mo ct).ownBlock = some j → j < gw) := Lib.hid (fun j hj => by rw [hgw]; exact (own_lt (HX2.out.own 0 _ rfl) hj).2)
      have hgwB : B ≤ gw := by rw [hgw]; exact HX2.out.hB
      rw [← hgw] at hb3 ⊢
      have HB3 := Lib.hid hb3
      clear hrd2 ht2 hg3 hb3 hgw hx3 HX HX2 HU HGD
      go_upto_region 11 with (first
        | (go_at_call 58; (with_reducible refine Calls.mono (HT1.out w3 HX3.out.rd) ?_); rintro e w4 ⟨rfl, hrd4, ht4⟩; have HX4 := Lib.hid (HX3.out.turn (RP' := fun u => Rdr u gr r2) ht4 hrd4 (fun k hk => by cases hk; exact ⟨hgrw, hgrB, hgrt⟩)); have HB4 := Lib.hid (HB3.out.grown ht4 (fun e => by cases e; omega)); clear hrd4 ht4)
        | (go_at_call 58; (with_reducible refine Calls.mono (HT2.out w4 HX4.out.rd) ?_); rintro e w5 ⟨rfl, hrd5, ht5⟩; have HX5 := Lib.hid (HX4.out.turn (RP' := fun u => Rdr u gr r3) ht5 hrd5 (fun k hk => by cases hk; exact ⟨hgrw, hgrB, hgrt⟩)); have HB5 := Lib.hid (HB4.out.grown ht5 (fun e => by cases e; omega)); clear hrd5 ht5; have c0 : w5.cell? ⟨gw, 0, none⟩ = some (.string ByteArray.empty) := (by rw [HB5.out.cell]; rfl); have f0 := HB5.out.frozen 0; have hbs := Lib.hid (HB5.out.set 0 (.string (bstr k1))); have c1 : (w5.setCell ⟨gw, 0, none⟩ (.string (bstr k1))).cell? ⟨gw, 1, none⟩ = some (.string ByteArray.empty) := (by rw [hbs.out.cell]; rfl); have f1 := hbs.out.frozen 1))
      obtain ⟨x, hxe⟩ : ∃ x, x = (bstr k1, bstr v1, gn) := ⟨_, rfl⟩
      obtain ⟨w6, hw6⟩ : ∃ w6, w6 = (w5.setCell ⟨gw, 0, none⟩ (.string (bstr k1))).setCell ⟨gw, 1, none⟩ (.string (bstr v1)) := ⟨_, rfl⟩
      rw [← hw6]
      have hb6 : Blk w6 gw 46 (wC x).toArray := by rw [hw6, hxe]; exact hbs.out.set 1 _
      have hg6 : w5.grownBy w6 (some gw) := by rw [hw6]; exact World.grownBy.trans (grown_set w5 gw 0 _) (grown_set _ gw 1 _)
      have HX6 := Lib.hid (HX5.out.far (Rdr.stays hgrB) hg6 hgwB (by omega) (fun i q hq => by
        match i, hq with
        | 0, hq => cases hq; exact fun e => by have := HLT.out _ e; omega
        | i + 1, hq => simp at hq) (by omega))
      have HB6 := Lib.hid hb6
      rw [← hxe] at HOKR HSTEP
      have hx0 : x.1 = bstr k1 := by rw [hxe]
      have HC2 : Hid (1 + x.1.size + x.2.1.size + muR r3 ≤ muR r) := Lib.hid (by rw [hxe]; show 1 + (bstr k1).size + (bstr v1).size + _ ≤ _; rw [bstr_size, bstr_size]; exact HCOST.out)
      have hcT : w6.cell? ⟨gt, 0, none⟩ = some (.slice At mo ct) := by rw [HX6.out.nod.cell]; rfl
      obtain ⟨x0, x1, x2⟩ := x
      have hwc0 : w6.cell? ⟨gw, 0, none⟩ = some (.string x0) := by rw [HB6.out.cell]; rfl
      have hwc1 : w6.cell? ⟨gw, 1, none⟩ = some (.string x1) := by rw [HB6.out.cell]; rfl
      have hwc2 : w6.cell? ⟨gw, 2, none⟩ = some (.bool x2) := by rw [HB6.out.cell]; rfl
      have hxw := HX6.out.ext
      clear c0 f0 c1 f1 hbs hw6 hb6 hg6 HX3 HX4 HX5 HB3 HB4 HB5 HT1 HT2 HCOST hgn hxe hx0 HLT
      have hcell : ∀ j, (h : j < out.length) → ∃ ad, At = some ad ∧ w6.cell? (ad.add (j * 3)) = some (.string out[j].1) := fun j h => by
        obtain ⟨A', c', e3, _, _, hcc⟩ := own_form (HX6.out.own 0 _ rfl) (by show 0 < 3; decide)
        cases e3
        obtain ⟨ad, e4, h5⟩ := (row_of_cells hcc).get (i := j) (by simpa using h)
        refine ⟨ad, e4, ?_⟩
        rw [List.getElem_map] at h5
        have h6 := h5 0 (.string out[j].1) rfl
        exact h6
      have HCELL := Lib.hid hcell
      clear hcell
      go_upto_region 12 with (fail)
      rcases List.eq_nil_or_concat out with hout | ⟨pre, y, hout⟩
      · have hmoI : (mo : Int) = 0 := by rw [← HMO.out, hout]; rfl
        have HORD : Hid (∀ pre y, out = pre ++ [y] → klt y.1 x0 = true) := Lib.hid (fun pre y h => by rw [hout] at h; simp at h)
        clear HCELL hout
        cases x2 with
        | false =>
          have HFIX : Hid (fixW (x0, x1, false) = (x0, x1, false)) := Lib.hid rfl
          go_quiet (fail)
          go_upto_region 14 with (fail)
          clear hmoI
          refine wp_region_opsC (CInv [82, 83, 84, 85, 86, 87, 88, 89, 90, 91] _ [(0, 82, .pointer (some ⟨gt, 0, none⟩)), (1, 83, .pointer (some ⟨gt, 0, none⟩)), (2, 84, .pointer (some ⟨gt, 0, none⟩)), (3, 85, .pointer (some ⟨gt, 0, none⟩)), (4, 86, .slice At mo ct), (5, 87, wV (x0, x1, false)), (8, 90, .pointer (some ⟨gt, 0, none⟩)), (9, 91, .pointer (some ⟨gt, 0, none⟩))] [(6, some 88), (7, some 89), (10, none)] (PutW (fun u => OW w B (fun u => Rdr u gr r3) gt 66 #[.slice At mo ct] [⟨46, 3, mo, (out.map wC).flatten, .slice At mo ct⟩] u ∧ Blk u gw 46 (wC (x0, x1, false)).toArray) (wC (x0, x1, false)) (fun v => OW w B (fun u => Rdr u gr r3) gt 66 #[.slice At mo ct] [⟨46, 3, mo + 1, (out.map wC).flatten ++ (wC (x0, x1, false)), v⟩]) (fun v => OW w B (fun u => Rdr u gr r3) gt 66 #[v] [⟨46, 3, mo + 1, (out.map wC).flatten ++ (wC (x0, x1, false)), v⟩]))) (by kernel_rfl) (by kernel_rfl) (CInv.start ⟨OW.more HX6.out (Rdr.stays hgrB) ((Ext.refl _).drewN _).drew, HB6.out.ext ((Ext.refl _).drewN _).drew⟩) ?_ ?_
          · refine ⟨?o0, ?o1, ?o2, ?o3, ?o4, ?o5, ?o6, ?o7, ?o8, ?o9, ?o10, trivial⟩
            case o0 =>
              intro f a u h hfi hp hq hcl
              have q7 : a.tmps[7]?.getD undef = .pointer (some ⟨gt, 0, none⟩) := h.agree.att (by decide)
              exact h.yield rfl rfl 82 rfl (by change 82 < 106; decide) rfl _ rfl (by go_simp)
            case o1 =>
              intro f a u h hfi hp hq hcl
              have q7 : a.tmps[7]?.getD undef = .pointer (some ⟨gt, 0, none⟩) := h.agree.att (by decide)
              exact h.yield rfl rfl 83 rfl (by change 83 < 106; decide) rfl _ rfl (by go_simp)
            case o2 =>
              intro f a u h hfi hp hq hcl
              have q83 := h.att 1 rfl (pre_of hp 1 rfl)
              exact h.yield rfl rfl 84 rfl (by change 84 < 106; decide) rfl _ rfl (by go_simp)
            case o3 =>
              intro f a u h hfi hp hq hcl
              have q84 := h.att 2 rfl (pre_of hp 2 rfl)
              exact h.yield rfl rfl 85 rfl (by change 85 < 106; decide) rfl _ rfl (by go_simp)
            case o4 =>
              intro f a u h hfi hp hq hcl
              have q85 := h.att 3 rfl (pre_of hp 3 rfl)
              obtain ⟨xs, hx, hl⟩ := h.before 1 rfl (hq 7 _ rfl rfl)
              have hN := PutW.ahead (N := fun u => Blk u gt 66 #[.slice At mo ct]) hx (by omega) (fun _ h => h.1.nod) (fun _ _ h => h.nod)
              have ct : u.cell? ⟨gt, 0, none⟩ = some (.slice At mo ct) := hN.cell 0
              clear hN hx
              exact h.yield rfl rfl 86 rfl (by change 86 < 106; decide) rfl _ rfl (by go_simp)
            case o5 =>
              intro f a u h hfi hp hq hcl
              have q9 : a.tmps[9]?.getD undef = .pointer (some ⟨gw, 0, none⟩) := h.agree.att (by decide)
              obtain ⟨xs, hx, hl⟩ := h.before 0 rfl (hq 6 _ rfl rfl)
              obtain rfl : xs = [] := List.eq_nil_of_length_eq_zero (by omega)
              have hE : (OW w B (fun u => Rdr u gr r3) gt 66 #[.slice At mo ct] [⟨46, 3, mo, (out.map wC).flatten, .slice At mo ct⟩] u) ∧ Blk u gw 46 (wC (x0, x1, false)).toArray := hx
              exact h.yield rfl rfl 87 rfl (by change 87 < 106; decide) rfl _ rfl (run_of_sem rfl (by rw [show a.eval (.tmp 9) = .pointer (some ⟨gw, 0, none⟩) from h.agree.eval (by decide)]; exact run_loadAt_row u ⟨gw, 0, none⟩ 46 (wC (x0, x1, false)) _ (blk_cells hE.2) Try.underlying46 rfl (by rw [w_info]; rfl)))
            case o6 =>
              intro f a u h hfi hp hq hcl
              refine h.link hfi rfl rfl 0 _ rfl rfl (fun t ht => by cases ht; change 88 < 106; decide) rfl (fun k c d' hk hc => by omega) ?_
              intro xs hl hX hv
              obtain rfl : xs = [] := List.eq_nil_of_length_eq_zero hl
              obtain ⟨hX, hE⟩ : (OW w B (fun u => Rdr u gr r3) gt 66 #[.slice At mo ct] [⟨46, 3, mo, (out.map wC).flatten, .slice At mo ct⟩] u) ∧ Blk u gw 46 (wC (x0, x1, false)).toArray := hX
              have e87 := h.at_ 5 rfl (pre_of hp 5 rfl)
              refine wp_val (exec_buildSlice rfl (by rw [arr1]; simp only [show a.eval (.tmp 87) = _ from e87]; rfl)) (lit1_w _ _) ?_
              exact ⟨_, rfl, ⟨_, rfl, Cells.lit rfl (wC (x0, x1, false)) _ _⟩, ⟨hX.more (Rdr.stays hgrB) ((Ext.refl _).alloc _), hE.ext ((Ext.refl _).alloc _)⟩⟩
            case o7 =>
              intro f a u h hfi hp hq hcl
              refine h.link hfi rfl rfl 1 _ rfl rfl (fun t ht => by cases ht; change 89 < 106; decide) rfl (fun k c d' hk hc => by (have hk0 : k = 0 := (by omega)); subst hk0; cases hc; exact (pre_of hp 6 rfl)) ?_
              intro xs hl hX hv
              obtain ⟨l, rfl⟩ := len1 hl
              obtain ⟨⟨g, rfl, hc⟩, hX, _⟩ : (∃ g, l = _ ∧ _) ∧ (OW w B (fun u => Rdr u gr r3) gt 66 #[.slice At mo ct] [⟨46, 3, mo, (out.map wC).flatten, .slice At mo ct⟩] u) ∧ _ := hX
              have el := hv 0 _ _ rfl (by decide)
              refine wp_append u (.tmp 86) (.tmp 88) 22 rfl B 46 (.agg #[.string ByteArray.empty, .string ByteArray.empty, .bool false]) 3 40 Try.underlying22 (by kernel_rfl) rfl (by decide) _ mo _ (h.at_ 4 rfl (pre_of hp 4 rfl)) (hX.own 0 _ rfl) (some ⟨g, 0, none⟩) 1 1 (wC (x0, x1, false)) el rfl hc (wC_one (x0, x1, false)) (by simp only [maxLen]; omega) (by omega) hX.hB ?_
              intro v' u' ho hg hf
              exact ⟨_, rfl, hX.app (Rdr.stays hgrB) hgtB hwB (i := 0) rfl ho hg hf⟩
            case o8 =>
              intro f a u h hfi hp hq hcl
              have q82 := h.att 0 rfl (pre_of hp 0 rfl)
              exact h.yield rfl rfl 90 rfl (by change 90 < 106; decide) rfl _ rfl (by go_simp)
            case o9 =>
              intro f a u h hfi hp hq hcl
              have q90 := h.att 6 rfl (pre_of hp 8 rfl)
              exact h.yield rfl rfl 91 rfl (by change 91 < 106; decide) rfl _ rfl (by go_simp)
            case o10 =>
              intro f a u h hfi hp hq hcl
              refine h.link hfi rfl rfl 2 _ rfl rfl (fun t ht => by cases ht) rfl (fun k c d' hk hc => by (have hk0 : k = 1 := (by omega)); subst hk0; cases hc; exact (pre_of hp 7 rfl)) ?_
              intro xs hl hX hv
              obtain ⟨l, v, rfl⟩ := len2 hl
              have hX : OW w B (fun u => Rdr u gr r3) gt 66 #[.slice At mo ct] [⟨46, 3, mo + 1, (out.map wC).flatten ++ (wC (x0, x1, false)), v⟩] u := hX
              have ev := hv 1 _ _ rfl (by decide)
              obtain ⟨Av, cv, hvv, _, _, _⟩ := own_form (hX.own 0 _ rfl) (by show 0 < 3; decide)
              have hvv : v = .slice Av (mo + 1) cv := hvv
              subst hvv
              have ct : u.cell? ⟨gt, 0, none⟩ = some (.slice At mo ct) := hX.nod.cell 0
              have f1 := hX.nod.frozen 0
              refine wp_store_cell 22 (.tmp 91) (.tmp 89) rfl rfl (h.at_ 7 rfl (pre_of hp 9 rfl)) ev (st_writes _ _ _ _ _ _ ct f1) ?_
              exact ⟨.tuple #[], rfl, hX.sto (grown_set u gt 0 _) (blk_set hX.nod 0 _) (Rdr.grown hX.rd (grown_set u gt 0 _) (fun k e => by cases e; exact hgrl)) hgtB hgtw⟩
          · intro f a u h hall hfar
            obtain ⟨xs, hxl, hX, hv⟩ := h.done (by intro c hc; simp only [List.mem_cons, List.not_mem_nil, or_false] at hc; rcases hc with rfl | rfl | rfl; all_goals exact hall _ (by decide))
            obtain ⟨l, v, t, rfl⟩ := len3 hxl
            have hX : OW w B (fun u => Rdr u gr r3) gt 66 #[v] [⟨46, 3, mo + 1, (out.map wC).flatten ++ (wC (x0, x1, false)), v⟩] u := hX
            have hag := h.agree.out
            simp only [List.foldl_cons, List.foldl_nil, Act.put, List.setIfInBounds_toArray, List.set_cons_zero, List.set_cons_succ] at hag
            generalize a.eval (.tmp 82) = y82 at hag
            generalize a.eval (.tmp 83) = y83 at hag
            generalize a.eval (.tmp 84) = y84 at hag
            generalize a.eval (.tmp 85) = y85 at hag
            generalize a.eval (.tmp 86) = y86 at hag
            generalize a.eval (.tmp 87) = y87 at hag
            generalize a.eval (.tmp 88) = y88 at hag
            generalize a.eval (.tmp 89) = y89 at hag
            generalize a.eval (.tmp 90) = y90 at hag
            generalize a.eval (.tmp 91) = y91 at hag
            clear h hall hfar hxl hv
            subst hag
            obtain ⟨Av, cv, hvv, lv, mv, hcv⟩ := own_form (hX.own 0 _ rfl) (by show 0 < 3; decide)
            have hvv : v = .slice Av (mo + 1) cv := hvv
            subst hvv
            clear lv mv hcv
            have HV2 : Hid (ValidT (out ++ [(x0, x1, false)]) ∧ plN (out ++ [(x0, x1, false)]) + muR r3 ≤ ns + 1) := Lib.hid ⟨valid_snoc HV.out.1 HORD.out HFIX.out HOKR.out, by rw [plN_snoc]; have h1 := HV.out.2; have h2 := HC2.out; show plN out + (1 + x0.size + x1.size) + muR r3 ≤ ns + 1; have h3 : 1 + x0.size + x1.size + muR r3 ≤ muR r := h2; omega⟩
            have HY2 : Hid (∀ l, Reads b l → out ++ [(x0, x1, false)] = l.take (mo + 1) ∧ mo + 1 ≤ l.length ∧ r3 = ⟨wrsB (l.drop (mo + 1)), false⟩ ∧ rem - 1 = l.length - (mo + 1)) := Lib.hid (fun l h => by
              obtain ⟨h1, h2, h3, h4⟩ := HY.out l h
              obtain ⟨q1, q2, q3⟩ := HSTEP.out l h
              exact ⟨by rw [List.take_succ_eq_append_getElem q1, ← h1, q2], q1, q3, by omega⟩)
            have HMU2 : Hid (muR r3 ≤ gk - 1 ∧ 1 ≤ gk) := Lib.hid (by have h1 := HMU.out; have h2 : 1 + x0.size + x1.size + muR r3 ≤ muR r := HC2.out; omega)
            have hgk := HMU2.out.2
            rw [w_snoc] at hX
            have HXN := Lib.hid hX
            have hrw : IntKind.u64.wrap ((rem : Int) - 1) = ((rem - 1 : Nat) : Int) := by rw [IntKind.wrap_u64]; omega
            clear hX HY HV HMU HSTEP HC2 HORD HFIX
            go_wp2
            go_roundg (gk - 1)
            case measure => omega
            case rel => exact ⟨rem - 1, r3, out ++ [(x0, x1, false)], Av, cv, mo + 1, by first | rfl | (rw [hrw]) | go_num, by omega, Lib.hid HMU2.out.1, Lib.hid (by rw [List.length_append, HMO.out]; rfl), HXN, HV2, HY2⟩
        | true =>
          by_cases hne : x1 = ByteArray.empty
          · subst hne
            have HFIX : Hid (fixW (x0, ByteArray.empty, true) = (x0, ByteArray.empty, true)) := Lib.hid rfl
            have hze : (ByteArray.empty.toList == (⟨#[]⟩ : ByteArray).toList) = true := by simp [show (⟨#[]⟩ : ByteArray) = ByteArray.empty from rfl]
            go_quiet (fail)
            go_upto_region 14 with (fail)
            clear hmoI
            refine wp_region_opsC (CInv [82, 83, 84, 85, 86, 87, 88, 89, 90, 91] _ [(0, 82, .pointer (some ⟨gt, 0, none⟩)), (1, 83, .pointer (some ⟨gt, 0, none⟩)), (2, 84, .pointer (some ⟨gt, 0, none⟩)), (3, 85, .pointer (some ⟨gt, 0, none⟩)), (4, 86, .slice At mo ct), (5, 87, wV (x0, ByteArray.empty, true)), (8, 90, .pointer (some ⟨gt, 0, none⟩)), (9, 91, .pointer (some ⟨gt, 0, none⟩))] [(6, some 88), (7, some 89), (10, none)] (PutW (fun u => OW w B (fun u => Rdr u gr r3) gt 66 #[.slice At mo ct] [⟨46, 3, mo, (out.map wC).flatten, .slice At mo ct⟩] u ∧ Blk u gw 46 (wC (x0, ByteArray.empty, true)).toArray) (wC (x0, ByteArray.empty, true)) (fun v => OW w B (fun u => Rdr u gr r3) gt 66 #[.slice At mo ct] [⟨46, 3, mo + 1, (out.map wC).flatten ++ (wC (x0, ByteArray.empty, true)), v⟩]) (fun v => OW w B (fun u => Rdr u gr r3) gt 66 #[v] [⟨46, 3, mo + 1, (out.map wC).flatten ++ (wC (x0, ByteArray.empty, true)), v⟩]))) (by kernel_rfl) (by kernel_rfl) (CInv.start ⟨OW.more HX6.out (Rdr.stays hgrB) ((Ext.refl _).drewN _).drew, HB6.out.ext ((Ext.refl _).drewN _).drew⟩) ?_ ?_
            · refine ⟨?o0, ?o1, ?o2, ?o3, ?o4, ?o5, ?o6, ?o7, ?o8, ?o9, ?o10, trivial⟩
              case o0 =>
                intro f a u h hfi hp hq hcl
                have q7 : a.tmps[7]?.getD undef = .pointer (some ⟨gt, 0, none⟩) := h.agree.att (by decide)
                exact h.yield rfl rfl 82 rfl (by change 82 < 106; decide) rfl _ rfl (by go_simp)
              case o1 =>
                intro f a u h hfi hp hq hcl
                have q7 : a.tmps[7]?.getD undef = .pointer (some ⟨gt, 0, none⟩) := h.agree.att (by decide)
                exact h.yield rfl rfl 83 rfl (by change 83 < 106; decide) rfl _ rfl (by go_simp)
              case o2 =>
                intro f a u h hfi hp hq hcl
                have q83 := h.att 1 rfl (pre_of hp 1 rfl)
                exact h.yield rfl rfl 84 rfl (by change 84 < 106; decide) rfl _ rfl (by go_simp)
              case o3 =>
                intro f a u h hfi hp hq hcl
                have q84 := h.att 2 rfl (pre_of hp 2 rfl)
                exact h.yield rfl rfl 85 rfl (by change 85 < 106; decide) rfl _ rfl (by go_simp)
              case o4 =>
                intro f a u h hfi hp hq hcl
                have q85 := h.att 3 rfl (pre_of hp 3 rfl)
                obtain ⟨xs, hx, hl⟩ := h.before 1 rfl (hq 7 _ rfl rfl)
                have hN := PutW.ahead (N := fun u => Blk u gt 66 #[.slice At mo ct]) hx (by omega) (fun _ h => h.1.nod) (fun _ _ h => h.nod)
                have ct : u.cell? ⟨gt, 0, none⟩ = some (.slice At mo ct) := hN.cell 0
                clear hN hx
                exact h.yield rfl rfl 86 rfl (by change 86 < 106; decide) rfl _ rfl (by go_simp)
              case o5 =>
                intro f a u h hfi hp hq hcl
                have q9 : a.tmps[9]?.getD undef = .pointer (some ⟨gw, 0, none⟩) := h.agree.att (by decide)
                obtain ⟨xs, hx, hl⟩ := h.before 0 rfl (hq 6 _ rfl rfl)
                obtain rfl : xs = [] := List.eq_nil_of_length_eq_zero (by omega)
                have hE : (OW w B (fun u => Rdr u gr r3) gt 66 #[.slice At mo ct] [⟨46, 3, mo, (out.map wC).flatten, .slice At mo ct⟩] u) ∧ Blk u gw 46 (wC (x0, ByteArray.empty, true)).toArray := hx
                exact h.yield rfl rfl 87 rfl (by change 87 < 106; decide) rfl _ rfl (run_of_sem rfl (by rw [show a.eval (.tmp 9) = .pointer (some ⟨gw, 0, none⟩) from h.agree.eval (by decide)]; exact run_loadAt_row u ⟨gw, 0, none⟩ 46 (wC (x0, ByteArray.empty, true)) _ (blk_cells hE.2) Try.underlying46 rfl (by rw [w_info]; rfl)))
              case o6 =>
                intro f a u h hfi hp hq hcl
                refine h.link hfi rfl rfl 0 _ rfl rfl (fun t ht => by cases ht; change 88 < 106; decide) rfl (fun k c d' hk hc => by omega) ?_
                intro xs hl hX hv
                obtain rfl : xs = [] := List.eq_nil_of_length_eq_zero hl
                obtain ⟨hX, hE⟩ : (OW w B (fun u => Rdr u gr r3) gt 66 #[.slice At mo ct] [⟨46, 3, mo, (out.map wC).flatten, .slice At mo ct⟩] u) ∧ Blk u gw 46 (wC (x0, ByteArray.empty, true)).toArray := hX
                have e87 := h.at_ 5 rfl (pre_of hp 5 rfl)
                refine wp_val (exec_buildSlice rfl (by rw [arr1]; simp only [show a.eval (.tmp 87) = _ from e87]; rfl)) (lit1_w _ _) ?_
                exact ⟨_, rfl, ⟨_, rfl, Cells.lit rfl (wC (x0, ByteArray.empty, true)) _ _⟩, ⟨hX.more (Rdr.stays hgrB) ((Ext.refl _).alloc _), hE.ext ((Ext.refl _).alloc _)⟩⟩
              case o7 =>
                intro f a u h hfi hp hq hcl
                refine h.link hfi rfl rfl 1 _ rfl rfl (fun t ht => by cases ht; change 89 < 106; decide) rfl (fun k c d' hk hc => by (have hk0 : k = 0 := (by omega)); subst hk0; cases hc; exact (pre_of hp 6 rfl)) ?_
                intro xs hl hX hv
                obtain ⟨l, rfl⟩ := len1 hl
                obtain ⟨⟨g, rfl, hc⟩, hX, _⟩ : (∃ g, l = _ ∧ _) ∧ (OW w B (fun u => Rdr u gr r3) gt 66 #[.slice At mo ct] [⟨46, 3, mo, (out.map wC).flatten, .slice At mo ct⟩] u) ∧ _ := hX
                have el := hv 0 _ _ rfl (by decide)
                refine wp_append u (.tmp 86) (.tmp 88) 22 rfl B 46 (.agg #[.string ByteArray.empty, .string ByteArray.empty, .bool false]) 3 40 Try.underlying22 (by kernel_rfl) rfl (by decide) _ mo _ (h.at_ 4 rfl (pre_of hp 4 rfl)) (hX.own 0 _ rfl) (some ⟨g, 0, none⟩) 1 1 (wC (x0, ByteArray.empty, true)) el rfl hc (wC_one (x0, ByteArray.empty, true)) (by simp only [maxLen]; omega) (by omega) hX.hB ?_
                intro v' u' ho hg hf
                exact ⟨_, rfl, hX.app (Rdr.stays hgrB) hgtB hwB (i := 0) rfl ho hg hf⟩
              case o8 =>
                intro f a u h hfi hp hq hcl
                have q82 := h.att 0 rfl (pre_of hp 0 rfl)
                exact h.yield rfl rfl 90 rfl (by change 90 < 106; decide) rfl _ rfl (by go_simp)
              case o9 =>
                intro f a u h hfi hp hq hcl
                have q90 := h.att 6 rfl (pre_of hp 8 rfl)
                exact h.yield rfl rfl 91 rfl (by change 91 < 106; decide) rfl _ rfl (by go_simp)
              case o10 =>
                intro f a u h hfi hp hq hcl
                refine h.link hfi rfl rfl 2 _ rfl rfl (fun t ht => by cases ht) rfl (fun k c d' hk hc => by (have hk0 : k = 1 := (by omega)); subst hk0; cases hc; exact (pre_of hp 7 rfl)) ?_
                intro xs hl hX hv
                obtain ⟨l, v, rfl⟩ := len2 hl
                have hX : OW w B (fun u => Rdr u gr r3) gt 66 #[.slice At mo ct] [⟨46, 3, mo + 1, (out.map wC).flatten ++ (wC (x0, ByteArray.empty, true)), v⟩] u := hX
                have ev := hv 1 _ _ rfl (by decide)
                obtain ⟨Av, cv, hvv, _, _, _⟩ := own_form (hX.own 0 _ rfl) (by show 0 < 3; decide)
                have hvv : v = .slice Av (mo + 1) cv := hvv
                subst hvv
                have ct : u.cell? ⟨gt, 0, none⟩ = some (.slice At mo ct) := hX.nod.cell 0
                have f1 := hX.nod.frozen 0
                refine wp_store_cell 22 (.tmp 91) (.tmp 89) rfl rfl (h.at_ 7 rfl (pre_of hp 9 rfl)) ev (st_writes _ _ _ _ _ _ ct f1) ?_
                exact ⟨.tuple #[], rfl, hX.sto (grown_set u gt 0 _) (blk_set hX.nod 0 _) (Rdr.grown hX.rd (grown_set u gt 0 _) (fun k e => by cases e; exact hgrl)) hgtB hgtw⟩
            · intro f a u h hall hfar
              obtain ⟨xs, hxl, hX, hv⟩ := h.done (by intro c hc; simp only [List.mem_cons, List.not_mem_nil, or_false] at hc; rcases hc with rfl | rfl | rfl; all_goals exact hall _ (by decide))
              obtain ⟨l, v, t, rfl⟩ := len3 hxl
              have hX : OW w B (fun u => Rdr u gr r3) gt 66 #[v] [⟨46, 3, mo + 1, (out.map wC).flatten ++ (wC (x0, ByteArray.empty, true)), v⟩] u := hX
              have hag := h.agree.out
              simp only [List.foldl_cons, List.foldl_nil, Act.put, List.setIfInBounds_toArray, List.set_cons_zero, List.set_cons_succ] at hag
              generalize a.eval (.tmp 82) = y82 at hag
              generalize a.eval (.tmp 83) = y83 at hag
              generalize a.eval (.tmp 84) = y84 at hag
              generalize a.eval (.tmp 85) = y85 at hag
              generalize a.eval (.tmp 86) = y86 at hag
              generalize a.eval (.tmp 87) = y87 at hag
              generalize a.eval (.tmp 88) = y88 at hag
              generalize a.eval (.tmp 89) = y89 at hag
              generalize a.eval (.tmp 90) = y90 at hag
              generalize a.eval (.tmp 91) = y91 at hag
              clear h hall hfar hxl hv
              subst hag
              obtain ⟨Av, cv, hvv, lv, mv, hcv⟩ := own_form (hX.own 0 _ rfl) (by show 0 < 3; decide)
              have hvv : v = .slice Av (mo + 1) cv := hvv
              subst hvv
              clear lv mv hcv
              have HV2 : Hid (ValidT (out ++ [(x0, ByteArray.empty, true)]) ∧ plN (out ++ [(x0, ByteArray.empty, true)]) + muR r3 ≤ ns + 1) := Lib.hid ⟨valid_snoc HV.out.1 HORD.out HFIX.out HOKR.out, by rw [plN_snoc]; have h1 := HV.out.2; have h2 := HC2.out; show plN out + (1 + x0.size + ByteArray.empty.size) + muR r3 ≤ ns + 1; have h3 : 1 + x0.size + ByteArray.empty.size + muR r3 ≤ muR r := h2; omega⟩
              have HY2 : Hid (∀ l, Reads b l → out ++ [(x0, ByteArray.empty, true)] = l.take (mo + 1) ∧ mo + 1 ≤ l.length ∧ r3 = ⟨wrsB (l.drop (mo + 1)), false⟩ ∧ rem - 1 = l.length - (mo + 1)) := Lib.hid (fun l h => by
                obtain ⟨h1, h2, h3, h4⟩ := HY.out l h
                obtain ⟨q1, q2, q3⟩ := HSTEP.out l h
                exact ⟨by rw [List.take_succ_eq_append_getElem q1, ← h1, q2], q1, q3, by omega⟩)
              have HMU2 : Hid (muR r3 ≤ gk - 1 ∧ 1 ≤ gk) := Lib.hid (by have h1 := HMU.out; have h2 : 1 + x0.size + ByteArray.empty.size + muR r3 ≤ muR r := HC2.out; omega)
              have hgk := HMU2.out.2
              rw [w_snoc] at hX
              have HXN := Lib.hid hX
              have hrw : IntKind.u64.wrap ((rem : Int) - 1) = ((rem - 1 : Nat) : Int) := by rw [IntKind.wrap_u64]; omega
              clear hX HY HV HMU HSTEP HC2 HORD HFIX
              go_wp2
              go_roundg (gk - 1)
              case measure => omega
              case rel => exact ⟨rem - 1, r3, out ++ [(x0, ByteArray.empty, true)], Av, cv, mo + 1, by first | rfl | (rw [hrw]) | go_num, by omega, Lib.hid HMU2.out.1, Lib.hid (by rw [List.length_append, HMO.out]; rfl), HXN, HV2, HY2⟩
          · have hze : (x1.toList == (⟨#[]⟩ : ByteArray).toList) = false := by rw [beq_eq_false_iff_ne]; exact fun e => hne (kl_inj e)
            have hze2 : (x1.toList == []) = false := by rw [beq_eq_false_iff_ne]; intro e; exact hne (kl_inj (e.trans (show ([] : List UInt8) = ByteArray.empty.toList from by rw [ByteArray.toList_eq]; rfl)))
            have HNO : Hid (∀ l, ¬ Reads b l) := Lib.hid (fun l h => by
              obtain ⟨q1, q2, q3⟩ := HSTEP.out l h
              have h5 := h.1.fixed _ (List.getElem_mem q1)
              rw [q2] at h5
              exact hne (congrArg (fun t : W3 => t.2.1) h5).symm)
            clear hne
            go_quiet (fail)
            go_wp2
            go_ret2
            exact ⟨.inr ⟨rfl, HNO.out⟩, hxw.drewN _⟩
      · rw [List.concat_eq_append] at hout
        obtain ⟨j, hj⟩ : ∃ j, pre.length = j := ⟨_, rfl⟩
        have hmoj : mo = j + 1 := by rw [← HMO.out, hout, List.length_append, hj]; rfl
        obtain ⟨ad, hat, hcy⟩ := HCELL.out j (by rw [HMO.out, hmoj]; omega)
        have hyj : out[j]'(by rw [HMO.out, hmoj]; omega) = y := by simp [hout, ← hj]
        rw [hyj] at hcy
        obtain ⟨y0, y1, y2⟩ := y
        have hcy' : w6.cell? (ad.add (j * 3)) = some (.string y0) := hcy
        have HOUT := Lib.hid hout
        have HMOJ := Lib.hid hmoj
        subst hat
        have hmoI : (mo : Int) = (j : Int) + 1 := by omega
        have hp0 : (0 : Int) < (j : Int) + 1 := by omega
        have hp2 : (0 : Int) ≤ (j : Int) := by omega
        have hp3 : (j : Int) < (j : Int) + 1 := by omega
        clear HCELL hyj hcy hout hj hmoj
        cases hbl : klt y0 x0 with
        | true =>
          have HORD : Hid (∀ pre' y', out = pre' ++ [y'] → klt y'.1 x0 = true) := Lib.hid (fun pre' y' h => by
            rw [HOUT.out] at h
            have h2 := (List.append_inj' h rfl).2
            rw [← (List.cons.inj h2).1]
            exact hbl)
          have b1 : Op.bytesLess y0.toList x0.toList = true := hbl
          have b2 : Op.bytesLess x0.toList y0.toList = false := klt_asymm hbl
          have q2 := klt_ne hbl
          have b3 : (y0.toList == x0.toList) = false := by rw [beq_eq_false_iff_ne]; exact fun e => q2 (kl_inj e)
          have b4 : (x0.toList == y0.toList) = false := by rw [beq_eq_false_iff_ne]; exact fun e => q2 (kl_inj e).symm
          clear hbl q2
          cases x2 with
          | false =>
            have HFIX : Hid (fixW (x0, x1, false) = (x0, x1, false)) := Lib.hid rfl
            go_quiet (fail)
            go_upto_region 14 with (fail)
            clear hmoI
            refine wp_region_opsC (CInv [82, 83, 84, 85, 86, 87, 88, 89, 90, 91] _ [(0, 82, .pointer (some ⟨gt, 0, none⟩)), (1, 83, .pointer (some ⟨gt, 0, none⟩)), (2, 84, .pointer (some ⟨gt, 0, none⟩)), (3, 85, .pointer (some ⟨gt, 0, none⟩)), (4, 86, .slice (some ad) mo ct), (5, 87, wV (x0, x1, false)), (8, 90, .pointer (some ⟨gt, 0, none⟩)), (9, 91, .pointer (some ⟨gt, 0, none⟩))] [(6, some 88), (7, some 89), (10, none)] (PutW (fun u => OW w B (fun u => Rdr u gr r3) gt 66 #[.slice (some ad) mo ct] [⟨46, 3, mo, (out.map wC).flatten, .slice (some ad) mo ct⟩] u ∧ Blk u gw 46 (wC (x0, x1, false)).toArray) (wC (x0, x1, false)) (fun v => OW w B (fun u => Rdr u gr r3) gt 66 #[.slice (some ad) mo ct] [⟨46, 3, mo + 1, (out.map wC).flatten ++ (wC (x0, x1, false)), v⟩]) (fun v => OW w B (fun u => Rdr u gr r3) gt 66 #[v] [⟨46, 3, mo + 1, (out.map wC).flatten ++ (wC (x0, x1, false)), v⟩]))) (by kernel_rfl) (by kernel_rfl) (CInv.start ⟨OW.more HX6.out (Rdr.stays hgrB) ((Ext.refl _).drewN _).drew, HB6.out.ext ((Ext.refl _).drewN _).drew⟩) ?_ ?_
            · refine ⟨?o0, ?o1, ?o2, ?o3, ?o4, ?o5, ?o6, ?o7, ?o8, ?o9, ?o10, trivial⟩
              case o0 =>
                intro f a u h hfi hp hq hcl
                have q7 : a.tmps[7]?.getD undef = .pointer (some ⟨gt, 0, none⟩) := h.agree.att (by decide)
                exact h.yield rfl rfl 82 rfl (by change 82 < 106; decide) rfl _ rfl (by go_simp)
              case o1 =>
                intro f a u h hfi hp hq hcl
                have q7 : a.tmps[7]?.getD undef = .pointer (some ⟨gt, 0, none⟩) := h.agree.att (by decide)
                exact h.yield rfl rfl 83 rfl (by change 83 < 106; decide) rfl _ rfl (by go_simp)
              case o2 =>
                intro f a u h hfi hp hq hcl
                have q83 := h.att 1 rfl (pre_of hp 1 rfl)
                exact h.yield rfl rfl 84 rfl (by change 84 < 106; decide) rfl _ rfl (by go_simp)
              case o3 =>
                intro f a u h hfi hp hq hcl
                have q84 := h.att 2 rfl (pre_of hp 2 rfl)
                exact h.yield rfl rfl 85 rfl (by change 85 < 106; decide) rfl _ rfl (by go_simp)
              case o4 =>
                intro f a u h hfi hp hq hcl
                have q85 := h.att 3 rfl (pre_of hp 3 rfl)
                obtain ⟨xs, hx, hl⟩ := h.before 1 rfl (hq 7 _ rfl rfl)
                have hN := PutW.ahead (N := fun u => Blk u gt 66 #[.slice (some ad) mo ct]) hx (by omega) (fun _ h => h.1.nod) (fun _ _ h => h.nod)
                have ct : u.cell? ⟨gt, 0, none⟩ = some (.slice (some ad) mo ct) := hN.cell 0
                clear hN hx
                exact h.yield rfl rfl 86 rfl (by change 86 < 106; decide) rfl _ rfl (by go_simp)
              case o5 =>
                intro f a u h hfi hp hq hcl
                have q9 : a.tmps[9]?.getD undef = .pointer (some ⟨gw, 0, none⟩) := h.agree.att (by decide)
                obtain ⟨xs, hx, hl⟩ := h.before 0 rfl (hq 6 _ rfl rfl)
                obtain rfl : xs = [] := List.eq_nil_of_length_eq_zero (by omega)
                have hE : (OW w B (fun u => Rdr u gr r3) gt 66 #[.slice (some ad) mo ct] [⟨46, 3, mo, (out.map wC).flatten, .slice (some ad) mo ct⟩] u) ∧ Blk u gw 46 (wC (x0, x1, false)).toArray := hx
                exact h.yield rfl rfl 87 rfl (by change 87 < 106; decide) rfl _ rfl (run_of_sem rfl (by rw [show a.eval (.tmp 9) = .pointer (some ⟨gw, 0, none⟩) from h.agree.eval (by decide)]; exact run_loadAt_row u ⟨gw, 0, none⟩ 46 (wC (x0, x1, false)) _ (blk_cells hE.2) Try.underlying46 rfl (by rw [w_info]; rfl)))
              case o6 =>
                intro f a u h hfi hp hq hcl
                refine h.link hfi rfl rfl 0 _ rfl rfl (fun t ht => by cases ht; change 88 < 106; decide) rfl (fun k c d' hk hc => by omega) ?_
                intro xs hl hX hv
                obtain rfl : xs = [] := List.eq_nil_of_length_eq_zero hl
                obtain ⟨hX, hE⟩ : (OW w B (fun u => Rdr u gr r3) gt 66 #[.slice (some ad) mo ct] [⟨46, 3, mo, (out.map wC).flatten, .slice (some ad) mo ct⟩] u) ∧ Blk u gw 46 (wC (x0, x1, false)).toArray := hX
                have e87 := h.at_ 5 rfl (pre_of hp 5 rfl)
                refine wp_val (exec_buildSlice rfl (by rw [arr1]; simp only [show a.eval (.tmp 87) = _ from e87]; rfl)) (lit1_w _ _) ?_
                exact ⟨_, rfl, ⟨_, rfl, Cells.lit rfl (wC (x0, x1, false)) _ _⟩, ⟨hX.more (Rdr.stays hgrB) ((Ext.refl _).alloc _), hE.ext ((Ext.refl _).alloc _)⟩⟩
              case o7 =>
                intro f a u h hfi hp hq hcl
                refine h.link hfi rfl rfl 1 _ rfl rfl (fun t ht => by cases ht; change 89 < 106; decide) rfl (fun k c d' hk hc => by (have hk0 : k = 0 := (by omega)); subst hk0; cases hc; exact (pre_of hp 6 rfl)) ?_
                intro xs hl hX hv
                obtain ⟨l, rfl⟩ := len1 hl
                obtain ⟨⟨g, rfl, hc⟩, hX, _⟩ : (∃ g, l = _ ∧ _) ∧ (OW w B (fun u => Rdr u gr r3) gt 66 #[.slice (some ad) mo ct] [⟨46, 3, mo, (out.map wC).flatten, .slice (some ad) mo ct⟩] u) ∧ _ := hX
                have el := hv 0 _ _ rfl (by decide)
                refine wp_append u (.tmp 86) (.tmp 88) 22 rfl B 46 (.agg #[.string ByteArray.empty, .string ByteArray.empty, .bool false]) 3 40 Try.underlying22 (by kernel_rfl) rfl (by decide) _ mo _ (h.at_ 4 rfl (pre_of hp 4 rfl)) (hX.own 0 _ rfl) (some ⟨g, 0, none⟩) 1 1 (wC (x0, x1, false)) el rfl hc (wC_one (x0, x1, false)) (by simp only [maxLen]; omega) (by omega) hX.hB ?_
                intro v' u' ho hg hf
                exact ⟨_, rfl, hX.app (Rdr.stays hgrB) hgtB hwB (i := 0) rfl ho hg hf⟩
              case o8 =>
                intro f a u h hfi hp hq hcl
                have q82 := h.att 0 rfl (pre_of hp 0 rfl)
                exact h.yield rfl rfl 90 rfl (by change 90 < 106; decide) rfl _ rfl (by go_simp)
              case o9 =>
                intro f a u h hfi hp hq hcl
                have q90 := h.att 6 rfl (pre_of hp 8 rfl)
                exact h.yield rfl rfl 91 rfl (by change 91 < 106; decide) rfl _ rfl (by go_simp)
              case o10 =>
                intro f a u h hfi hp hq hcl
                refine h.link hfi rfl rfl 2 _ rfl rfl (fun t ht => by cases ht) rfl (fun k c d' hk hc => by (have hk0 : k = 1 := (by omega)); subst hk0; cases hc; exact (pre_of hp 7 rfl)) ?_
                intro xs hl hX hv
                obtain ⟨l, v, rfl⟩ := len2 hl
                have hX : OW w B (fun u => Rdr u gr r3) gt 66 #[.slice (some ad) mo ct] [⟨46, 3, mo + 1, (out.map wC).flatten ++ (wC (x0, x1, false)), v⟩] u := hX
                have ev := hv 1 _ _ rfl (by decide)
                obtain ⟨Av, cv, hvv, _, _, _⟩ := own_form (hX.own 0 _ rfl) (by show 0 < 3; decide)
                have hvv : v = .slice Av (mo + 1) cv := hvv
                subst hvv
                have ct : u.cell? ⟨gt, 0, none⟩ = some (.slice (some ad) mo ct) := hX.nod.cell 0
                have f1 := hX.nod.frozen 0
                refine wp_store_cell 22 (.tmp 91) (.tmp 89) rfl rfl (h.at_ 7 rfl (pre_of hp 9 rfl)) ev (st_writes _ _ _ _ _ _ ct f1) ?_
                exact ⟨.tuple #[], rfl, hX.sto (grown_set u gt 0 _) (blk_set hX.nod 0 _) (Rdr.grown hX.rd (grown_set u gt 0 _) (fun k e => by cases e; exact hgrl)) hgtB hgtw⟩
            · intro f a u h hall hfar
              obtain ⟨xs, hxl, hX, hv⟩ := h.done (by intro c hc; simp only [List.mem_cons, List.not_mem_nil, or_false] at hc; rcases hc with rfl | rfl | rfl; all_goals exact hall _ (by decide))
              obtain ⟨l, v, t, rfl⟩ := len3 hxl
              have hX : OW w B (fun u => Rdr u gr r3) gt 66 #[v] [⟨46, 3, mo + 1, (out.map wC).flatten ++ (wC (x0, x1, false)), v⟩] u := hX
              have hag := h.agree.out
              simp only [List.foldl_cons, List.foldl_nil, Act.put, List.setIfInBounds_toArray, List.set_cons_zero, List.set_cons_succ] at hag
              generalize a.eval (.tmp 82) = y82 at hag
              generalize a.eval (.tmp 83) = y83 at hag
              generalize a.eval (.tmp 84) = y84 at hag
              generalize a.eval (.tmp 85) = y85 at hag
              generalize a.eval (.tmp 86) = y86 at hag
              generalize a.eval (.tmp 87) = y87 at hag
              generalize a.eval (.tmp 88) = y88 at hag
              generalize a.eval (.tmp 89) = y89 at hag
              generalize a.eval (.tmp 90) = y90 at hag
              generalize a.eval (.tmp 91) = y91 at hag
              clear h hall hfar hxl hv
              subst hag
              obtain ⟨Av, cv, hvv, lv, mv, hcv⟩ := own_form (hX.own 0 _ rfl) (by show 0 < 3; decide)
              have hvv : v = .slice Av (mo + 1) cv := hvv
              subst hvv
              clear lv mv hcv
              have HV2 : Hid (ValidT (out ++ [(x0, x1, false)]) ∧ plN (out ++ [(x0, x1, false)]) + muR r3 ≤ ns + 1) := Lib.hid ⟨valid_snoc HV.out.1 HORD.out HFIX.out HOKR.out, by rw [plN_snoc]; have h1 := HV.out.2; have h2 := HC2.out; show plN out + (1 + x0.size + x1.size) + muR r3 ≤ ns + 1; have h3 : 1 + x0.size + x1.size + muR r3 ≤ muR r := h2; omega⟩
              have HY2 : Hid (∀ l, Reads b l → out ++ [(x0, x1, false)] = l.take (mo + 1) ∧ mo + 1 ≤ l.length ∧ r3 = ⟨wrsB (l.drop (mo + 1)), false⟩ ∧ rem - 1 = l.length - (mo + 1)) := Lib.hid (fun l h => by
                obtain ⟨h1, h2, h3, h4⟩ := HY.out l h
                obtain ⟨q1, q2, q3⟩ := HSTEP.out l h
                exact ⟨by rw [List.take_succ_eq_append_getElem q1, ← h1, q2], q1, q3, by omega⟩)
              have HMU2 : Hid (muR r3 ≤ gk - 1 ∧ 1 ≤ gk) := Lib.hid (by have h1 := HMU.out; have h2 : 1 + x0.size + x1.size + muR r3 ≤ muR r := HC2.out; omega)
              have hgk := HMU2.out.2
              rw [w_snoc] at hX
              have HXN := Lib.hid hX
              have hrw : IntKind.u64.wrap ((rem : Int) - 1) = ((rem - 1 : Nat) : Int) := by rw [IntKind.wrap_u64]; omega
              clear hX HY HV HMU HSTEP HC2 HORD HFIX
              go_wp2
              go_roundg (gk - 1)
              case measure => omega
              case rel => exact ⟨rem - 1, r3, out ++ [(x0, x1, false)], Av, cv, mo + 1, by first | rfl | (rw [hrw]) | go_num, by omega, Lib.hid HMU2.out.1, Lib.hid (by rw [List.length_append, HMO.out]; rfl), HXN, HV2, HY2⟩
          | true =>
            by_cases hne : x1 = ByteArray.empty
            · subst hne
              have HFIX : Hid (fixW (x0, ByteArray.empty, true) = (x0, ByteArray.empty, true)) := Lib.hid rfl
              have hze : (ByteArray.empty.toList == (⟨#[]⟩ : ByteArray).toList) = true := by simp [show (⟨#[]⟩ : ByteArray) = ByteArray.empty from rfl]
              go_quiet (fail)
              go_upto_region 14 with (fail)
              clear hmoI
              refine wp_region_opsC (CInv [82, 83, 84, 85, 86, 87, 88, 89, 90, 91] _ [(0, 82, .pointer (some ⟨gt, 0, none⟩)), (1, 83, .pointer (some ⟨gt, 0, none⟩)), (2, 84, .pointer (some ⟨gt, 0, none⟩)), (3, 85, .pointer (some ⟨gt, 0, none⟩)), (4, 86, .slice (some ad) mo ct), (5, 87, wV (x0, ByteArray.empty, true)), (8, 90, .pointer (some ⟨gt, 0, none⟩)), (9, 91, .pointer (some ⟨gt, 0, none⟩))] [(6, some 88), (7, some 89), (10, none)] (PutW (fun u => OW w B (fun u => Rdr u gr r3) gt 66 #[.slice (some ad) mo ct] [⟨46, 3, mo, (out.map wC).flatten, .slice (some ad) mo ct⟩] u ∧ Blk u gw 46 (wC (x0, ByteArray.empty, true)).toArray) (wC (x0, ByteArray.empty, true)) (fun v => OW w B (fun u => Rdr u gr r3) gt 66 #[.slice (some ad) mo ct] [⟨46, 3, mo + 1, (out.map wC).flatten ++ (wC (x0, ByteArray.empty, true)), v⟩]) (fun v => OW w B (fun u => Rdr u gr r3) gt 66 #[v] [⟨46, 3, mo + 1, (out.map wC).flatten ++ (wC (x0, ByteArray.empty, true)), v⟩]))) (by kernel_rfl) (by kernel_rfl) (CInv.start ⟨OW.more HX6.out (Rdr.stays hgrB) ((Ext.refl _).drewN _).drew, HB6.out.ext ((Ext.refl _).drewN _).drew⟩) ?_ ?_
              · refine ⟨?o0, ?o1, ?o2, ?o3, ?o4, ?o5, ?o6, ?o7, ?o8, ?o9, ?o10, trivial⟩
                case o0 =>
                  intro f a u h hfi hp hq hcl
                  have q7 : a.tmps[7]?.getD undef = .pointer (some ⟨gt, 0, none⟩) := h.agree.att (by decide)
                  exact h.yield rfl rfl 82 rfl (by change 82 < 106; decide) rfl _ rfl (by go_simp)
                case o1 =>
                  intro f a u h hfi hp hq hcl
                  have q7 : a.tmps[7]?.getD undef = .pointer (some ⟨gt, 0, none⟩) := h.agree.att (by decide)
                  exact h.yield rfl rfl 83 rfl (by change 83 < 106; decide) rfl _ rfl (by go_simp)
                case o2 =>
                  intro f a u h hfi hp hq hcl
                  have q83 := h.att 1 rfl (pre_of hp 1 rfl)
                  exact h.yield rfl rfl 84 rfl (by change 84 < 106; decide) rfl _ rfl (by go_simp)
                case o3 =>
                  intro f a u h hfi hp hq hcl
                  have q84 := h.att 2 rfl (pre_of hp 2 rfl)
                  exact h.yield rfl rfl 85 rfl (by change 85 < 106; decide) rfl _ rfl (by go_simp)
                case o4 =>
                  intro f a u h hfi hp hq hcl
                  have q85 := h.att 3 rfl (pre_of hp 3 rfl)
                  obtain ⟨xs, hx, hl⟩ := h.before 1 rfl (hq 7 _ rfl rfl)
                  have hN := PutW.ahead (N := fun u => Blk u gt 66 #[.slice (some ad) mo ct]) hx (by omega) (fun _ h => h.1.nod) (fun _ _ h => h.nod)
                  have ct : u.cell? ⟨gt, 0, none⟩ = some (.slice (some ad) mo ct) := hN.cell 0
                  clear hN hx
                  exact h.yield rfl rfl 86 rfl (by change 86 < 106; decide) rfl _ rfl (by go_simp)
                case o5 =>
                  intro f a u h hfi hp hq hcl
                  have q9 : a.tmps[9]?.getD undef = .pointer (some ⟨gw, 0, none⟩) := h.agree.att (by decide)
                  obtain ⟨xs, hx, hl⟩ := h.before 0 rfl (hq 6 _ rfl rfl)
                  obtain rfl : xs = [] := List.eq_nil_of_length_eq_zero (by omega)
                  have hE : (OW w B (fun u => Rdr u gr r3) gt 66 #[.slice (some ad) mo ct] [⟨46, 3, mo, (out.map wC).flatten, .slice (some ad) mo ct⟩] u) ∧ Blk u gw 46 (wC (x0, ByteArray.empty, true)).toArray := hx
                  exact h.yield rfl rfl 87 rfl (by change 87 < 106; decide) rfl _ rfl (run_of_sem rfl (by rw [show a.eval (.tmp 9) = .pointer (some ⟨gw, 0, none⟩) from h.agree.eval (by decide)]; exact run_loadAt_row u ⟨gw, 0, none⟩ 46 (wC (x0, ByteArray.empty, true)) _ (blk_cells hE.2) Try.underlying46 rfl (by rw [w_info]; rfl)))
                case o6 =>
                  intro f a u h hfi hp hq hcl
                  refine h.link hfi rfl rfl 0 _ rfl rfl (fun t ht => by cases ht; change 88 < 106; decide) rfl (fun k c d' hk hc => by omega) ?_
                  intro xs hl hX hv
                  obtain rfl : xs = [] := List.eq_nil_of_length_eq_zero hl
                  obtain ⟨hX, hE⟩ : (OW w B (fun u => Rdr u gr r3) gt 66 #[.slice (some ad) mo ct] [⟨46, 3, mo, (out.map wC).flatten, .slice (some ad) mo ct⟩] u) ∧ Blk u gw 46 (wC (x0, ByteArray.empty, true)).toArray := hX
                  have e87 := h.at_ 5 rfl (pre_of hp 5 rfl)
                  refine wp_val (exec_buildSlice rfl (by rw [arr1]; simp only [show a.eval (.tmp 87) = _ from e87]; rfl)) (lit1_w _ _) ?_
                  exact ⟨_, rfl, ⟨_, rfl, Cells.lit rfl (wC (x0, ByteArray.empty, true)) _ _⟩, ⟨hX.more (Rdr.stays hgrB) ((Ext.refl _).alloc _), hE.ext ((Ext.refl _).alloc _)⟩⟩
                case o7 =>
                  intro f a u h hfi hp hq hcl
                  refine h.link hfi rfl rfl 1 _ rfl rfl (fun t ht => by cases ht; change 89 < 106; decide) rfl (fun k c d' hk hc => by (have hk0 : k = 0 := (by omega)); subst hk0; cases hc; exact (pre_of hp 6 rfl)) ?_
                  intro xs hl hX hv
                  obtain ⟨l, rfl⟩ := len1 hl
                  obtain ⟨⟨g, rfl, hc⟩, hX, _⟩ : (∃ g, l = _ ∧ _) ∧ (OW w B (fun u => Rdr u gr r3) gt 66 #[.slice (some ad) mo ct] [⟨46, 3, mo, (out.map wC).flatten, .slice (some ad) mo ct⟩] u) ∧ _ := hX
                  have el := hv 0 _ _ rfl (by decide)
                  refine wp_append u (.tmp 86) (.tmp 88) 22 rfl B 46 (.agg #[.string ByteArray.empty, .string ByteArray.empty, .bool false]) 3 40 Try.underlying22 (by kernel_rfl) rfl (by decide) _ mo _ (h.at_ 4 rfl (pre_of hp 4 rfl)) (hX.own 0 _ rfl) (some ⟨g, 0, none⟩) 1 1 (wC (x0, ByteArray.empty, true)) el rfl hc (wC_one (x0, ByteArray.empty, true)) (by simp only [maxLen]; omega) (by omega) hX.hB ?_
                  intro v' u' ho hg hf
                  exact ⟨_, rfl, hX.app (Rdr.stays hgrB) hgtB hwB (i := 0) rfl ho hg hf⟩
                case o8 =>
                  intro f a u h hfi hp hq hcl
                  have q82 := h.att 0 rfl (pre_of hp 0 rfl)
                  exact h.yield rfl rfl 90 rfl (by change 90 < 106; decide) rfl _ rfl (by go_simp)
                case o9 =>
                  intro f a u h hfi hp hq hcl
                  have q90 := h.att 6 rfl (pre_of hp 8 rfl)
                  exact h.yield rfl rfl 91 rfl (by change 91 < 106; decide) rfl _ rfl (by go_simp)
                case o10 =>
                  intro f a u h hfi hp hq hcl
                  refine h.link hfi rfl rfl 2 _ rfl rfl (fun t ht => by cases ht) rfl (fun k c d' hk hc => by (have hk0 : k = 1 := (by omega)); subst hk0; cases hc; exact (pre_of hp 7 rfl)) ?_
                  intro xs hl hX hv
                  obtain ⟨l, v, rfl⟩ := len2 hl
                  have hX : OW w B (fun u => Rdr u gr r3) gt 66 #[.slice (some ad) mo ct] [⟨46, 3, mo + 1, (out.map wC).flatten ++ (wC (x0, ByteArray.empty, true)), v⟩] u := hX
                  have ev := hv 1 _ _ rfl (by decide)
                  obtain ⟨Av, cv, hvv, _, _, _⟩ := own_form (hX.own 0 _ rfl) (by show 0 < 3; decide)
                  have hvv : v = .slice Av (mo + 1) cv := hvv
                  subst hvv
                  have ct : u.cell? ⟨gt, 0, none⟩ = some (.slice (some ad) mo ct) := hX.nod.cell 0
                  have f1 := hX.nod.frozen 0
                  refine wp_store_cell 22 (.tmp 91) (.tmp 89) rfl rfl (h.at_ 7 rfl (pre_of hp 9 rfl)) ev (st_writes _ _ _ _ _ _ ct f1) ?_
                  exact ⟨.tuple #[], rfl, hX.sto (grown_set u gt 0 _) (blk_set hX.nod 0 _) (Rdr.grown hX.rd (grown_set u gt 0 _) (fun k e => by cases e; exact hgrl)) hgtB hgtw⟩
              · intro f a u h hall hfar
                obtain ⟨xs, hxl, hX, hv⟩ := h.done (by intro c hc; simp only [List.mem_cons, List.not_mem_nil, or_false] at hc; rcases hc with rfl | rfl | rfl; all_goals exact hall _ (by decide))
                obtain ⟨l, v, t, rfl⟩ := len3 hxl
                have hX : OW w B (fun u => Rdr u gr r3) gt 66 #[v] [⟨46, 3, mo + 1, (out.map wC).flatten ++ (wC (x0, ByteArray.empty, true)), v⟩] u := hX
                have hag := h.agree.out
                simp only [List.foldl_cons, List.foldl_nil, Act.put, List.setIfInBounds_toArray, List.set_cons_zero, List.set_cons_succ] at hag
                generalize a.eval (.tmp 82) = y82 at hag
                generalize a.eval (.tmp 83) = y83 at hag
                generalize a.eval (.tmp 84) = y84 at hag
                generalize a.eval (.tmp 85) = y85 at hag
                generalize a.eval (.tmp 86) = y86 at hag
                generalize a.eval (.tmp 87) = y87 at hag
                generalize a.eval (.tmp 88) = y88 at hag
                generalize a.eval (.tmp 89) = y89 at hag
                generalize a.eval (.tmp 90) = y90 at hag
                generalize a.eval (.tmp 91) = y91 at hag
                clear h hall hfar hxl hv
                subst hag
                obtain ⟨Av, cv, hvv, lv, mv, hcv⟩ := own_form (hX.own 0 _ rfl) (by show 0 < 3; decide)
                have hvv : v = .slice Av (mo + 1) cv := hvv
                subst hvv
                clear lv mv hcv
                have HV2 : Hid (ValidT (out ++ [(x0, ByteArray.empty, true)]) ∧ plN (out ++ [(x0, ByteArray.empty, true)]) + muR r3 ≤ ns + 1) := Lib.hid ⟨valid_snoc HV.out.1 HORD.out HFIX.out HOKR.out, by rw [plN_snoc]; have h1 := HV.out.2; have h2 := HC2.out; show plN out + (1 + x0.size + ByteArray.empty.size) + muR r3 ≤ ns + 1; have h3 : 1 + x0.size + ByteArray.empty.size + muR r3 ≤ muR r := h2; omega⟩
                have HY2 : Hid (∀ l, Reads b l → out ++ [(x0, ByteArray.empty, true)] = l.take (mo + 1) ∧ mo + 1 ≤ l.length ∧ r3 = ⟨wrsB (l.drop (mo + 1)), false⟩ ∧ rem - 1 = l.length - (mo + 1)) := Lib.hid (fun l h => by
                  obtain ⟨h1, h2, h3, h4⟩ := HY.out l h
                  obtain ⟨q1, q2, q3⟩ := HSTEP.out l h
                  exact ⟨by rw [List.take_succ_eq_append_getElem q1, ← h1, q2], q1, q3, by omega⟩)
                have HMU2 : Hid (muR r3 ≤ gk - 1 ∧ 1 ≤ gk) := Lib.hid (by have h1 := HMU.out; have h2 : 1 + x0.size + ByteArray.empty.size + muR r3 ≤ muR r := HC2.out; omega)
                have hgk := HMU2.out.2
                rw [w_snoc] at hX
                have HXN := Lib.hid hX
                have hrw : IntKind.u64.wrap ((rem : Int) - 1) = ((rem - 1 : Nat) : Int) := by rw [IntKind.wrap_u64]; omega
                clear hX HY HV HMU HSTEP HC2 HORD HFIX
                go_wp2
                go_roundg (gk - 1)
                case measure => omega
                case rel => exact ⟨rem - 1, r3, out ++ [(x0, ByteArray.empty, true)], Av, cv, mo + 1, by first | rfl | (rw [hrw]) | go_num, by omega, Lib.hid HMU2.out.1, Lib.hid (by rw [List.length_append, HMO.out]; rfl), HXN, HV2, HY2⟩
            · have hze : (x1.toList == (⟨#[]⟩ : ByteArray).toList) = false := by rw [beq_eq_false_iff_ne]; exact fun e => hne (kl_inj e)
              have hze2 : (x1.toList == []) = false := by rw [beq_eq_false_iff_ne]; intro e; exact hne (kl_inj (e.trans (show ([] : List UInt8) = ByteArray.empty.toList from by rw [ByteArray.toList_eq]; rfl)))
              have HNO : Hid (∀ l, ¬ Reads b l) := Lib.hid (fun l h => by
                obtain ⟨q1, q2, q3⟩ := HSTEP.out l h
                have h5 := h.1.fixed _ (List.getElem_mem q1)
                rw [q2] at h5
                exact hne (congrArg (fun t : W3 => t.2.1) h5).symm)
              clear hne
              go_quiet (fail)
              go_wp2
              go_ret2
              exact ⟨.inr ⟨rfl, HNO.out⟩, hxw.drewN _⟩
        | false =>
          have b1 : Op.bytesLess y0.toList x0.toList = false := hbl
          have HNO : Hid (∀ l, ¬ Reads b l) := Lib.hid (fun l h => by
            obtain ⟨h1, h2, h3, h4⟩ := HY.out l h
            obtain ⟨q1, q2, q3⟩ := HSTEP.out l h
            have h5 := List.take_succ_eq_append_getElem q1
            rw [← h1, q2, HOUT.out] at h5
            have h6 : SortedW (l.take (mo + 1)) := h.1.sorted.sublist (List.take_sublist _ _)
            rw [h5, List.append_assoc] at h6
            have h7 := (List.pairwise_append.1 h6).2.1
            have h8 := List.rel_of_pairwise_cons h7 (a' := (x0, x1, x2)) (by simp)
            rw [show klt (y0, y1, y2).1 (x0, x1, x2).1 = klt y0 x0 from rfl, hbl] at h8
            cases h8)
          clear hbl
          go_quiet (fail)
          go_wp2
          go_ret2
          exact ⟨.inr ⟨rfl, HNO.out⟩, hxw.drewN _⟩
end Go.Proofs.Ytnggdkpaofbaaaa

/- tree.Find: in a tree of one object above its leaves. Printed by wip/mktreefind.py. -/
import Derived.Test.YtcnhbodemabbdaaDoorQ44
import Derived.Test.YtcnhbodemabbdaaDoorQ13
import Derived.OwnWalk
namespace Go.Proofs.YtcnhbodemabbdaaDoor
open Go.RowKit
set_option linter.unusedVariables false

set_option maxRecDepth 100000 in
set_option maxHeartbeats 4000000 in
theorem tclos_calls (p : Pr) (g5 : Nat) (key : ByteArray) (w : World) (h5 : Blk w g5 9 #[.string key]) :
    Calls Tryd.prog 51 #[.agg (prC p).toArray, .pointer (some ⟨g5, 0, none⟩)] w fun e w' => e = .returned (.bool (p.1.toList == key.toList)) ∧ Ext w w' := by
  obtain ⟨p0, p1⟩ := p
  have H5 := Lib.hid h5
  clear h5
  go_enter Tryd.func51, Tryd.ntmps51
  obtain ⟨w1, hw1⟩ : ∃ w1, w1 = w.alloc (.cells (prC (p0, p1)).toArray 65) := ⟨_, rfl⟩
  have hx1 : Ext w w1 := by rw [hw1]; exact (Ext.refl _).alloc _
  have hb1 : Blk w1 w.heap.size 65 (prC (p0, p1)).toArray := by rw [hw1]; exact Blk.new w _ _
  go_upto_region 1 with (fail)
  rw [← hw1]
  obtain ⟨g2, hg2⟩ : ∃ g, g = w.heap.size := ⟨_, rfl⟩
  rw [← hg2] at hb1 ⊢
  have c0 : w1.cell? ⟨g2, 0, none⟩ = some (.string p0) := (pair_cells hb1).1
  have c5 : w1.cell? ⟨g5, 0, none⟩ = some (.string key) := (H5.out.ext hx1).cell 0
  clear hw1 hb1 hg2
  go_wp2
  go_ret
  exact ⟨rfl, hx1⟩

set_option maxRecDepth 100000 in
set_option maxHeartbeats 4000000 in
theorem tindex_calls (p : Pr) (A : Option Addr) (c g5 : Nat) (key : ByteArray) (w : World) (hr : Row w A 2 [prC p]) (h5 : Blk w g5 9 #[.string key]) (hk : (p.1.toList == key.toList) = true) :
    Calls Tryd.prog 50 #[.slice A 1 c, .func (.func 51) #[] #[.pointer (some ⟨g5, 0, none⟩)]] w fun e w' => e = .returned (.int .i64 0) ∧ Ext w w' := by
  have HC := Lib.hid (fun (u : World) (hu : Ext w u) => tclos_calls p g5 key u (h5.ext hu))
  rw [hk] at HC
  have HR := Lib.hid hr
  clear hr h5 hk
  go_enter Tryd.func50, Tryd.ntmps50
  go_upto_region 2 with (fail)
  go_loopw [8] (fun i wr => i = .int .i64 0 ∧ Ext w wr) (fun i _ => 1)
  case atStart => exact ⟨rfl, Ext.refl _⟩
  case round =>
    obtain ⟨rfl, hx⟩ := hrel
    obtain ⟨_, x, rfl, hrow⟩ := (HR.out.ext hx) 0 (prC p) rfl
    rw [Nat.zero_mul, add_zero] at hrow
    have HRW := Lib.hid hrow
    clear hrow
    go_wp2_with (first
      | (refine wpList_load_row_ rfl 65 (.tmp 14) rfl x rfl (prC p) _ HRW.out Tryd.underlying65 rfl pr_info ?_)
      | (go_at_call 51; (with_reducible refine (HC.out wr hx).mono ?_); rintro e w' ⟨rfl, hx'⟩))
    go_ret
    exact ⟨rfl, hx.trans hx'⟩

set_option maxRecDepth 100000 in
set_option maxHeartbeats 16000000 in
theorem tfind_two (gp b : Nat) (L : List Ent1) (k : UInt8) (bs1 bs2 : List UInt8) (s0 s1 t1 v key : ByteArray) (y0 : List UInt8) (w : World) (h : PoolAt w gp b L) (hk : 0 < idN k)
    (hat1 : at1 (idPad (idName k bs1)) L = some (bstr bs1)) (hat2 : at1 (idPad (idName k bs2)) L = some (bstr bs2)) (hd1 : decT bs1 = some (upT [(s0, y0), (s1, idPad (idName k bs2))])) (hd2 : decT bs2 = some (leafT [(t1, v)])) (hy0 : y0.length = 33)
    (hle0 : (Op.bytesLess s0.toList key.toList || s0.toList == key.toList) = true) (hle1 : (Op.bytesLess s1.toList key.toList || s1.toList == key.toList) = true) (heq : (t1.toList == key.toList) = true) (hl1 : bs1.length ≤ 1048576) (hl2 : bs2.length ≤ 1048576) (hT : Tab w) :
    Calls Tryd.prog 33 #[.iface 39 (.pointer (some ⟨gp, 0, none⟩)), .agg (bv (idPad (idName k bs1))).toArray, .string key] w fun e w' => e = .returned (.tuple #[.string v, .bool true, .int .i64 0]) ∧ Ext w w' := by
  have HR1 := Lib.hid (fun (u : World) (hu : Ext w u) => tread_ok gp b L k bs1 _ u (h.ext hu) hk hat1 hd1 hl1 (hT.ext hu))
  have HR2 := Lib.hid (fun (u : World) (hu : Ext w u) => tread_ok gp b L k bs2 _ u (h.ext hu) hk hat2 hd2 hl2 (hT.ext hu))
  have hx1l : (idPad (idName k bs1)).length = 33 := idPad_len (idName_len _ _)
  have hx2l : (idPad (idName k bs2)).length = 33 := idPad_len (idName_len _ _)
  obtain ⟨x1, hx1e⟩ : ∃ x, x = idPad (idName k bs1) := ⟨_, rfl⟩
  obtain ⟨x2, hx2e⟩ : ∃ x, x = idPad (idName k bs2) := ⟨_, rfl⟩
  rw [← hx1e] at HR1 hx1l ⊢
  rw [← hx2e] at HR1 HR2 hx2l
  have HX1 := Lib.hid hx1l
  have HX2 := Lib.hid hx2l
  have HY0 := Lib.hid hy0
  have HEQ := Lib.hid heq
  clear h hk hat1 hat2 hd1 hd2 hl1 hl2 hT hx1l hx2l hx1e hx2e hy0 heq
  go_enter Tryd.func33, Tryd.ntmps33
  obtain ⟨w1, hw1⟩ : ∃ w1, w1 = (w.alloc (.cells (bv x1).toArray 27)).alloc (.cells #[.string key] 9) := ⟨_, rfl⟩
  have hxw1 : Ext w w1 := by rw [hw1]; exact ((Ext.refl _).alloc _).alloc _
  have hb4 : Blk w1 w.heap.size 27 (bv x1).toArray := by rw [hw1]; exact (Blk.new w _ _).ext ((Ext.refl _).alloc _)
  have hb5 : Blk w1 (w.heap.size + 1) 9 #[.string key] := by rw [hw1]; exact Blk.new_at (by simp) _ _
  go_upto_region 1 with (fail)
  rw [← hw1]
  go_upto_region 2 with (fail)
  obtain ⟨g4, hg4⟩ : ∃ g, g = w.heap.size := ⟨_, rfl⟩
  obtain ⟨g5, hg5⟩ : ∃ g, g = w.heap.size + 1 := ⟨_, rfl⟩
  have h45 : g5 ≠ g4 := by omega
  have hgw : w.heap.size ≤ g4 := by omega
  rw [← hg5] at hb5 ⊢
  rw [← hg4] at hb4 ⊢
  clear hw1 hg4 hg5
  go_loopw [14] (fun i wr => ∃ (m : Nat), m ≤ 1 ∧ i = .int .i64 m ∧ Hid (Blk wr g4 27 (bv (if m = 0 then x1 else x2)).toArray) ∧ Hid (Blk wr g5 9 #[.string key]) ∧ Ext w wr) (fun i _ => 2 - (intOf i).toNat)
  case atStart => exact ⟨0, by omega, rfl, Lib.hid hb4, Lib.hid hb5, hxw1⟩
  case round =>
    obtain ⟨m, hm, rfl, HB4, HB5, hx⟩ := hrel
    clear hb4 hb5 hxw1
    by_cases hm0 : m = 0
    · subst hm0
      rw [if_pos rfl] at HB4
      have hcx : ∀ (j : Nat) (v : Value), (bv x1)[j]? = some v → wr.cell? ((⟨g4, 0, none⟩ : Addr).add j) = some v := fun j v hv => by
        have h1 := HB4.out.cells
        rw [List.toList_toArray] at h1
        obtain ⟨y, hy, hc⟩ := h1 j v hv
        cases hy
        exact hc
      have HCX := Lib.hid hcx
      clear hcx
      go_upto_region 6 with (first
        | (refine wpList_load_row_ rfl 27 (.tmp 4) rfl ⟨g4, 0, none⟩ rfl (bv x1) _ HCX.out Tryd.underlying27 rfl (by rw [id_info, bv_length, HX1.out]) ?_)
        | (go_at_call 49; (with_reducible refine (HR1.out wr hx).mono ?_); rintro e w2 ⟨pa, ka, P, K, pc, kc, rfl, ht, hx2⟩; obtain rfl : 0 = P := ht.hp; obtain rfl : 2 = K := ht.hk; have HTR := Lib.hid ht; clear ht)
        | (refine wpList_store_blk rfl 73 (.tmp 9) (.tmp 20) rfl rfl w2.heap.size #[.slice pa 0 pc, .slice ka 2 kc] rfl rfl 73 _ (Blk.new w2 _ _) rfl (by kernel_rfl) (by simp [Value.oneCell']) ?_; intro w3 hb9 hg9; have hx3 : Ext w2 w3 := ((Ext.refl _).alloc _).grown_ hg9 (fun j e => by cases e; exact Nat.le_refl _)))
      have hxr3 := hx2.trans hx3
      have HB43 := Lib.hid (HB4.out.ext hxr3)
      have HB53 := Lib.hid (HB5.out.ext hxr3)
      obtain ⟨g9, hg9e⟩ : ∃ g, g = w2.heap.size := ⟨_, rfl⟩
      have h49 : g9 ≠ g4 := by have := HB4.out.lt; have := hx2.size; omega
      rw [← hg9e] at hb9 ⊢
      obtain ⟨xk, hxk, r0, r1, rr0⟩ := kd_row (HTR.out.ck.ext hx3) (i := 0) (by show 0 < 2; decide)
      obtain ⟨xk', hxk', _, _, rr1⟩ := kd_row (HTR.out.ck.ext hx3) (i := 1) (by show 1 < 2; decide)
      subst hxk
      cases hxk'
      rw [Nat.zero_mul, add_zero] at r1 rr0
      replace rr0 : ∀ j v, (kdC (s0, y0))[j]? = some v → w3.cell? (xk.add j) = some v := rr0
      replace rr1 : ∀ j v, (kdC (s1, x2))[j]? = some v → w3.cell? ((xk.add (1 * 34)).add j) = some v := rr1
      replace r1 : Cells w3 (some (xk.add 1)) (bv y0) := r1
      have r1' : ∀ j v, (bv y0)[j]? = some v → w3.cell? ((xk.add 1).add j) = some v := fun j v hv => by
        obtain ⟨y, hy, hc⟩ := r1 j v hv
        cases hy
        exact hc
      have HK0 := Lib.hid rr0
      have HK1 := Lib.hid rr1
      have HY1 := Lib.hid r1'
      obtain ⟨c90, c91⟩ := tree_cells hb9
      have HB9 := Lib.hid hb9
      have hxkb : xk.block ≠ g4 := fun e => by
        have h1 := rr0 0 _ rfl
        have h2 := cell_blk HB43.out (p := xk.add 0) (by rw [block_add]; exact e) h1
        have h3 := bv_cells x1
        have h4 : Value.string s0 ∈ bv x1 := by
          have h5 := List.mem_of_getElem? (l := (bv x1).toArray.toList) (by rw [Array.getElem?_toList]; exact h2)
          rwa [List.toList_toArray] at h5
        simp [bv] at h4
      clear r0 r1 rr0 rr1 r1' hb9 hg9 hg9e
      go_upto_region 12 with (first
        | (refine wpList_load_row_ rfl 27 (.tmp 44) rfl (xk.add 1) rfl (bv y0) _ HY1.out Tryd.underlying27 rfl (by rw [id_info, bv_length, HY0.out]) ?_)
        | (refine wpList_store_blk rfl 27 (.tmp 4) (.tmp 45) rfl rfl g4 (bv y0).toArray rfl rfl 27 (bv x1).toArray HB43.out (by rw [List.size_toArray, List.size_toArray, bv_length, bv_length, HY0.out, HX1.out]) (by rw [List.size_toArray, bv_length, HX1.out]; kernel_rfl) (fun v hv => bv_cells _ v (by simpa using hv)) ?_; intro w4 hb44 hg44))
      have hxw3 := hx.trans hxr3
      have hx4 : Ext w w4 := hxw3.grown_ hg44 (fun j e => by cases e; exact hgw)
      have HB54 := Lib.hid (HB53.out.grown hg44 (fun e => h45 (Option.some.inj e)))
      have c91' : w4.cell? ⟨g9, 1, none⟩ = some (.slice (some xk) 2 kc) := hg44.cell c91 (fun e => h49 (Option.some.inj e))
      replace HK0 : Hid (∀ j v, (kdC (s0, y0))[j]? = some v → w4.cell? (xk.add j) = some v) := Lib.hid (fun j v hv => hg44.cell (HK0.out j v hv) (by rw [block_add]; exact fun e => hxkb (Option.some.inj e)))
      replace HK1 : Hid (∀ j v, (kdC (s1, x2))[j]? = some v → w4.cell? ((xk.add (1 * 34)).add j) = some v) := Lib.hid (fun j v hv => hg44.cell (HK1.out j v hv) (by rw [block_add, block_add]; exact fun e => hxkb (Option.some.inj e)))
      have HB44 := Lib.hid hb44
      clear c90 c91 hb44 hg44 HTR HY1 HB9 HB43 HB53 HCX
      go_upto_region 13 with (fail)
      clear c91'
      go_loopw [49] (fun i wr' => ∃ (q : Nat), q ≤ 2 ∧ i = .int .i64 q ∧ Hid (Blk wr' g4 27 (bv (if q ≤ 1 then y0 else x2)).toArray) ∧ Hid (Blk wr' g5 9 #[.string key]) ∧ Hid (∀ j v, (kdC (s0, y0))[j]? = some v → wr'.cell? (xk.add j) = some v) ∧ Hid (∀ j v, (kdC (s1, x2))[j]? = some v → wr'.cell? ((xk.add (1 * 34)).add j) = some v) ∧ Ext w wr') (fun i _ => 2 - (intOf i).toNat)
      case atStart => exact ⟨0, by omega, rfl, HB44, HB54, HK0, HK1, hx4⟩
      case round =>
        clear HB44 HB54 HK0 HK1 hx4
        obtain ⟨q, hq, rfl, HB4, HB5, HK0, HK1, hx⟩ := hrel
        by_cases hq2 : q < 2
        · have hq2i : (q : Int) < 2 := by omega
          obtain ⟨kd, hkd⟩ : ∃ kd : Kd, kd = if q = 0 then (s0, y0) else (s1, x2) := ⟨_, rfl⟩
          have hkl : kd.2.length = 33 := by rw [hkd]; split; exact HY0.out; exact HX2.out
          have hlc : ∀ j v, (kdC kd)[j]? = some v → wr.cell? ((xk.add (q * 34)).add j) = some v := fun j v hv => by
            rw [hkd] at hv
            by_cases h0 : q = 0
            · subst h0
              rw [if_pos rfl] at hv
              rw [Nat.zero_mul, add_zero]
              exact HK0.out j v hv
            · obtain rfl : q = 1 := by omega
              rw [if_neg (by decide)] at hv
              exact HK1.out j v hv
          have hle : (Op.bytesLess kd.1.toList key.toList || kd.1.toList == key.toList) = true := by rw [hkd]; split <;> assumption
          have HKD : Hid (∀ u : World, ∀ g : Nat, Blk u g 27 (bv kd.2).toArray → Blk u g 27 (bv (if q + 1 ≤ 1 then y0 else x2)).toArray) := Lib.hid (fun u g hb => by
            rw [hkd] at hb
            by_cases h0 : q = 0
            · subst h0; exact hb
            · rw [if_neg h0] at hb
              rw [if_neg (by omega)]
              exact hb)
          have HKL := Lib.hid hkl
          have HLC := Lib.hid hlc
          rw [if_pos (show q ≤ 1 by omega)] at HB4
          have hq0i : (0 : Int) ≤ (q : Int) := by omega
          obtain ⟨k0, k1⟩ := kd
          clear hkd hkl hlc
          go_upto_region 15 with (first
            | (refine wpList_load_row_ rfl 77 (.tmp 51) rfl (xk.add (q * 34)) rfl (kdC (k0, k1)) _ HLC.out Tryd.underlying77 rfl (by rw [kd_info, kdC_len HKL.out]) ?_)
            | (refine wpList_store_blk rfl 77 (.tmp 13) (.tmp 52) rfl rfl wr.heap.size (kdC (k0, k1)).toArray rfl rfl _ _ (Blk.new wr _ _) (by rw [List.size_toArray, kdC_len HKL.out]; rfl) (by kernel_rfl) (kdC_one _) ?_; intro w3 hb13 hg13; have hx3 : Ext wr w3 := ((Ext.refl _).alloc _).grown_ hg13 (fun j e => by cases e; exact Nat.le_refl _)))
          have HB43 := Lib.hid (HB4.out.ext hx3)
          have HB53 := Lib.hid (HB5.out.ext hx3)
          have hxw3 := hx.trans hx3
          have HK03 : Hid (∀ j v, (kdC (s0, y0))[j]? = some v → w3.cell? (xk.add j) = some v) := Lib.hid (fun j v hv => hx3.cell (HK0.out j v hv))
          have HK13 : Hid (∀ j v, (kdC (s1, x2))[j]? = some v → w3.cell? ((xk.add (1 * 34)).add j) = some v) := Lib.hid (fun j v hv => hx3.cell (HK1.out j v hv))
          obtain ⟨g13, hg13e⟩ : ∃ g, g = wr.heap.size := ⟨_, rfl⟩
          rw [← hg13e] at hb13 ⊢
          obtain ⟨ck0, ck1⟩ := kid_cells hb13
          have ck0' : w3.cell? ⟨g13, 0, none⟩ = some (.string k0) := ck0
          have c5 : w3.cell? ⟨g5, 0, none⟩ = some (.string key) := HB53.out.cell 0
          have ck1' : ∀ j v, (bv k1)[j]? = some v → w3.cell? ((⟨g13, 1, none⟩ : Addr).add j) = some v := fun j v hv => by
            obtain ⟨y, hy, hc⟩ := ck1 j v hv
            cases hy
            exact hc
          have HK1' := Lib.hid ck1'
          clear hb13 hg13 hg13e ck0 ck1 ck1' HK0 HK1 HB4 HB5 HLC
          go_wp2_with (first
            | (refine wpList_load_row_ rfl 27 (.tmp 57) rfl ⟨g13, 1, none⟩ rfl (bv k1) _ HK1'.out Tryd.underlying27 rfl (by rw [id_info, bv_length, show k1.length = 33 from HKL.out]) ?_)
            | (refine wpList_store_blk rfl 27 (.tmp 4) (.tmp 58) rfl rfl g4 (bv k1).toArray rfl rfl 27 (bv y0).toArray HB43.out (by rw [List.size_toArray, List.size_toArray, bv_length, bv_length, HY0.out, show k1.length = 33 from HKL.out]) (by rw [List.size_toArray, bv_length, HY0.out]; kernel_rfl) (fun v hv => bv_cells _ v (by simpa using hv)) ?_; intro w4 hb44 hg44))
          go_roundw
          case rel => exact ⟨q + 1, by omega, by go_num, Lib.hid (HKD.out w4 g4 hb44), Lib.hid (HB53.out.grown hg44 (fun e => h45 (Option.some.inj e))), Lib.hid (fun j v hv => hg44.cell (HK03.out j v hv) (by rw [block_add]; exact fun e => hxkb (Option.some.inj e))), Lib.hid (fun j v hv => hg44.cell (HK13.out j v hv) (by rw [block_add, block_add]; exact fun e => hxkb (Option.some.inj e))), hxw3.grown_ hg44 (fun j e => by cases e; exact hgw)⟩
          case measure => simp [intOf] <;> omega
        · obtain rfl : q = 2 := by omega
          rw [if_neg (by decide)] at HB4
          go_wp2
          go_roundw
          case rel => exact ⟨1, by omega, by go_num, Lib.hid (by rw [if_neg (by decide)]; exact HB4.out), HB5, hx⟩
          case measure => simp [intOf] <;> omega
    · obtain rfl : m = 1 := by omega
      rw [if_neg (by decide)] at HB4
      have hcx : ∀ (j : Nat) (v : Value), (bv x2)[j]? = some v → wr.cell? ((⟨g4, 0, none⟩ : Addr).add j) = some v := fun j v hv => by
        have h1 := HB4.out.cells
        rw [List.toList_toArray] at h1
        obtain ⟨y, hy, hc⟩ := h1 j v hv
        cases hy
        exact hc
      have HCX := Lib.hid hcx
      clear hcx
      go_upto_region 6 with (first
        | (refine wpList_load_row_ rfl 27 (.tmp 4) rfl ⟨g4, 0, none⟩ rfl (bv x2) _ HCX.out Tryd.underlying27 rfl (by rw [id_info, bv_length, HX2.out]) ?_)
        | (go_at_call 49; (with_reducible refine (HR2.out wr hx).mono ?_); rintro e w2 ⟨pa, ka, P, K, pc, kc, rfl, ht, hx2⟩; obtain rfl : 1 = P := ht.hp; obtain rfl : 0 = K := ht.hk; have HTR := Lib.hid ht; clear ht)
        | (refine wpList_store_blk rfl 73 (.tmp 9) (.tmp 20) rfl rfl w2.heap.size #[.slice pa 1 pc, .slice ka 0 kc] rfl rfl 73 _ (Blk.new w2 _ _) rfl (by kernel_rfl) (by simp [Value.oneCell']) ?_; intro w3 hb9 hg9; have hx3 : Ext w2 w3 := ((Ext.refl _).alloc _).grown_ hg9 (fun j e => by cases e; exact Nat.le_refl _)))
      have hxr3 := hx2.trans hx3
      have HB53 := Lib.hid (HB5.out.ext hxr3)
      have HROW : Hid (Row w3 pa 2 [prC (t1, v)]) := Lib.hid (HTR.out.cp.ext hx3)
      obtain ⟨g9, hg9e⟩ : ∃ g, g = w2.heap.size := ⟨_, rfl⟩
      rw [← hg9e] at hb9 ⊢
      obtain ⟨c90, c91⟩ := tree_cells hb9
      have HB9 := Lib.hid hb9
      clear hb9 hg9 hg9e HTR
      go_wp2_with (go_at_call 50; (with_reducible refine (tindex_calls (t1, v) pa pc g5 key w3 HROW.out HB53.out HEQ.out).mono ?_); rintro e w4 ⟨rfl, hx4⟩; obtain ⟨c94, _⟩ := tree_cells (HB9.out.ext hx4); obtain ⟨_, xq, hxq, hrq⟩ := (HROW.out.ext hx4) 0 (prC (t1, v)) rfl; subst hxq; rw [Nat.zero_mul, add_zero] at hrq; have cq1 : w4.cell? { block := xq.block, off := xq.off + 1 } = some (.string v) := hrq 1 _ rfl; clear c90 c91 hrq)
      go_ret3
      exact ⟨rfl, (hx.trans hxr3).trans hx4⟩
end Go.Proofs.YtcnhbodemabbdaaDoor

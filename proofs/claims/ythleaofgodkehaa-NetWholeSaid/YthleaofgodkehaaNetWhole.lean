/- NetWhole: where nothing befalls, and behind the last fate, a question is answered as the peer does: the walk of the law. Printed by wip/mknetwhole.py. -/
import Derived.Test.YthleaofgodkehaaNetLaw
import Derived.Test.YthleaofgodkehaaRefObj
namespace Go.Proofs.Ythleaofgodkehaa
open Go.RowKit
set_option linter.unusedVariables false

theorem askP_fates (fs : List UInt8) (ls : List ByteArray) (r : Option ByteArray) : (askP fs ls r).1.length ≤ fs.length - 1 := by
  unfold askP
  split
  · rw [List.length_tail]
    exact Nat.le_refl _
  · split
    · rw [List.length_tail]
      exact Nat.le_refl _
    · simp only [goP]
      repeat' split
      all_goals (simp only [List.length_tail]; omega)
theorem askP_nil (ls : List ByteArray) (r : Option ByteArray) : askP [] ls r = ([], ls, r) := by cases r <;> rfl

set_option maxRecDepth 50000 in
set_option maxHeartbeats 8000000 in
theorem netWhole_calls (A : Option Addr) (n c : Nat) (fs : List UInt8) (A2 : Option Addr) (n2 c2 : Nat) (os : List Ent1) (A3 : Option Addr) (n3 c3 : Nat) (xs : List (List UInt8)) (w : World)
    (h1 : Cells w A (bv fs)) (hn1 : fs.length = n) (hc1 : n ≤ c) (hl1 : n ≤ 140737488351232)
    (h2 : Row w A2 34 (os.map obC)) (hn2 : os.length = n2) (hl2 : n2 ≤ 140737488351232) (hi2 : ∀ p ∈ os, p.1.length = 33 ∧ p.2.size ≤ 140737488351232)
    (h3 : Row w A3 33 (xs.map bv)) (hn3 : xs.length = n3) (hl3 : n3 ≤ 140737488351232) (hi3 : ∀ x ∈ xs, x.length = 33) :
    Calls Try.prog 4 #[.slice A n c, .slice A2 n2 c2, .slice A3 n3 c3] w fun e w' => e = .returned (.bool true) ∧ Ext w w' := by
  have H1 := Lib.hid h1
  have H2 := Lib.hid h2
  have H3 := Lib.hid h3
  have N1 := Lib.hid hn1
  have N2 := Lib.hid hn2
  have N3 := Lib.hid hn3
  have I2 := Lib.hid hi2
  have I3 := Lib.hid hi3
  have hi2' : ∀ p ∈ os, p.1.length = 33 := fun p hp => (hi2 p hp).1
  have I2' := Lib.hid hi2'
  clear h1 h2 h3 hn1 hn2 hn3 hi2 hi3 hi2'
  go_enter Try.func4, Try.ntmps4
  by_cases hb1 : (1024 : Int) < (n : Int)
  · go_wp2_with (first
    | (go_at_call 8; (with_reducible refine (net_alive w).mono ?_); rintro e w1 ⟨rfl, hx1⟩)
    | (go_at_call 9; (with_reducible refine (net_great os A2 n2 c2 w1 (H2.out.ext hx1) N2.out hl2 I2.out).mono ?_); rintro e w2 ⟨⟨b, rfl⟩, hx2⟩; cases b))
    all_goals
      go_ret
      exact ⟨rfl, hx1.trans hx2⟩
  by_cases hb2 : (60 : Int) < (n3 : Int)
  · go_wp2_with (first
    | (go_at_call 8; (with_reducible refine (net_alive w).mono ?_); rintro e w1 ⟨rfl, hx1⟩)
    | (go_at_call 9; (with_reducible refine (net_great os A2 n2 c2 w1 (H2.out.ext hx1) N2.out hl2 I2.out).mono ?_); rintro e w2 ⟨⟨b, rfl⟩, hx2⟩; cases b))
    all_goals
      go_ret
      exact ⟨rfl, hx1.trans hx2⟩
  by_cases hb3 : n3 = 0
  · subst hb3
    go_wp2_with (first
    | (go_at_call 8; (with_reducible refine (net_alive w).mono ?_); rintro e w1 ⟨rfl, hx1⟩)
    | (go_at_call 9; (with_reducible refine (net_great os A2 n2 c2 w1 (H2.out.ext hx1) N2.out hl2 I2.out).mono ?_); rintro e w2 ⟨⟨b, rfl⟩, hx2⟩; cases b))
    all_goals
      go_ret
      exact ⟨rfl, hx1.trans hx2⟩
  have hb3' : ((n3 : Int) == 0) = false := by rw [beq_eq_false_iff_ne]; omega
  have hx00 : 0 < xs.length := by rw [N3.out]; omega
  obtain ⟨ad, hA3, hlz0⟩ := H3.out.get (i := 0) (by simpa using hx00)
  subst hA3
  rw [List.getElem_map] at hlz0
  have hxl0 := I3.out _ (List.getElem_mem hx00)
  obtain ⟨x0, hx0e⟩ : ∃ x0, x0 = xs[0] := ⟨_, rfl⟩
  rw [← hx0e] at hlz0 hxl0
  rw [Nat.zero_mul, add_zero] at hlz0
  have HXL0 := Lib.hid hxl0
  have HLZ := Lib.hid hlz0
  clear hx0e hlz0 hxl0 hx00
  go_upto_region 5 with (first
    | (go_at_call 8; (with_reducible refine (net_alive w).mono ?_); rintro e w1 ⟨rfl, hx1⟩)
    | (go_at_call 9; (with_reducible refine (net_great os A2 n2 c2 w1 (H2.out.ext hx1) N2.out hl2 I2.out).mono ?_); rintro e w2 ⟨⟨b, rfl⟩, hx2⟩; cases b))
  rotate_left
  · go_ret
    exact ⟨rfl, hx1.trans hx2⟩
  have hx02 := hx1.trans hx2
  go_upto_region 9 with (first
    | (go_at_call 10; (with_reducible refine (newPool_calls w2).mono ?_); rintro e w3 ⟨gp, bp, rfl, hgp, hbp, hP3, hx3⟩; have hx03 := hx02.trans hx3)
    | (go_at_call 11; (with_reducible refine (put_calls gp bp [] os A2 n2 c2 w3 hP3 (H2.out.ext hx03) N2.out hl2 I2'.out).mono ?_); rintro e w5 ⟨rfl, hP5, hg5⟩; have hx05 : Ext w w5 := hx03.grown_ hg5 (fun k e => by cases e; exact Nat.le_trans hx02.size hbp))
    | (go_at_call 12; (with_reducible refine (netNew_calls A n c fs w5 (H1.out.ext hx05) N1.out hc1 hl1).mono ?_); rintro e w8 ⟨na, rfl, hna, hA8, hx8⟩; have hx08 := hx05.trans hx8; have hP8 := hP5.ext hx8))
  have hA0 := Nat.le_trans hx05.size hna
  have hA := Lib.hid (hA8.lower hx05.size)
  have hP := Lib.hid hP8
  obtain ⟨L, hL⟩ : ∃ L, L = putAll os [] := ⟨_, rfl⟩
  rw [← hL] at hP
  have HL := Lib.hid hL
  clear hL hP3 hP5 hP8 hA8 hg5
  go_loopw [42] (fun i wr => ∃ (k : Nat) (fs' : List UInt8) (ls : List ByteArray) (qa : Option Nat), k ≤ n ∧ i = .int .i64 k ∧ ls.length ≤ k ∧ fs'.length + k ≤ n ∧ Ext w wr ∧ Hid (NetAt w.heap.size wr na qa fs' ls k) ∧ Hid (PoolAt wr gp bp L)) (fun i _ => n - (intOf i).toNat)
  case atStart => exact ⟨0, fs, [], none, Nat.zero_le _, rfl, Nat.le_refl _, by rw [N1.out]; exact Nat.le_refl _, hx08, hA, hP⟩
  case round =>
    clear hA hP
    obtain ⟨k, fs', ls, qa, hk, rfl, hls, hfl, hx, hA, hP⟩ := hrel
    by_cases hlt : k < n
    · obtain ⟨fs2, ls2, r, hR⟩ : ∃ fs2 ls2 r, askP fs' ls (at1 x0 L) = (fs2, ls2, r) := ⟨_, _, _, rfl⟩
      have hlen2 : ls2.length ≤ k + 1 := by
        have := askP_len fs' ls (at1 x0 L)
        rw [hR] at this
        have h' : ls2.length ≤ ls.length + 1 := this
        omega
      have hlen3 : fs2.length + (k + 1) ≤ n := by
        have := askP_fates fs' ls (at1 x0 L)
        rw [hR] at this
        have h' : fs2.length ≤ fs'.length - 1 := this
        omega
      obtain ⟨S, hS⟩ : ∃ S, S = r.getD ByteArray.empty := ⟨_, rfl⟩
      obtain ⟨T, hT⟩ : ∃ T, T = r.isSome := ⟨_, rfl⟩
      have hk6 : k < 1000000 := by omega
      have hl6 : ls.length ≤ 100000 := by omega
      have HRA := Lib.hid hR
      have HS := Lib.hid hS
      have HT := Lib.hid hT
      clear hR hS hT
      have hp1 : (0 : Int) < (n3 : Int) := by omega
      go_wp2_with (first
        | (refine wpList_load_row_ rfl 38 (.tmp 48) rfl ad rfl (bv x0) _ (fun j v hj => hx.cell (HLZ.out j v hj)) Try.underlying38 rfl (by rw [id_info, bv_length, HXL0.out]) ?_)
        | (go_at_call 13; (with_reducible refine (ask_told hA.out hk6 hx.size hl6 hP.out HXL0.out HRA.out HS.out HT.out).mono ?_); rintro e w4 ⟨qa', rfl, hA4, ht4, hqa⟩; have hxw4 := ht4.ext hx hA0 hA.out.ge; have hA4 := Lib.hid hA4; have hP4 := Lib.hid (hP.out.two hA.out ht4); clear ht4))
      go_roundw
      case rel => exact ⟨k + 1, fs2, ls2, qa', by omega, by go_num, hlen2, hlen3, hxw4, hA4, hP4⟩
      case measure => simp [intOf]; omega
    · obtain rfl : n = k := by omega
      have hfn : fs' = [] := List.eq_nil_of_length_eq_zero (by omega)
      subst hfn
      go_upto_region 13 with (fail)
      go_loopw [54] (fun i wr => ∃ (k : Nat) (ls : List ByteArray) (qa : Option Nat), k ≤ n3 ∧ i = .int .i64 k ∧ ls.length ≤ n + k ∧ Ext w wr ∧ Hid (NetAt w.heap.size wr na qa [] ls (n + k)) ∧ Hid (PoolAt wr gp bp L)) (fun i _ => n3 - (intOf i).toNat)
      case atStart => exact ⟨0, ls, qa, Nat.zero_le _, rfl, hls, hx, hA, hP⟩
      case round =>
        clear hA hP hx hls hk hlt hfl
        obtain ⟨k, ls, qa, hk, rfl, hls, hx, hA, hP⟩ := hrel
        by_cases hlt : k < n3
        · have hkl : k < xs.length := by rw [N3.out]; exact hlt
          obtain ⟨ad', hade, hlc0⟩ := H3.out.get (i := k) (by simpa using hkl)
          cases hade
          rw [List.getElem_map] at hlc0
          have hxl := I3.out _ (List.getElem_mem hkl)
          obtain ⟨x, hxe⟩ : ∃ x, x = xs[k] := ⟨_, rfl⟩
          rw [← hxe] at hlc0 hxl
          have hlc : ∀ (j : Nat) (v : Value), (bv x)[j]? = some v → wr.cell? ((ad.add (k * 33)).add j) = some v := fun j v hj => hx.cell (hlc0 j v hj)
          have HXL := Lib.hid hxl
          clear hxe hlc0 hxl
          have hp0 : (0 : Int) ≤ (k : Int) := by omega
          have hp1 : (k : Int) < (n3 : Int) := by omega
          go_upto_region 15 with (first
            | (refine wpList_load_row_ rfl 38 (.tmp 56) rfl (ad.add (k * 33)) rfl (bv x) _ hlc Try.underlying38 rfl (by rw [id_info, bv_length, HXL.out]) ?_)
            | (refine wpList_store_blk rfl 38 (.tmp 10) (.tmp 57) rfl rfl wr.heap.size (bv x).toArray rfl rfl _ _ (Blk.new wr _ _) (by rw [List.size_toArray, bv_length, HXL.out]; rfl) (by kernel_rfl) (bv_cells x) ?_; intro w3 hb3 hg3; have hx3 : Ext wr w3 := ((Ext.refl _).alloc _).grown_ hg3 (by simp)))
          obtain ⟨g5, hg5⟩ : ∃ g5, g5 = wr.heap.size := ⟨_, rfl⟩
          rw [← hg5] at hb3 ⊢
          have HI3 := Lib.hid hb3
          clear hlc hg3 hb3 hg5
          have hxw3 := hx.trans hx3
          obtain ⟨S, hS⟩ : ∃ S, S = (at1 x L).getD ByteArray.empty := ⟨_, rfl⟩
          obtain ⟨T, hT⟩ : ∃ T, T = (at1 x L).isSome := ⟨_, rfl⟩
          have hk6 : n + k < 1000000 := by omega
          have hl6 : ls.length ≤ 100000 := by omega
          have hA3 := Lib.hid (hA.out.ext hx3)
          have hP3 := Lib.hid (hP.out.ext hx3)
          have HRA := Lib.hid (askP_nil ls (at1 x L))
          have HRO := Lib.hid (fun (u : World) (hu : Ext w u) => show Calls Try.prog 14 #[.slice A2 n2 c2, .agg (bv x).toArray] u fun e w' => e = .returned (.tuple #[.string S, .bool T]) ∧ Ext u w' from by rw [hS, hT, HL.out]; exact robject_calls os A2 n2 c2 x u (H2.out.ext hu) N2.out hl2 I2'.out HXL.out)
          have HS := Lib.hid hS
          have HT := Lib.hid hT
          have HC3 := Lib.hid (id_cells HI3.out)
          clear hA hP hS hT hx
          go_wp2_with (first
            | (refine wpList_load_row_ rfl 38 (.tmp 10) rfl ⟨g5, 0, none⟩ rfl (bv x) _ HC3.out Try.underlying38 rfl (by rw [id_info, bv_length, HXL.out]) ?_)
            | (refine wpList_load_row_ rfl 38 (.tmp 10) rfl ⟨g5, 0, none⟩ rfl (bv x) _ HC4.out Try.underlying38 rfl (by rw [id_info, bv_length, HXL.out]) ?_)
            | (go_at_call 13; (with_reducible refine (ask_told hA3.out hk6 hxw3.size hl6 hP3.out HXL.out HRA.out HS.out HT.out).mono ?_); rintro e w4 ⟨qa', rfl, hA4, ht4, hqa⟩; have hxw4 := ht4.ext hxw3 hA0 hA3.out.ge; have HC4 := Lib.hid (id_cells (idblk_two HI3.out hA3.out ht4)); have hA4 := Lib.hid hA4; have hP4 := Lib.hid (hP3.out.two hA3.out ht4); clear ht4)
            | (go_at_call 14; (with_reducible refine (HRO.out w4 hxw4).mono ?_); rintro e w5 ⟨rfl, hx5⟩; have hA5 := Lib.hid (hA4.out.ext hx5); have hP5 := Lib.hid (hP4.out.ext hx5); have hxw5 := hxw4.trans hx5))
          go_roundw
          case rel => exact ⟨k + 1, ls, qa', by omega, by go_num, by omega, hxw5, hA5, hP5⟩
          case measure => simp [intOf]; omega
        · obtain rfl : k = n3 := by omega
          go_wp2
          go_ret
          exact ⟨rfl, hx⟩
end Go.Proofs.Ythleaofgodkehaa

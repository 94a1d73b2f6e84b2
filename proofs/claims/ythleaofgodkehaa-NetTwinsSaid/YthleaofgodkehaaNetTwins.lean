/- NetTwins: two nets of the same fates, asked the same, answer the same: the walk of the law. Printed by wip/mknettwins.py. -/
import Derived.Test.YthleaofgodkehaaNetLaw
namespace Go.Proofs.Ythleaofgodkehaa
open Go.RowKit
set_option linter.unusedVariables false

theorem NetAt.lower {B B' n k : Nat} {w : World} {q : Option Nat} {fs : List UInt8} {ls : List ByteArray} (h : NetAt B w n q fs ls k) (hB : B' ≤ B) : NetAt B' w n q fs ls k := by
  obtain ⟨fv, qv, hb, hf, hq⟩ := h
  refine ⟨fv, qv, hb, hf, ?_⟩
  rcases hq with h | ⟨g, off, cap, cur, e1, e2, hg, r⟩
  · exact .inl h
  · exact .inr ⟨g, off, cap, cur, e1, e2, Nat.le_trans hB hg, r⟩
/-- Ask, what comes being told. -/
theorem ask_told {B n : Nat} {q : Option Nat} {fs : List UInt8} {ls : List ByteArray} {k : Nat} {w : World} {gp b : Nat} {L : List Ent1} {x : List UInt8} {fs' : List UInt8} {ls' : List ByteArray} {r : Option ByteArray} {S : ByteArray} {T : Bool}
    (h : NetAt B w n q fs ls k) (hk : k < 1000000) (hB : B ≤ w.heap.size) (hls : ls.length ≤ 1000) (hp : PoolAt w gp b L) (hx : x.length = 33) (hR : askP fs ls (at1 x L) = (fs', ls', r)) (hS : S = r.getD ByteArray.empty) (hT : T = r.isSome) :
    Calls Try.prog 13 #[.pointer (some ⟨n, 0, none⟩), .iface 27 (.pointer (some ⟨gp, 0, none⟩)), .agg (bv x).toArray] w fun e w' => ∃ q', e = .returned (.tuple #[.string S, .bool T]) ∧ NetAt B w' n q' fs' ls' (k + 1) ∧ Two w w' n q ∧ (q' = q ∨ ∃ j, q' = some j ∧ w.heap.size ≤ j) := by
  have h := ask_calls B n q fs ls k w h hk hB hls gp b L hp x hx
  rw [hR] at h
  subst hS hT
  exact h
def Apart (p q : Option Nat) : Prop := ∀ j, p = some j → some j ≠ q
theorem Apart.symm {p q : Option Nat} (h : Apart p q) : Apart q p := fun j hj e => h j e.symm hj.symm
theorem Apart.fresh {w : World} {B n k : Nat} {p q p' : Option Nat} {fs : List UInt8} {ls : List ByteArray} (h : Apart p q) (hq : NetAt B w n q fs ls k) (hp : p' = p ∨ ∃ j, p' = some j ∧ w.heap.size ≤ j) : Apart p' q := by
  intro j hj e
  rcases hp with e1 | ⟨i, e1, l⟩
  · exact h j (by rw [← e1]; exact hj) e
  · rw [e1] at hj
    cases hj
    have := hq.lt.2 j e.symm
    omega
theorem PoolAt.put {w w' : World} {g b g' b' : Nat} {L L' : List Ent1} (h : PoolAt w g b L) (h' : PoolAt w g' b' L') (hb : b ≠ b') (hg : w.grownBy w' (some b')) : PoolAt w' g b L :=
  h.past hg (fun e => h'.map.ne_blk h.blk (Option.some.inj e)) (fun e => hb (Option.some.inj e))
theorem id_cells {w : World} {g : Nat} {x : List UInt8} (h : Blk w g 38 (bv x).toArray) : ∀ (j : Nat) (v : Value), (bv x)[j]? = some v → w.cell? ((⟨g, 0, none⟩ : Addr).add j) = some v := fun j v hv => by
  rw [add_new, h.cell, ← Array.getElem?_toList, List.toList_toArray]
  exact hv
theorem id_head {w : World} {g : Nat} {x : List UInt8} (h : Blk w g 38 (bv x).toArray) (hx : x.length = 33) : w.cell? ⟨g, 0, none⟩ = some (.int .u8 (x.headD 0).toNat) := by
  cases x with
  | nil => cases hx
  | cons a x => rw [h.cell]; rfl
theorem at1_more (x : List UInt8) (L : List Ent1) (s : ByteArray) (hx : (x.headD 0).toNat ≠ 77) : at1 x (putAll [(idK 77, s)] L) = at1 x L := by
  show at1 x (put1 (idK 77) s L) = at1 x L
  rw [at1_put, if_neg]
  intro h
  have e := eq_of_beq h
  rw [e] at hx
  exact hx rfl

set_option maxRecDepth 50000 in
set_option maxHeartbeats 8000000 in
theorem netTwins_calls (A : Option Addr) (n c : Nat) (fs : List UInt8) (A2 : Option Addr) (n2 c2 : Nat) (os : List Ent1) (A3 : Option Addr) (n3 c3 : Nat) (xs : List (List UInt8)) (w : World)
    (h1 : Cells w A (bv fs)) (hn1 : fs.length = n) (hc1 : n ≤ c) (hl1 : n ≤ 140737488351232)
    (h2 : Row w A2 34 (os.map obC)) (hn2 : os.length = n2) (hl2 : n2 ≤ 140737488351232) (hi2 : ∀ p ∈ os, p.1.length = 33 ∧ p.2.size ≤ 140737488351232)
    (h3 : Row w A3 33 (xs.map bv)) (hn3 : xs.length = n3) (hl3 : n3 ≤ 140737488351232) (hi3 : ∀ x ∈ xs, x.length = 33) :
    Calls Try.prog 7 #[.slice A n c, .slice A2 n2 c2, .slice A3 n3 c3] w fun e w' => e = .returned (.bool true) ∧ Ext w w' := by
  have H1 := Lib.hid h1
  have H2 := Lib.hid h2
  have H3 := Lib.hid h3
  have N1 := Lib.hid hn1
  have N2 := Lib.hid hn2
  have N3 := Lib.hid hn3
  have I2 := Lib.hid hi2
  have I3 := Lib.hid hi3
  have hi2' : ∀ p ∈ os, p.1.length = 33 := fun p hp => (hi2 p hp).1
  have I2' := Lib.hid hi2'
  clear h1 h2 h3 hn1 hn2 hn3 hi2 hi3 hi2'
  have d1 : 1 ≤ 140737488351232 := by decide
  have hone : ∀ p ∈ [((idK 77, ⟨#[109, 111, 114, 101]⟩) : Ent1)], p.1.length = 33 := fun p hp => by rw [List.mem_singleton] at hp; subst hp; rfl
  go_enter Try.func7, Try.ntmps7
  by_cases hb1 : (1024 : Int) < (n : Int)
  · go_wp2_with (first
    | (go_at_call 8; (with_reducible refine (net_alive w).mono ?_); rintro e w1 ⟨rfl, hx1⟩)
    | (go_at_call 9; (with_reducible refine (net_great os A2 n2 c2 w1 (H2.out.ext hx1) N2.out hl2 I2.out).mono ?_); rintro e w2 ⟨⟨b, rfl⟩, hx2⟩; cases b))
    all_goals
      go_ret
      exact ⟨rfl, hx1.trans hx2⟩
  by_cases hb2 : (60 : Int) < (n3 : Int)
  · go_wp2_with (first
    | (go_at_call 8; (with_reducible refine (net_alive w).mono ?_); rintro e w1 ⟨rfl, hx1⟩)
    | (go_at_call 9; (with_reducible refine (net_great os A2 n2 c2 w1 (H2.out.ext hx1) N2.out hl2 I2.out).mono ?_); rintro e w2 ⟨⟨b, rfl⟩, hx2⟩; cases b))
    all_goals
      go_ret
      exact ⟨rfl, hx1.trans hx2⟩
  go_upto_region 5 with (first
    | (go_at_call 8; (with_reducible refine (net_alive w).mono ?_); rintro e w1 ⟨rfl, hx1⟩)
    | (go_at_call 9; (with_reducible refine (net_great os A2 n2 c2 w1 (H2.out.ext hx1) N2.out hl2 I2.out).mono ?_); rintro e w2 ⟨⟨b, rfl⟩, hx2⟩; cases b))
  rotate_left
  · go_ret
    exact ⟨rfl, hx1.trans hx2⟩
  have hx02 := hx1.trans hx2
  go_upto_region 11 with (first
    | (go_at_call 10; (with_reducible refine (newPool_calls w2).mono ?_); rintro e w3 ⟨gp, bp, rfl, hgp, hbp, hP3, hx3⟩; have hx03 := hx02.trans hx3)
    | (go_at_call 10; (with_reducible refine (newPool_calls w3).mono ?_); rintro e w4 ⟨gq, bq, rfl, hgq, hbq, hQ4, hx4⟩; have hP4 := hP3.ext hx4; have hx04 := hx03.trans hx4; have hpq : bp ≠ bq := (fun e => by have := hP3.map.lt; omega))
    | (go_at_call 11; (with_reducible refine (put_calls gp bp [] os A2 n2 c2 w4 hP4 (H2.out.ext hx04) N2.out hl2 I2'.out).mono ?_); rintro e w5 ⟨rfl, hP5, hg5⟩; have hx05 : Ext w w5 := hx04.grown_ hg5 (fun k e => by cases e; exact Nat.le_trans hx02.size hbp); have hQ5 := hQ4.put hP4 (Ne.symm hpq) hg5)
    | (go_at_call 11; (with_reducible refine (put_calls gq bq [] os A2 n2 c2 w5 hQ5 (H2.out.ext hx05) N2.out hl2 I2'.out).mono ?_); rintro e w6 ⟨rfl, hQ6, hg6⟩; have hx06 : Ext w w6 := hx05.grown_ hg6 (fun k e => by cases e; exact Nat.le_trans hx03.size hbq); have hP6 := hP5.put hQ5 hpq hg6)
    | (go_at_call 11; have hrow := row_one (o := (idK 77, ⟨#[109, 111, 114, 101]⟩)) (show Blk (w6.alloc (.cells #[.int .u8 77, .int .u8 0, .int .u8 0, .int .u8 0, .int .u8 0, .int .u8 0, .int .u8 0, .int .u8 0, .int .u8 0, .int .u8 0, .int .u8 0, .int .u8 0, .int .u8 0, .int .u8 0, .int .u8 0, .int .u8 0, .int .u8 0, .int .u8 0, .int .u8 0, .int .u8 0, .int .u8 0, .int .u8 0, .int .u8 0, .int .u8 0, .int .u8 0, .int .u8 0, .int .u8 0, .int .u8 0, .int .u8 0, .int .u8 0, .int .u8 0, .int .u8 0, .int .u8 0, .string { data := #[109, 111, 114, 101] }] 46)) _ _ (obC (idK 77, ⟨#[109, 111, 114, 101]⟩)).toArray from Blk.new w6 _ _) rfl; have hx6a := (Ext.refl w6).alloc (.cells #[.int .u8 77, .int .u8 0, .int .u8 0, .int .u8 0, .int .u8 0, .int .u8 0, .int .u8 0, .int .u8 0, .int .u8 0, .int .u8 0, .int .u8 0, .int .u8 0, .int .u8 0, .int .u8 0, .int .u8 0, .int .u8 0, .int .u8 0, .int .u8 0, .int .u8 0, .int .u8 0, .int .u8 0, .int .u8 0, .int .u8 0, .int .u8 0, .int .u8 0, .int .u8 0, .int .u8 0, .int .u8 0, .int .u8 0, .int .u8 0, .int .u8 0, .int .u8 0, .int .u8 0, .string { data := #[109, 111, 114, 101] }] 46); (with_reducible refine (put_calls gq bq _ [(idK 77, ⟨#[109, 111, 114, 101]⟩)] (some ⟨w6.heap.size, 0, none⟩) 1 1 _ (hQ6.ext hx6a) hrow rfl d1 hone).mono ?_); rintro e w7 ⟨rfl, hQ7, hg7⟩; have hx07 : Ext w w7 := (hx06.trans hx6a).grown_ hg7 (fun k e => by cases e; exact Nat.le_trans hx03.size hbq); have hP7 := (hP6.ext hx6a).put (hQ6.ext hx6a) hpq hg7; clear hrow)
    | (go_at_call 12; (with_reducible refine (netNew_calls A n c fs w7 (H1.out.ext hx07) N1.out hc1 hl1).mono ?_); rintro e w8 ⟨na, rfl, hna, hA8, hx8⟩; have hx08 := hx07.trans hx8; have hP8 := hP7.ext hx8; have hQ8 := hQ7.ext hx8)
    | (go_at_call 12; (with_reducible refine (netNew_calls A n c fs w8 (H1.out.ext hx08) N1.out hc1 hl1).mono ?_); rintro e w9 ⟨nb, rfl, hnb, hB9, hx9⟩; have hx09 := hx08.trans hx9; have hP9 := hP8.ext hx9; have hQ9 := hQ8.ext hx9; have hA9 := hA8.ext hx9; have hne : na ≠ nb := (fun e => by have := hA8.lt.1; omega)))
  have hA0 := Nat.le_trans hx07.size hna
  have hB0 := Nat.le_trans hx08.size hnb
  have hA := Lib.hid (hA9.lower hx07.size)
  have hB := Lib.hid (hB9.lower hx08.size)
  have hP := Lib.hid hP9
  have hQ := Lib.hid hQ9
  obtain ⟨L, hL⟩ : ∃ L, L = putAll os [] := ⟨_, rfl⟩
  rw [← hL] at hP hQ
  obtain ⟨L', hL'⟩ : ∃ L', L' = putAll [(idK 77, ⟨#[109, 111, 114, 101]⟩)] L := ⟨_, rfl⟩
  rw [← hL'] at hQ
  have HL := Lib.hid hL'
  clear hL hL' hA9 hB9 hP9 hQ9 hP3 hP4 hP5 hP6 hP7 hP8 hQ4 hQ5 hQ6 hQ7 hQ8 hA8 hg5 hg6 hg7 hx6a
  go_loopw [50] (fun i wr => ∃ (k : Nat) (fs' : List UInt8) (ls : List ByteArray) (qa qb : Option Nat), k ≤ n3 ∧ i = .int .i64 k ∧ ls.length ≤ k ∧ Apart qa qb ∧ Ext w wr ∧ Hid (NetAt w.heap.size wr na qa fs' ls k) ∧ Hid (NetAt w.heap.size wr nb qb fs' ls k) ∧ Hid (PoolAt wr gp bp L) ∧ Hid (PoolAt wr gq bq L')) (fun i _ => n3 - (intOf i).toNat)
  case atStart => exact ⟨0, fs, [], none, none, Nat.zero_le _, rfl, Nat.le_refl _, (fun j hj => by cases hj), hx09, hA, hB, hP, hQ⟩
  case round =>
    clear hA hB hP hQ
    obtain ⟨k, fs', ls, qa, qb, hk, rfl, hls, hap, hx, hA, hB, hP, hQ⟩ := hrel
    by_cases hlt : k < n3
    · have hkl : k < xs.length := by rw [N3.out]; exact hlt
      obtain ⟨ad, rfl, hlc0⟩ := H3.out.get (i := k) (by simpa using hkl)
      rw [List.getElem_map] at hlc0
      have hxl := I3.out _ (List.getElem_mem hkl)
      obtain ⟨x, hxe⟩ : ∃ x, x = xs[k] := ⟨_, rfl⟩
      rw [← hxe] at hlc0 hxl
      have hlc : ∀ (j : Nat) (v : Value), (bv x)[j]? = some v → wr.cell? ((ad.add (k * 33)).add j) = some v := fun j v hj => hx.cell (hlc0 j v hj)
      have HXL := Lib.hid hxl
      clear hxe hlc0 hxl
      have hp0 : (0 : Int) ≤ (k : Int) := by omega
      have hp1 : (k : Int) < (n3 : Int) := by omega
      go_upto_region 13 with (first
        | (refine wpList_load_row_ rfl 38 (.tmp 52) rfl (ad.add (k * 33)) rfl (bv x) _ hlc Try.underlying38 rfl (by rw [id_info, bv_length, HXL.out]) ?_)
        | (refine wpList_store_blk rfl 38 (.tmp 12) (.tmp 53) rfl rfl wr.heap.size (bv x).toArray rfl rfl _ _ (Blk.new wr _ _) (by rw [List.size_toArray, bv_length, HXL.out]; rfl) (by kernel_rfl) (bv_cells x) ?_; intro w3 hb3 hg3; have hx3 : Ext wr w3 := ((Ext.refl _).alloc _).grown_ hg3 (by simp)))
      obtain ⟨g5, hg5⟩ : ∃ g5, g5 = wr.heap.size := ⟨_, rfl⟩
      rw [← hg5] at hb3 ⊢
      have HI3 := Lib.hid hb3
      have hhead := id_head hb3 HXL.out
      clear hlc hg3 hb3 hg5
      have hxw3 := hx.trans hx3
      by_cases h77 : (x.headD 0).toNat = 77
      · rw [h77] at hhead
        go_wp2
        go_ret
        exact ⟨rfl, hxw3⟩
      · have hat : at1 x L' = at1 x L := by rw [HL.out]; exact at1_more x L _ h77
        obtain ⟨b0, hb0⟩ : ∃ b0, b0 = (x.headD 0).toNat := ⟨_, rfl⟩
        rw [← hb0] at hhead h77
        have h77' : ((b0 : Int) == 77) = false := by rw [beq_eq_false_iff_ne]; omega
        clear hb0
        obtain ⟨fs2, ls2, r, hR⟩ : ∃ fs2 ls2 r, askP fs' ls (at1 x L) = (fs2, ls2, r) := ⟨_, _, _, rfl⟩
        have hlen2 : ls2.length ≤ k + 1 := by
          have := askP_len fs' ls (at1 x L)
          rw [hR] at this
          have h' : ls2.length ≤ ls.length + 1 := this
          omega
        obtain ⟨S, hS⟩ : ∃ S, S = r.getD ByteArray.empty := ⟨_, rfl⟩
        obtain ⟨T, hT⟩ : ∃ T, T = r.isSome := ⟨_, rfl⟩
        have hk6 : k < 1000000 := by omega
        have hl6 : ls.length ≤ 1000 := by omega
        have hA3 := Lib.hid (hA.out.ext hx3)
        have hB3 := Lib.hid (hB.out.ext hx3)
        have hP3 := Lib.hid (hP.out.ext hx3)
        have hQ3 := Lib.hid (hQ.out.ext hx3)
        have HRA := Lib.hid hR
        have HRB := Lib.hid (show askP fs' ls (at1 x L') = (fs2, ls2, r) from by rw [hat]; exact hR)
        have HS := Lib.hid hS
        have HT := Lib.hid hT
        have HC3 := Lib.hid (id_cells HI3.out)
        clear hA hB hP hQ hR hS hT hat hx
        have hl2i : ((ls2.length : Int) != (ls2.length : Int)) = false := by simp
        go_upto_region 17 with (first
          | (refine wpList_load_row_ rfl 38 (.tmp 12) rfl ⟨g5, 0, none⟩ rfl (bv x) _ HC3.out Try.underlying38 rfl (by rw [id_info, bv_length, HXL.out]) ?_)
          | (refine wpList_load_row_ rfl 38 (.tmp 12) rfl ⟨g5, 0, none⟩ rfl (bv x) _ HC4.out Try.underlying38 rfl (by rw [id_info, bv_length, HXL.out]) ?_)
          | (go_at_call 13; (with_reducible refine (ask_told hA3.out hk6 hxw3.size hl6 hP3.out HXL.out HRA.out HS.out HT.out).mono ?_); rintro e w4 ⟨qa', rfl, hA4, ht4, hqa⟩; have hxw4 := ht4.ext hxw3 hA0 hA3.out.ge; have HC4 := Lib.hid (id_cells (idblk_two HI3.out hA3.out ht4)); have hA4 := Lib.hid hA4; have hB4 := Lib.hid (hB3.out.two hA3.out ht4 (Ne.symm hne) hap.symm); have hP4 := Lib.hid (hP3.out.two hA3.out ht4); have hQ4 := Lib.hid (hQ3.out.two hA3.out ht4); have hap4 := hap.fresh hB3.out hqa; clear ht4)
          | (go_at_call 13; (with_reducible refine (ask_told hB4.out hk6 hxw4.size hl6 hQ4.out HXL.out HRB.out HS.out HT.out).mono ?_); rintro e w5 ⟨qb', rfl, hB5, ht5, hqb⟩; have hxw5 := ht5.ext hxw4 hB0 hB4.out.ge; have hB5 := Lib.hid hB5; have hA5 := Lib.hid (hA4.out.two hB4.out ht5 hne hap4); have hP5 := Lib.hid (hP4.out.two hB4.out ht5); have hQ5 := Lib.hid (hQ4.out.two hB4.out ht5); have hap5 := (hap4.symm.fresh hA4.out hqb).symm; clear ht5))
        go_wp2_with (first
          | (go_at_call 17; (with_reducible refine (late_calls _ na qa' fs2 ls2 (k + 1) w5 hA5.out).mono ?_); rintro e w6 ⟨rfl, rfl⟩)
          | (go_at_call 17; (with_reducible refine (late_calls _ nb qb' fs2 ls2 (k + 1) w5 hB5.out).mono ?_); rintro e w7 ⟨rfl, rfl⟩))
        go_roundw
        case rel => exact ⟨k + 1, fs2, ls2, qa', qb', by omega, by go_num, hlen2, hap5, hxw5, hA5, hB5, hP5, hQ5⟩
        case measure => simp [intOf]; omega
    · obtain rfl : k = n3 := by omega
      go_wp2
      go_ret
      exact ⟨rfl, hx⟩
end Go.Proofs.Ythleaofgodkehaa

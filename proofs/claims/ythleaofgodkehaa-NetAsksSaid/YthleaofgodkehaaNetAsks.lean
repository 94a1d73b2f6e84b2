/- NetAsks: what comes, how many questions there were, how many answers wait are the reference's: the walk of the law. Printed by wip/mknetasks.py. -/
import Derived.Test.YthleaofgodkehaaRefAll
import Derived.Test.YthleaofgodkehaaRefObj
namespace Go.Proofs.Ythleaofgodkehaa
open Go.RowKit
set_option linter.unusedVariables false

theorem Apart.freshL {w : World} {p q p' : Option Nat} (h : Apart p q) (hq : ∀ j, q = some j → j < w.heap.size) (hp : p' = p ∨ ∃ j, p' = some j ∧ w.heap.size ≤ j) : Apart p' q := by
  intro j hj e
  rcases hp with e1 | ⟨i, e1, l⟩
  · exact h j (by rw [← e1]; exact hj) e
  · rw [e1] at hj
    cases hj
    have := hq j e.symm
    omega
theorem ld_texts {w : World} {p : Addr} {a : Option Addr} {n c : Nat} (h : w.cell? p = some (.slice a n c)) : (Instr.loadAt 33 (.pointer (some p))).run Try.prog w = .ok (.slice a n c) w := by go_simp

set_option maxRecDepth 50000 in
set_option maxHeartbeats 8000000 in
theorem netAsks_calls (A : Option Addr) (n c : Nat) (fs : List UInt8) (A2 : Option Addr) (n2 c2 : Nat) (os : List Ent1) (A3 : Option Addr) (n3 c3 : Nat) (xs : List (List UInt8)) (w : World)
    (h1 : Cells w A (bv fs)) (hn1 : fs.length = n) (hc1 : n ≤ c) (hl1 : n ≤ 140737488351232)
    (h2 : Row w A2 34 (os.map obC)) (hn2 : os.length = n2) (hl2 : n2 ≤ 140737488351232) (hi2 : ∀ p ∈ os, p.1.length = 33 ∧ p.2.size ≤ 140737488351232)
    (h3 : Row w A3 33 (xs.map bv)) (hn3 : xs.length = n3) (hl3 : n3 ≤ 140737488351232) (hi3 : ∀ x ∈ xs, x.length = 33) :
    Calls Try.prog 3 #[.slice A n c, .slice A2 n2 c2, .slice A3 n3 c3] w fun e w' => e = .returned (.bool true) ∧ Ext w w' := by
  have H1 := Lib.hid h1
  have H2 := Lib.hid h2
  have H3 := Lib.hid h3
  have N1 := Lib.hid hn1
  have N2 := Lib.hid hn2
  have N3 := Lib.hid hn3
  have I2 := Lib.hid hi2
  have I3 := Lib.hid hi3
  have hi2' : ∀ p ∈ os, p.1.length = 33 := fun p hp => (hi2 p hp).1
  have I2' := Lib.hid hi2'
  have hsz : ∀ (x : List UInt8) (s : ByteArray), at1 x (putAll os []) = some s → s.size ≤ 140737488351232 := fun x s h => by
    obtain ⟨p, hp, e⟩ := at1_mem x _ s h
    rw [← e]
    exact putAll_size _ os [] (fun p hp => (hi2 p hp).2) (fun p hp => by cases hp) p hp
  have HSZ := Lib.hid hsz
  clear h1 h2 h3 hn1 hn2 hn3 hi2 hi3 hi2' hsz
  have IDN : ∀ (p : Value) (w : World) (Q : Ending → World → Prop), Calls Try.prog 13 #[.pointer none, p, .agg (bv (idK 0)).toArray] w Q → Calls Try.prog 13 #[.pointer none, p, .agg #[.int .u8 0, .int .u8 0, .int .u8 0, .int .u8 0, .int .u8 0, .int .u8 0, .int .u8 0, .int .u8 0, .int .u8 0, .int .u8 0, .int .u8 0, .int .u8 0, .int .u8 0, .int .u8 0, .int .u8 0, .int .u8 0, .int .u8 0, .int .u8 0, .int .u8 0, .int .u8 0, .int .u8 0, .int .u8 0, .int .u8 0, .int .u8 0, .int .u8 0, .int .u8 0, .int .u8 0, .int .u8 0, .int .u8 0, .int .u8 0, .int .u8 0, .int .u8 0, .int .u8 0]] w Q := fun _ _ _ h => h
  have IDP : ∀ (n : Nat) (w : World) (Q : Ending → World → Prop), Calls Try.prog 13 #[.pointer (some ⟨n, 0, none⟩), .nilIface, .agg (bv (idK 0)).toArray] w Q → Calls Try.prog 13 #[.pointer (some ⟨n, 0, none⟩), .nilIface, .agg #[.int .u8 0, .int .u8 0, .int .u8 0, .int .u8 0, .int .u8 0, .int .u8 0, .int .u8 0, .int .u8 0, .int .u8 0, .int .u8 0, .int .u8 0, .int .u8 0, .int .u8 0, .int .u8 0, .int .u8 0, .int .u8 0, .int .u8 0, .int .u8 0, .int .u8 0, .int .u8 0, .int .u8 0, .int .u8 0, .int .u8 0, .int .u8 0, .int .u8 0, .int .u8 0, .int .u8 0, .int .u8 0, .int .u8 0, .int .u8 0, .int .u8 0, .int .u8 0, .int .u8 0]] w Q := fun _ _ _ h => h
  go_enter Try.func3, Try.ntmps3
  by_cases hb1 : (1024 : Int) < (n : Int)
  · go_wp2_with (first
    | (go_at_call 8; (with_reducible refine (net_alive w).mono ?_); rintro e w1 ⟨rfl, hx1⟩)
    | (go_at_call 9; (with_reducible refine (net_great os A2 n2 c2 w1 (H2.out.ext hx1) N2.out hl2 I2.out).mono ?_); rintro e w2 ⟨⟨b, rfl⟩, hx2⟩; cases b))
    all_goals
      go_ret
      exact ⟨rfl, hx1.trans hx2⟩
  by_cases hb2 : (60 : Int) < (n3 : Int)
  · go_wp2_with (first
    | (go_at_call 8; (with_reducible refine (net_alive w).mono ?_); rintro e w1 ⟨rfl, hx1⟩)
    | (go_at_call 9; (with_reducible refine (net_great os A2 n2 c2 w1 (H2.out.ext hx1) N2.out hl2 I2.out).mono ?_); rintro e w2 ⟨⟨b, rfl⟩, hx2⟩; cases b))
    all_goals
      go_ret
      exact ⟨rfl, hx1.trans hx2⟩
  go_upto_region 5 with (first
    | (go_at_call 8; (with_reducible refine (net_alive w).mono ?_); rintro e w1 ⟨rfl, hx1⟩)
    | (go_at_call 9; (with_reducible refine (net_great os A2 n2 c2 w1 (H2.out.ext hx1) N2.out hl2 I2.out).mono ?_); rintro e w2 ⟨⟨b, rfl⟩, hx2⟩; cases b))
  rotate_left
  · go_ret
    exact ⟨rfl, hx1.trans hx2⟩
  have hx02 := hx1.trans hx2
  go_upto_region 10 with (first
    | (go_at_call 10; (with_reducible refine (newPool_calls w2).mono ?_); rintro e w3 ⟨gp, bp, rfl, hgp, hbp, hP3, hx3⟩; have hx03 := hx02.trans hx3)
    | (go_at_call 11; (with_reducible refine (put_calls gp bp [] os A2 n2 c2 w3 hP3 (H2.out.ext hx03) N2.out hl2 I2'.out).mono ?_); rintro e w5 ⟨rfl, hP5, hg5⟩; have hx05 : Ext w w5 := hx03.grown_ hg5 (fun k e => by cases e; exact Nat.le_trans hx02.size hbp))
    | (go_at_call 12; (with_reducible refine (netNew_calls A n c fs w5 (H1.out.ext hx05) N1.out hc1 hl1).mono ?_); rintro e w8 ⟨na, rfl, hna, hA8, hx8⟩; have hx08 := hx05.trans hx8; have hP8 := hP5.ext hx8)
    | (at_builtin; refine wpList_append_u8 _ rfl (.tmp 43) (.tmp 44) rfl w.heap.size (.slice (some ⟨w8.heap.size, 0, none⟩) 0 0) [] rfl (Own.lit [] #[] rfl hx08.size (by simp only [maxLen, List.length_nil]; omega)) A n c fs rfl N1.out (H1.out.ext (hx08.alloc (.cells #[] 5))) (by simp only [List.length_nil]; omega) (hx08.alloc (.cells #[] 5)).size ?_; intro v9 w9 hown hg9 _; rw [List.nil_append] at hown; have hx9 : Ext w8 w9 := ((Ext.refl w8).alloc (.cells #[] 5)).grown_ hg9 (fun j e => by cases e; exact Nat.le_refl _); have hF9 := Fates.of_own hown; obtain ⟨A9, c9, hv9, _⟩ := hown.form; subst hv9; rw [N1.out] at hF9 ⊢; clear hg9 hown))
  obtain ⟨w10, hw10⟩ : ∃ w10, w10 = w9.alloc (.cells #[.slice A9 n c9, .slice none 0 0, .int .i64 0] 35) := ⟨_, rfl⟩
  rw [← hw10]
  have hx10 : Ext w9 w10 := by rw [hw10]; exact (Ext.refl _).alloc _
  have hm10 : Blk w10 w9.heap.size 35 #[.slice A9 n c9, .slice none 0 0, .int .i64 0] := by rw [hw10]; exact Blk.new w9 _ _
  obtain ⟨m, hm⟩ : ∃ m, m = w9.heap.size := ⟨_, rfl⟩
  rw [← hm] at hm10 ⊢
  have hM0 : w.heap.size ≤ m := by rw [hm]; exact Nat.le_trans hx08.size hx9.size
  have hR10 : RNetAt w.heap.size w10 m none fs [] 0 := ⟨_, none, 0, hm10, hF9.ext hx10, World.ownsRow_nil w10 _ _ 1, rfl⟩
  have hA0 := Nat.le_trans hx05.size hna
  have hx810 := hx9.trans hx10
  have hx010 := hx08.trans hx810
  have hA := Lib.hid ((hA8.lower hx05.size).ext hx810)
  have hP := Lib.hid (hP8.ext hx810)
  have hM := Lib.hid hR10
  obtain ⟨L, hL⟩ : ∃ L, L = putAll os [] := ⟨_, rfl⟩
  rw [← hL] at hP HSZ
  have HL := Lib.hid hL
  clear hL hP3 hP5 hP8 hA8 hg5 hw10 hm10 hm hF9 hR10
  go_loopw [50] (fun i wr => ∃ (k : Nat) (fs' : List UInt8) (ls : List ByteArray) (qa rm : Option Nat), k ≤ n3 ∧ i = .int .i64 k ∧ ls.length ≤ k ∧ Apart qa rm ∧ Ext w wr ∧ Hid (NetAt w.heap.size wr na qa fs' ls k) ∧ Hid (RNetAt w.heap.size wr m rm fs' ls k) ∧ Hid (PoolAt wr gp bp L)) (fun i _ => n3 - (intOf i).toNat)
  case atStart => exact ⟨0, fs, [], none, none, Nat.zero_le _, rfl, Nat.le_refl _, (fun j hj => by cases hj), hx010, hA, hM, hP⟩
  case round =>
    clear hA hP hM
    obtain ⟨k, fs', ls, qa, rm, hk, rfl, hls, hap, hx, hA, hM, hP⟩ := hrel
    by_cases hlt : k < n3
    · have hkl : k < xs.length := by rw [N3.out]; exact hlt
      obtain ⟨ad, rfl, hlc0⟩ := H3.out.get (i := k) (by simpa using hkl)
      rw [List.getElem_map] at hlc0
      have hxl := I3.out _ (List.getElem_mem hkl)
      obtain ⟨x, hxe⟩ : ∃ x, x = xs[k] := ⟨_, rfl⟩
      rw [← hxe] at hlc0 hxl
      have hlc : ∀ (j : Nat) (v : Value), (bv x)[j]? = some v → wr.cell? ((ad.add (k * 33)).add j) = some v := fun j v hj => hx.cell (hlc0 j v hj)
      have HXL := Lib.hid hxl
      clear hxe hlc0 hxl
      have hp0 : (0 : Int) ≤ (k : Int) := by omega
      have hp1 : (k : Int) < (n3 : Int) := by omega
      go_upto_region 12 with (first
        | (refine wpList_load_row_ rfl 38 (.tmp 52) rfl (ad.add (k * 33)) rfl (bv x) _ hlc Try.underlying38 rfl (by rw [id_info, bv_length, HXL.out]) ?_)
        | (refine wpList_store_blk rfl 38 (.tmp 11) (.tmp 53) rfl rfl wr.heap.size (bv x).toArray rfl rfl _ _ (Blk.new wr _ _) (by rw [List.size_toArray, bv_length, HXL.out]; rfl) (by kernel_rfl) (bv_cells x) ?_; intro w3 hb3 hg3; have hx3 : Ext wr w3 := ((Ext.refl _).alloc _).grown_ hg3 (by simp)))
      obtain ⟨g5, hg5⟩ : ∃ g5, g5 = wr.heap.size := ⟨_, rfl⟩
      rw [← hg5] at hb3 ⊢
      have HI3 := Lib.hid hb3
      clear hlc hg3 hb3 hg5
      have hxw3 := hx.trans hx3
      obtain ⟨fs2, ls2, r, hR⟩ : ∃ fs2 ls2 r, askP fs' ls (at1 x L) = (fs2, ls2, r) := ⟨_, _, _, rfl⟩
      have hlen2 : ls2.length ≤ k + 1 := by
        have := askP_len fs' ls (at1 x L)
        rw [hR] at this
        have h' : ls2.length ≤ ls.length + 1 := this
        omega
      obtain ⟨S, hS⟩ : ∃ S, S = r.getD ByteArray.empty := ⟨_, rfl⟩
      obtain ⟨T, hT⟩ : ∃ T, T = r.isSome := ⟨_, rfl⟩
      obtain ⟨D, hD⟩ : ∃ D, D = (at1 x L).getD ByteArray.empty := ⟨_, rfl⟩
      obtain ⟨E, hE⟩ : ∃ E, E = (at1 x L).isSome := ⟨_, rfl⟩
      have hk6 : k < 1000000 := by omega
      have hl6 : ls.length ≤ 100000 := by omega
      have hA3 := Lib.hid (hA.out.ext hx3)
      have hM3 := Lib.hid (hM.out.ext hx3)
      have hP3 := Lib.hid (hP.out.ext hx3)
      have HRA := Lib.hid hR
      have HRO := Lib.hid (fun (u : World) (hu : Ext w u) => show Calls Try.prog 14 #[.slice A2 n2 c2, .agg (bv x).toArray] u fun e w' => e = .returned (.tuple #[.string D, .bool E]) ∧ Ext u w' from by rw [hD, hE, HL.out]; exact robject_calls os A2 n2 c2 x u (H2.out.ext hu) N2.out hl2 I2'.out HXL.out)
      have HS := Lib.hid hS
      have HT := Lib.hid hT
      have HD := Lib.hid hD
      have HE := Lib.hid hE
      have HC3 := Lib.hid (id_cells HI3.out)
      clear hA hP hM hS hT hD hE hR hx
      go_upto_region 15 with (first
        | (refine wpList_load_row_ rfl 38 (.tmp 11) rfl ⟨g5, 0, none⟩ rfl (bv x) _ HC3.out Try.underlying38 rfl (by rw [id_info, bv_length, HXL.out]) ?_)
        | (refine wpList_load_row_ rfl 38 (.tmp 11) rfl ⟨g5, 0, none⟩ rfl (bv x) _ HC4.out Try.underlying38 rfl (by rw [id_info, bv_length, HXL.out]) ?_)
        | (go_at_call 13; (with_reducible refine (ask_told hA3.out hk6 hxw3.size hl6 hP3.out HXL.out HRA.out HS.out HT.out).mono ?_); rintro e w4 ⟨qa', rfl, hA4, ht4, hqa⟩; have hxw4 := ht4.ext hxw3 hA0 hA3.out.ge; have HC4 := Lib.hid (id_cells (idblk_two HI3.out hA3.out ht4)); have hA4 := Lib.hid hA4; have hP4 := Lib.hid (hP3.out.two hA3.out ht4); have hM4 := Lib.hid (hM3.out.two hA3.out ht4 hap.symm); have hap4 := hap.freshL hM3.out.lt.2 hqa; clear ht4)
        | (go_at_call 14; (with_reducible refine (HRO.out w4 hxw4).mono ?_); rintro e w5 ⟨rfl, hx5⟩; have hA5 := Lib.hid (hA4.out.ext hx5); have hP5 := Lib.hid (hP4.out.ext hx5); have hM5 := Lib.hid (hM4.out.ext hx5); have hxw5 := hxw4.trans hx5)
        | (go_at_call 15; (with_reducible refine (rask_told hM5.out hk6 hxw5.size hl6 (HSZ.out x) HD.out HE.out HRA.out HS.out HT.out).mono ?_); rintro e w6 ⟨rm', rfl, hM6, hg6, hrm⟩; have hxw6 := hxw5.grown_ hg6 (fun j e => by cases e; exact hM0); have hA6 := Lib.hid (hA5.out.rgrown hM5.out hg6); have hP6 := Lib.hid (hP5.out.rgrown hM5.out hg6); have hM6 := Lib.hid hM6; have hap6 := (hap4.symm.freshL hA5.out.lt.2 hrm).symm; clear hg6))
      obtain ⟨fv6, A6, c6, hb6, _, _, _⟩ := id hM6.out
      have HB6 := Lib.hid hb6
      clear hb6
      refine wp_region_ops (FInv [75, 76, 77, 78, 79, 80, 81, 82, 83, 84, 85, 86, 87, 88, 89, 90, 91, 92, 93, 94, 95, 96, 97, 98, 99, 100, 101] _ w6.drew [⟨0, none, 75, .val (.string S)⟩, ⟨1, none, 76, .val (.string S)⟩, ⟨2, none, 77, .val (.bool false)⟩, ⟨3, none, 78, .val (.bool false)⟩, ⟨4, none, 79, .val (.bool T)⟩, ⟨5, none, 80, .val (.bool T)⟩, ⟨6, none, 81, .val (.bool false)⟩, ⟨7, none, 82, .val (.bool false)⟩, ⟨8, none, 83, .val (.bool false)⟩, ⟨9, none, 84, .val (.pointer (some ⟨na, 0, none⟩))⟩, ⟨10, none, 85, .val (.int .i64 ((k + 1 : Nat) : Int))⟩, ⟨11, none, 86, .val (.pointer (some ⟨m, 0, none⟩))⟩, ⟨12, none, 87, .val (.pointer (some ⟨m, 0, none⟩))⟩, ⟨13, none, 88, .val (.pointer (some ⟨m, 2, none⟩))⟩, ⟨14, none, 89, .val (.int .i64 ((k + 1 : Nat) : Int))⟩, ⟨15, none, 90, .val (.bool false)⟩, ⟨16, none, 91, .val (.bool false)⟩, ⟨17, none, 92, .val (.bool false)⟩, ⟨18, none, 93, .val (.pointer (some ⟨na, 0, none⟩))⟩, ⟨19, none, 94, .val (.int .i64 (ls2.length : Int))⟩, ⟨20, none, 95, .val (.pointer (some ⟨m, 0, none⟩))⟩, ⟨21, none, 96, .val (.pointer (some ⟨m, 0, none⟩))⟩, ⟨22, none, 97, .val (.pointer (some ⟨m, 1, none⟩))⟩, ⟨23, none, 98, .val (.slice A6 ls2.length c6)⟩, ⟨24, none, 99, .val (.int .i64 (ls2.length : Int))⟩, ⟨25, none, 100, .val (.bool false)⟩, ⟨26, none, 101, .val (.bool false)⟩]) (by kernel_rfl) (by kernel_rfl) FInv.start ?_ ?_
      · refine ⟨?o0, ?o1, ?o2, ?o3, ?o4, ?o5, ?o6, ?o7, ?o8, ?o9, ?o10, ?o11, ?o12, ?o13, ?o14, ?o15, ?o16, ?o17, ?o18, ?o19, ?o20, ?o21, ?o22, ?o23, ?o24, ?o25, ?o26, trivial⟩
        case o0 =>
          intro f a u h hfi hp hq
          have q12 : a.tmps[12]?.getD undef = .string S := h.agree.att (by decide)
          exact h.yieldG rfl (wanted_none rfl) 75 rfl (by change 75 < 140; decide) rfl _ rfl (by go_simp)
        case o1 =>
          intro f a u h hfi hp hq
          have q16 : a.tmps[16]?.getD undef = .string S := h.agree.att (by decide)
          exact h.yieldG rfl (wanted_none rfl) 76 rfl (by change 76 < 140; decide) rfl _ rfl (by go_simp)
        case o2 =>
          intro f a u h hfi hp hq
          have q75 := h.att 0 rfl (pre_of hp 0 rfl)
          have q76 := h.att 1 rfl (pre_of hp 1 rfl)
          exact h.yieldG rfl (wanted_none rfl) 77 rfl (by change 77 < 140; decide) rfl _ rfl (by go_simp)
        case o3 =>
          intro f a u h hfi hp hq
          have q77 := h.att 2 rfl (pre_of hp 2 rfl)
          exact h.yieldG rfl (wanted_none rfl) 78 rfl (by change 78 < 140; decide) rfl _ rfl (by go_simp)
        case o4 =>
          intro f a u h hfi hp hq
          have q13 : a.tmps[13]?.getD undef = .bool T := h.agree.att (by decide)
          exact h.yieldG rfl (wanted_yes (g := 3) (d' := 78) rfl rfl (h.at_ 3 rfl (pre_of hp 3 rfl))) 79 rfl (by change 79 < 140; decide) rfl _ rfl (by go_simp)
        case o5 =>
          intro f a u h hfi hp hq
          have q17 : a.tmps[17]?.getD undef = .bool T := h.agree.att (by decide)
          exact h.yieldG rfl (wanted_yes (g := 3) (d' := 78) rfl rfl (h.at_ 3 rfl (pre_of hp 3 rfl))) 80 rfl (by change 80 < 140; decide) rfl _ rfl (by go_simp)
        case o6 =>
          intro f a u h hfi hp hq
          have q79 := h.att 4 rfl (pre_of hp 4 rfl)
          have q80 := h.att 5 rfl (pre_of hp 5 rfl)
          exact h.yieldG rfl (wanted_yes (g := 3) (d' := 78) rfl rfl (h.at_ 3 rfl (pre_of hp 3 rfl))) 81 rfl (by change 81 < 140; decide) rfl _ rfl (by go_simp)
        case o7 =>
          intro f a u h hfi hp hq
          have q78 := h.att 3 rfl (pre_of hp 3 rfl)
          have q81 := h.att 6 rfl (pre_of hp 6 rfl)
          exact h.yieldG rfl (wanted_none rfl) 82 rfl (by change 82 < 140; decide) rfl _ rfl (by go_simp)
        case o8 =>
          intro f a u h hfi hp hq
          have q82 := h.att 7 rfl (pre_of hp 7 rfl)
          exact h.yieldG rfl (wanted_none rfl) 83 rfl (by change 83 < 140; decide) rfl _ rfl (by go_simp)
        case o9 =>
          intro f a u h hfi hp hq
          have q8 : a.tmps[8]?.getD undef = .pointer (some ⟨na, 0, none⟩) := h.agree.att (by decide)
          exact h.yieldG rfl (wanted_yes (g := 8) (d' := 83) rfl rfl (h.at_ 8 rfl (pre_of hp 8 rfl))) 84 rfl (by change 84 < 140; decide) rfl _ rfl (by go_simp)
        case o10 =>
          intro f a u h hfi hp hq
          have hyu : Ext w6 u := ((Ext.refl w6).drew).trans h.ext
          exact h.callG rfl (wanted_yes (g := 8) (d' := 83) rfl rfl (h.at_ 8 rfl (pre_of hp 8 rfl))) 85 rfl (by change 85 < 140; decide) rfl _ rfl 16 #[.tmp 84] #[30] _ rfl (by kernel_rfl) (by rw [arr1, h.at_ 9 rfl (pre_of hp 9 rfl)]) ((asked_calls _ na qa' fs2 ls2 (k + 1) u (hA6.out.ext hyu)).mono (fun e w' h => ⟨h.1, h.2 ▸ Ext.refl _⟩))
        case o11 =>
          intro f a u h hfi hp hq
          have q9 : a.tmps[9]?.getD undef = .pointer (some ⟨m, 0, none⟩) := h.agree.att (by decide)
          exact h.yieldG rfl (wanted_yes (g := 8) (d' := 83) rfl rfl (h.at_ 8 rfl (pre_of hp 8 rfl))) 86 rfl (by change 86 < 140; decide) rfl _ rfl (by go_simp)
        case o12 =>
          intro f a u h hfi hp hq
          have q86 := h.att 11 rfl (pre_of hp 11 rfl)
          exact h.yieldG rfl (wanted_yes (g := 8) (d' := 83) rfl rfl (h.at_ 8 rfl (pre_of hp 8 rfl))) 87 rfl (by change 87 < 140; decide) rfl _ rfl (by go_simp)
        case o13 =>
          intro f a u h hfi hp hq
          have q87 := h.att 12 rfl (pre_of hp 12 rfl)
          exact h.yieldG rfl (wanted_yes (g := 8) (d' := 83) rfl rfl (h.at_ 8 rfl (pre_of hp 8 rfl))) 88 rfl (by change 88 < 140; decide) rfl _ rfl (by go_simp)
        case o14 =>
          intro f a u h hfi hp hq
          have hyu : Ext w6 u := ((Ext.refl w6).drew).trans h.ext
          have hcu : u.cell? ⟨m, 2, none⟩ = some (.int .i64 ((k + 1 : Nat) : Int)) := by rw [(HB6.out.ext hyu).cell]; rfl
          have q88 := h.att 13 rfl (pre_of hp 13 rfl)
          exact h.yieldG rfl (wanted_yes (g := 8) (d' := 83) rfl rfl (h.at_ 8 rfl (pre_of hp 8 rfl))) 89 rfl (by change 89 < 140; decide) rfl _ rfl (by go_simp)
        case o15 =>
          intro f a u h hfi hp hq
          have q85 := h.att 10 rfl (pre_of hp 10 rfl)
          have q89 := h.att 14 rfl (pre_of hp 14 rfl)
          exact h.yieldG rfl (wanted_yes (g := 8) (d' := 83) rfl rfl (h.at_ 8 rfl (pre_of hp 8 rfl))) 90 rfl (by change 90 < 140; decide) rfl _ rfl (by go_simp)
        case o16 =>
          intro f a u h hfi hp hq
          have q83 := h.att 8 rfl (pre_of hp 8 rfl)
          have q90 := h.att 15 rfl (pre_of hp 15 rfl)
          exact h.yieldG rfl (wanted_none rfl) 91 rfl (by change 91 < 140; decide) rfl _ rfl (by go_simp)
        case o17 =>
          intro f a u h hfi hp hq
          have q91 := h.att 16 rfl (pre_of hp 16 rfl)
          exact h.yieldG rfl (wanted_none rfl) 92 rfl (by change 92 < 140; decide) rfl _ rfl (by go_simp)
        case o18 =>
          intro f a u h hfi hp hq
          have q8 : a.tmps[8]?.getD undef = .pointer (some ⟨na, 0, none⟩) := h.agree.att (by decide)
          exact h.yieldG rfl (wanted_yes (g := 17) (d' := 92) rfl rfl (h.at_ 17 rfl (pre_of hp 17 rfl))) 93 rfl (by change 93 < 140; decide) rfl _ rfl (by go_simp)
        case o19 =>
          intro f a u h hfi hp hq
          have hyu : Ext w6 u := ((Ext.refl w6).drew).trans h.ext
          exact h.callG rfl (wanted_yes (g := 17) (d' := 92) rfl rfl (h.at_ 17 rfl (pre_of hp 17 rfl))) 94 rfl (by change 94 < 140; decide) rfl _ rfl 17 #[.tmp 93] #[30] _ rfl (by kernel_rfl) (by rw [arr1, h.at_ 18 rfl (pre_of hp 18 rfl)]) ((late_calls _ na qa' fs2 ls2 (k + 1) u (hA6.out.ext hyu)).mono (fun e w' h => ⟨h.1, h.2 ▸ Ext.refl _⟩))
        case o20 =>
          intro f a u h hfi hp hq
          have q9 : a.tmps[9]?.getD undef = .pointer (some ⟨m, 0, none⟩) := h.agree.att (by decide)
          exact h.yieldG rfl (wanted_yes (g := 17) (d' := 92) rfl rfl (h.at_ 17 rfl (pre_of hp 17 rfl))) 95 rfl (by change 95 < 140; decide) rfl _ rfl (by go_simp)
        case o21 =>
          intro f a u h hfi hp hq
          have q95 := h.att 20 rfl (pre_of hp 20 rfl)
          exact h.yieldG rfl (wanted_yes (g := 17) (d' := 92) rfl rfl (h.at_ 17 rfl (pre_of hp 17 rfl))) 96 rfl (by change 96 < 140; decide) rfl _ rfl (by go_simp)
        case o22 =>
          intro f a u h hfi hp hq
          have q96 := h.att 21 rfl (pre_of hp 21 rfl)
          exact h.yieldG rfl (wanted_yes (g := 17) (d' := 92) rfl rfl (h.at_ 17 rfl (pre_of hp 17 rfl))) 97 rfl (by change 97 < 140; decide) rfl _ rfl (by go_simp)
        case o23 =>
          intro f a u h hfi hp hq
          have hyu : Ext w6 u := ((Ext.refl w6).drew).trans h.ext
          exact h.yieldG rfl (wanted_yes (g := 17) (d' := 92) rfl rfl (h.at_ 17 rfl (pre_of hp 17 rfl))) 98 rfl (by change 98 < 140; decide) rfl _ rfl (run_of_sem rfl (by rw [h.at_ 22 rfl (pre_of hp 22 rfl)]; exact ld_texts (show u.cell? ⟨m, 1, none⟩ = some (.slice A6 ls2.length c6) from by rw [(HB6.out.ext hyu).cell]; rfl)))
        case o24 =>
          intro f a u h hfi hp hq
          have q98 := h.att 23 rfl (pre_of hp 23 rfl)
          exact h.yieldG rfl (wanted_yes (g := 17) (d' := 92) rfl rfl (h.at_ 17 rfl (pre_of hp 17 rfl))) 99 rfl (by change 99 < 140; decide) rfl _ rfl (by go_simp)
        case o25 =>
          intro f a u h hfi hp hq
          have q94 := h.att 19 rfl (pre_of hp 19 rfl)
          have q99 := h.att 24 rfl (pre_of hp 24 rfl)
          exact h.yieldG rfl (wanted_yes (g := 17) (d' := 92) rfl rfl (h.at_ 17 rfl (pre_of hp 17 rfl))) 100 rfl (by change 100 < 140; decide) rfl _ rfl (by go_simp)
        case o26 =>
          intro f a u h hfi hp hq
          have q92 := h.att 17 rfl (pre_of hp 17 rfl)
          have q100 := h.att 25 rfl (pre_of hp 25 rfl)
          exact h.yieldG rfl (wanted_none rfl) 101 rfl (by change 101 < 140; decide) rfl _ rfl (by go_simp)
      · intro f a u h hall hfar
        have hyu : Ext w6 u := ((Ext.refl w6).drew).trans h.ext
        have e101 := h.at_ 26 rfl (hall 26 (by decide))
        have hag := h.agree.out
        simp only [List.foldl_cons, List.foldl_nil, Act.put, List.setIfInBounds_toArray, List.set_cons_zero, List.set_cons_succ, e101] at hag
        generalize a.eval (.tmp 75) = y75 at hag
        generalize a.eval (.tmp 76) = y76 at hag
        generalize a.eval (.tmp 77) = y77 at hag
        generalize a.eval (.tmp 78) = y78 at hag
        generalize a.eval (.tmp 79) = y79 at hag
        generalize a.eval (.tmp 80) = y80 at hag
        generalize a.eval (.tmp 81) = y81 at hag
        generalize a.eval (.tmp 82) = y82 at hag
        generalize a.eval (.tmp 83) = y83 at hag
        generalize a.eval (.tmp 84) = y84 at hag
        generalize a.eval (.tmp 85) = y85 at hag
        generalize a.eval (.tmp 86) = y86 at hag
        generalize a.eval (.tmp 87) = y87 at hag
        generalize a.eval (.tmp 88) = y88 at hag
        generalize a.eval (.tmp 89) = y89 at hag
        generalize a.eval (.tmp 90) = y90 at hag
        generalize a.eval (.tmp 91) = y91 at hag
        generalize a.eval (.tmp 92) = y92 at hag
        generalize a.eval (.tmp 93) = y93 at hag
        generalize a.eval (.tmp 94) = y94 at hag
        generalize a.eval (.tmp 95) = y95 at hag
        generalize a.eval (.tmp 96) = y96 at hag
        generalize a.eval (.tmp 97) = y97 at hag
        generalize a.eval (.tmp 98) = y98 at hag
        generalize a.eval (.tmp 99) = y99 at hag
        generalize a.eval (.tmp 100) = y100 at hag
        clear h hall hfar e101
        subst hag
        go_wp2
        go_roundw
        case rel => exact ⟨k + 1, fs2, ls2, qa', rm', by omega, by go_num, hlen2, hap6, hxw6.trans hyu, Lib.hid (hA6.out.ext hyu), Lib.hid (hM6.out.ext hyu), Lib.hid (hP6.out.ext hyu)⟩
        case measure => simp [intOf]; omega
    · obtain rfl : k = n3 := by omega
      go_wp2_with (first
        | (go_at_call 13; (with_reducible refine IDN _ _ _ (Calls.mono (ask_nil (.iface 27 (.pointer (some ⟨gp, 0, none⟩))) (idK 0) wr) ?_)); rintro e w11 ⟨he, hx11⟩; obtain rfl : e = .returned (.tuple #[.string ByteArray.empty, .bool false]) := he)
        | (go_at_call 13; (with_reducible refine IDP _ _ _ (Calls.mono (ask_nopeer na (idK 0) w11) ?_)); rintro e w12 ⟨he, hx12⟩; obtain rfl : e = .returned (.tuple #[.string ByteArray.empty, .bool false]) := he; have hA12 := Lib.hid (hA.out.ext (hx11.trans hx12)))
        | (go_at_call 16; (with_reducible refine (asked_nil w12).mono ?_); rintro e w13 ⟨rfl, rfl⟩)
        | (go_at_call 17; (with_reducible refine (late_nil w12).mono ?_); rintro e w14 ⟨rfl, rfl⟩)
        | (go_at_call 16; (with_reducible refine (asked_calls _ na qa fs' ls _ w12 hA12.out).mono ?_); rintro e w15 ⟨rfl, rfl⟩))
      go_ret
      exact ⟨rfl, hx.trans (hx11.trans hx12)⟩
end Go.Proofs.Ythleaofgodkehaa

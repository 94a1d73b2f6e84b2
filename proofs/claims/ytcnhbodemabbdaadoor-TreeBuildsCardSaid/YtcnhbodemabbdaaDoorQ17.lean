/- The walks of package ident: Size, Good. -/
import Derived.Test.YtcnhbodemabbdaaDoorQ10
import Derived.Test.YtcnhbodemabbdaaDoorQ13
import Derived.Deep.MidRow
import Derived.Test.YtcnhbodemabbdaaDoorQ15
import Derived.Test.YtcnhbodemabbdaaDoorQ16
import Derived.Lib.BufferWrite
namespace Go.Proofs.YtcnhbodemabbdaaDoor
open Go.RowKit
set_option linter.unusedVariables false

theorem u8_eq_one {k : UInt8} : ((k.toNat : Int) == 1) = decide (k = 1) := by
  by_cases h : k = 1
  · subst h; rfl
  · rw [decide_eq_false h, beq_eq_false_iff_ne]
    intro e
    apply h
    apply UInt8.toNat_inj.1
    have : k.toNat = 1 := by omega
    exact this
theorem u8_eq_two {k : UInt8} : ((k.toNat : Int) == 2) = decide (k = 2) := by
  by_cases h : k = 2
  · subst h; rfl
  · rw [decide_eq_false h, beq_eq_false_iff_ne]
    intro e
    apply h
    apply UInt8.toNat_inj.1
    have : k.toNat = 2 := by omega
    exact this
theorem size_calls (k : UInt8) (w : World) : Calls Tryd.prog 34 #[.int .u8 k.toNat] w fun e w' => e = .returned (.int .i64 (idN k)) ∧ w = w' := by
  have e1 := u8_eq_one (k := k)
  have e2 := u8_eq_two (k := k)
  by_cases h1 : k = 1
  · subst h1
    go_enter Tryd.func34, Tryd.ntmps34
    go_wp2
    go_ret
    exact ⟨rfl, rfl⟩
  rw [decide_eq_false h1] at e1
  by_cases h2 : k = 2
  · subst h2
    go_enter Tryd.func34, Tryd.ntmps34
    go_wp2
    go_ret
    exact ⟨rfl, rfl⟩
  rw [decide_eq_false h2] at e2
  rw [idN_other h1 h2]
  go_enter Tryd.func34, Tryd.ntmps34
  go_wp2
  go_ret
  exact ⟨rfl, rfl⟩
theorem rsize_calls (k : UInt8) (w : World) : Calls Tryd.prog 86 #[.int .u8 k.toNat] w fun e w' => e = .returned (.int .i64 (idN k)) ∧ w = w' := by
  have e1 := u8_eq_one (k := k)
  have e2 := u8_eq_two (k := k)
  by_cases h1 : k = 1
  · subst h1
    go_enter Tryd.func86, Tryd.ntmps86
    go_wp2
    go_ret
    exact ⟨rfl, rfl⟩
  rw [decide_eq_false h1] at e1
  by_cases h2 : k = 2
  · subst h2
    go_enter Tryd.func86, Tryd.ntmps86
    go_wp2
    go_ret
    exact ⟨rfl, rfl⟩
  rw [decide_eq_false h2] at e2
  rw [idN_other h1 h2]
  go_enter Tryd.func86, Tryd.ntmps86
  go_wp2
  go_ret
  exact ⟨rfl, rfl⟩

theorem Blk.byte {w : World} {g : Nat} {t : TypeId} {b : List UInt8} (h : Blk w g t (bv b).toArray) {i : Nat} (hi : i < b.length) : w.cell? ⟨g, i, none⟩ = some (.int .u8 b[i].toNat) := by
  rw [h.cell, ← Array.getElem?_toList, List.toList_toArray, bv_get hi]

/-- p.f[k:] of an array field that ends its struct. -/
theorem slice_mid {P : Program} (t e : TypeId) (N : Nat) (ht : P.underlying t = some (.array N e)) (hs : (P.info? e).map (·.size) = some 1) (g o k : Nat) (hk : k ≤ N) :
    ∃ x : Addr, x.block = g ∧ (∀ w, (Instr.sliceAt t (.pointer (some ⟨g, o, none⟩)) (some (.int .i64 k)) none none).run P w = .ok (.slice (some x) (N - k) (N - k)) w) ∧
      (∀ (w : World) (T : TypeId) (cs : Array Value), Blk w g T cs → cs.size = o + N → Cells w (some x) (cs.toList.drop (o + k))) := by
  cases hq : P.info? e with
  | none => simp [hq] at hs
  | some i =>
    have hi : i.size = 1 := by simpa [hq] using hs
    have h0 : (0 : Int) ≤ (k : Int) ∧ (k : Int) ≤ (N : Int) := by omega
    refine ⟨if N = k then ⟨g, o, none⟩ else ⟨g, o + k, none⟩, by split <;> rfl, fun w => ?_, fun w T cs h hc => ?_⟩
    · have hle : k ≤ N := hk
      simp [Instr.sliceAt, Instr.sliceBounds, Instr.sliceBound, Instr.sureAddr, asIntOf, run_underlying ht, sizeOf, typeInfo, hq, hi, h0, hle]
      by_cases hN : N = k
      · simp [hN]
      · by_cases hk0 : k = 0
        · subst hk0; simp [hN, Addr.add]
        · simp [hN, Addr.add, hk0]
    · by_cases hN : N = k
      · rw [List.drop_of_length_le (by rw [Array.length_toList]; omega)]
        exact Cells.nil _ _
      · rw [if_neg hN]
        intro j v hv
        rw [List.getElem?_drop] at hv
        refine ⟨_, rfl, ?_⟩
        have e : (⟨g, o + k, none⟩ : Addr).add j = ⟨g, o + k + j, none⟩ := by
          unfold Addr.add
          by_cases hj : j = 0
          · subst hj; rfl
          · rw [if_neg hj]
        rw [e, h.cell, ← Array.getElem?_toList]
        exact hv

set_option maxRecDepth 50000 in
set_option maxHeartbeats 2000000 in
theorem idgood_calls (b : List UInt8) (w : World) (hb : b.length = 33) : Calls Tryd.prog 93 #[idv b] w fun e w' => e = .returned (.bool (idGood b)) ∧ Ext w w' := by
  obtain ⟨k, hk⟩ : ∃ k, k = idKind b := ⟨_, rfl⟩
  have hk0 : b[0]'(by omega) = k := by rw [hk, idKind, List.getD_eq_getElem?_getD, List.getElem?_eq_getElem (by omega)]; rfl
  unfold idv
  obtain ⟨n, hn⟩ : ∃ n, n = idN k := ⟨_, rfl⟩
  have hn32 : n ≤ 32 := by rw [hn]; exact idN_le k
  have hsz := fun w' => size_calls k w'
  rw [← hn] at hsz
  have hgd : idGood b = (decide (0 < n) && (b.drop (1 + n)).all (· == 0)) := by unfold idGood; rw [← hk, ← hn]
  have HG := Lib.hid hgd
  clear hgd hk hn
  go_enter Tryd.func93, Tryd.ntmps93
  have hbk : Blk (w.alloc (.cells (bv b).toArray 27)) w.heap.size 27 (bv b).toArray := Blk.new w _ _
  have hx0 : Ext w (w.alloc (.cells (bv b).toArray 27)) := (Ext.refl _).alloc _
  have hc0 := hbk.byte (i := 0) (by omega)
  rw [hk0] at hc0
  obtain ⟨x, hxg, hsl, hcs⟩ := slice_mid (P := Tryd.prog) 25 5 32 Tryd.underlying25 (by kernel_rfl) w.heap.size 1 n hn32
  have hcx := hcs _ _ _ hbk (by rw [List.size_toArray, bv_length, hb])
  rw [List.toList_toArray, bv_drop] at hcx
  obtain ⟨xs, hxs⟩ : ∃ xs, xs = b.drop (1 + n) := ⟨_, rfl⟩
  rw [← hxs] at hcx HG
  have hxl : xs.length = 32 - n := by rw [hxs, List.length_drop, hb]; omega
  clear hxs hcs
  have h32n : (32 : Int) - (n : Int) = ((32 - n : Nat) : Int) := by omega
  go_wp2_with (go_at_call 34; ((with_reducible refine (hsz _).mono ?_); rintro e w1 ⟨rfl, rfl⟩))
  go_loop [13] (fun i => ∃ j : Nat, j ≤ 32 - n ∧ i = .int .i64 j ∧ Aside ((xs.take j).all (· == 0) = true)) (fun i => 32 - (intOf i).toNat)
  case atStart => exact ⟨0, Nat.zero_le _, rfl, rfl⟩
  case round =>
    obtain ⟨j, hj, rfl, hA⟩ := hrel
    by_cases hlt : j < 32 - n
    · obtain ⟨y, hy, cy⟩ := hcx.byte (i := j) (by omega)
      cases hy
      obtain ⟨c, hc⟩ : ∃ c, c = xs[j]'(by omega) := ⟨_, rfl⟩
      rw [← hc] at cy
      by_cases hz : c = 0
      · subst hz
        have hst : (xs.take (j + 1)).all (· == 0) = true := by
          rw [List.take_succ_eq_append_getElem (by omega), List.all_append, hA.out, ← hc]; rfl
        have HS := Lib.hid hst
        clear hst hc
        go_wp2
        go_round
        case rel => exact ⟨j + 1, by omega, by go_num, HS.out⟩
        case measure => simp [intOf]; omega
      · have hne : (((c.toNat : Int) == 0) : Bool) = false := by
          rw [beq_eq_false_iff_ne]
          intro e
          exact hz (UInt8.toNat_inj.1 (by have : c.toNat = 0 := by omega
                                          exact this))
        have hall : xs.all (· == 0) = false := by
          rw [List.all_eq_false]
          exact ⟨xs[j]'(by omega), List.getElem_mem _, by rw [← hc]; simpa using hz⟩
        rw [hall, Bool.and_false] at HG
        have hne2 : ¬ ((c.toNat : Int) = 0) := by simpa using hne
        clear hc hall
        go_wp2
        go_ret
        exact ⟨ret_bool HG.out.symm, hx0⟩
    · obtain rfl : j = 32 - n := by omega
      have hall : xs.all (· == 0) = true := by
        have := hA.out
        rwa [List.take_of_length_le (by omega)] at this
      rw [hall, Bool.and_true] at HG
      by_cases hn0 : 0 < n
      · rw [decide_eq_true hn0] at HG
        go_wp2
        go_ret
        exact ⟨ret_bool HG.out.symm, hx0⟩
      · rw [decide_eq_false hn0] at HG
        go_wp2
        go_ret
        exact ⟨ret_bool HG.out.symm, hx0⟩

/-- p.f[:k] of an array field. -/
theorem slice_upto {P : Program} (t e : TypeId) (N : Nat) (ht : P.underlying t = some (.array N e)) (hs : (P.info? e).map (·.size) = some 1) (g o k : Nat) (hk : k ≤ N) (hN : 0 < N) (w : World) :
    (Instr.sliceAt t (.pointer (some ⟨g, o, none⟩)) none (some (.int .i64 k)) none).run P w = .ok (.slice (some ⟨g, o, none⟩) k N) w := by
  cases hq : P.info? e with
  | none => simp [hq] at hs
  | some i =>
    have h0 : (0 : Int) ≤ (k : Int) ∧ (k : Int) ≤ (N : Int) := by omega
    simp [Instr.sliceAt, Instr.sliceBounds, Instr.sliceBound, Instr.sureAddr, asIntOf, run_underlying ht, sizeOf, typeInfo, hq, h0, hk, Addr.add]
theorem lit1_u8 (w : World) (c : UInt8) : (Instr.buildSlice 87 1 #[(0, .int .u8 c.toNat)]).run Tryd.prog w = .ok (.slice (some ⟨w.heap.size, 0, none⟩) 1 1) (w.alloc (.cells #[.int .u8 c.toNat] 5)) := by go_simp

set_option maxRecDepth 50000 in
set_option maxHeartbeats 2000000 in
theorem idtext_calls (b : List UInt8) (w : World) (hb : b.length = 33) : Calls Tryd.prog 80 #[idv b] w fun e w' => e = .returned (.string (bstr (idText b))) ∧ Ext w w' := by
  have hgood := fun w' => idgood_calls b w' hb
  unfold idv at hgood
  unfold idv
  cases hg : idGood b with
  | false =>
    have ht : idText b = [] := by unfold idText; rw [hg]; rfl
    rw [ht]
    rw [hg] at hgood
    clear hg ht
    go_enter Tryd.func80, Tryd.ntmps80
    have hbk : Blk (w.alloc (.cells (bv b).toArray 27)) w.heap.size 27 (bv b).toArray := Blk.new w _ _
    have hx0 : Ext w (w.alloc (.cells (bv b).toArray 27)) := (Ext.refl _).alloc _
    go_wp2_with (first
      | (refine wpList_load_blk rfl 27 (.tmp 1) rfl w.heap.size rfl _ _ _ hbk Tryd.underlying27 rfl (by rw [List.size_toArray, bv_length, hb]; kernel_rfl) ?_)
      | (go_at_call 93; ((with_reducible refine (hgood _).mono ?_); rintro e w1 ⟨rfl, hx1⟩)))
    go_ret
    exact ⟨rfl, hx0.trans hx1⟩
  | true =>
    obtain ⟨k, hk⟩ : ∃ k, k = idKind b := ⟨_, rfl⟩
    have hk0 : b[0]'(by omega) = k := by rw [hk, idKind, List.getD_eq_getElem?_getD, List.getElem?_eq_getElem (by omega)]; rfl
    obtain ⟨n, hn⟩ : ∃ n, n = idN k := ⟨_, rfl⟩
    have hn32 : n ≤ 32 := by rw [hn]; exact idN_le k
    have hsz := fun w' => size_calls k w'
    rw [← hn] at hsz
    obtain ⟨ys, hys⟩ : ∃ ys, ys = (b.drop 1).take n := ⟨_, rfl⟩
    have hyl : ys.length = n := by rw [hys, List.length_take, List.length_drop, hb]; omega
    have ht : idText b = k :: ys := by
      unfold idText
      rw [if_pos hg, ← hk, ← hn, hys, Nat.add_comm, ← hk0]
      have : b = b[0]'(by omega) :: b.drop 1 := by rw [← List.drop_eq_getElem_cons]; rfl
      conv => lhs; rw [this]
      rfl
    rw [ht]
    rw [hg] at hgood
    have happ : bstr [k] ++ bstr ys = bstr (k :: ys) := bstr_append [k] ys
    have hz1 : (bstr [k]).size = 1 := by rw [bstr_size]; rfl
    have hz2 : (bstr ys).size ≤ 32 := by rw [bstr_size, hyl]; exact hn32
    have hks : (9223372036854775807 < 1 + (bstr ys).size) = False := by simp only [eq_iff_iff, iff_false, Nat.not_lt]; omega
    have Hys := Lib.hid hys
    clear hk hn hg ht hys
    go_enter Tryd.func80, Tryd.ntmps80
    have hbk : Blk (w.alloc (.cells (bv b).toArray 27)) w.heap.size 27 (bv b).toArray := Blk.new w _ _
    have hx0 : Ext w (w.alloc (.cells (bv b).toArray 27)) := (Ext.refl _).alloc _
    go_wp2_with (first
      | (refine wpList_load_blk rfl 27 (.tmp 1) rfl w.heap.size rfl _ _ _ hbk Tryd.underlying27 rfl (by rw [List.size_toArray, bv_length, hb]; kernel_rfl) ?_)
      | (go_at_call 93; ((with_reducible refine (hgood _).mono ?_); rintro e w1 ⟨rfl, hx1⟩)))
    have hb1 := (hbk.ext hx1).drew
    have hxw : Ext w w1.drew := (hx0.trans hx1).drew
    have hcy : ∀ u, Ext w1.drew u → Cells u (some ⟨w.heap.size, 1, none⟩) (bv ys) := by
      intro u hu j v hv
      have hjn : j < ys.length := by
        have := (List.getElem?_eq_some_iff.1 hv).1
        rwa [bv_length] at this
      refine ⟨_, rfl, ?_⟩
      have e : (⟨w.heap.size, 1, none⟩ : Addr).add j = ⟨w.heap.size, 1 + j, none⟩ := by
        unfold Addr.add
        by_cases hj : j = 0
        · subst hj; rfl
        · rw [if_neg hj]
      rw [e, (hb1.ext hu).byte (i := 1 + j) (by omega)]
      rw [bv_get hjn] at hv
      rw [← hv]
      congr 3
      have h2 : ys[j] = ((b.drop 1).take n)[j]'(by rw [← Hys.out]; exact hjn) := by
        congr 1
      rw [h2, List.getElem_take, List.getElem_drop]
    have hck : ∀ u, Ext w1.drew u → u.cell? ⟨w.heap.size, 0, none⟩ = some (.int .u8 k.toNat) := fun u hu => by
      have := (hb1.ext hu).byte (i := 0) (by omega)
      rw [hk0] at this
      exact this
    obtain ⟨g, hgw⟩ : ∃ g, g = w.heap.size := ⟨_, rfl⟩
    rw [← hgw] at hcy hck ⊢
    clear hgw
    refine wp_region_ops (CInv [6, 7, 8, 9, 10, 11, 12, 13, 14, 15, 16, 2] _
      [(0, 6, .pointer (some ⟨g, 0, none⟩)), (1, 7, .int .u8 k.toNat), (3, 9, .string (bstr [k])), (4, 10, .pointer (some ⟨g, 1, none⟩)), (5, 11, .pointer (some ⟨g, 0, none⟩)), (6, 12, .int .u8 k.toNat), (7, 13, .int .i64 n), (8, 14, .slice (some ⟨g, 1, none⟩) n 32), (9, 15, .string (bstr ys)), (10, 16, .string (bstr (k :: ys))), (11, 2, .string (bstr (k :: ys)))]
      [(2, some 8)] (fun xs u => Ext w1.drew u ∧ (∀ v ∈ xs, ∃ A, v = .slice A 1 1 ∧ Cells u A (bv [k])))) (by kernel_rfl) (by kernel_rfl) (CInv.start ⟨Ext.refl _, fun v hv => by cases hv⟩) ?_ ?_
    · refine ⟨?o0, ?o1, ?o2, ?o3, ?o4, ?o5, ?o6, ?o7, ?o8, ?o9, ?o10, ?o11, trivial⟩
      case o0 =>
        intro f a u h hfi hp hq
        have q1 : a.tmps[1]?.getD undef = .pointer (some ⟨g, 0, none⟩) := h.agree.att (by decide)
        exact h.yield rfl rfl 6 rfl (by change 6 < 17; decide) rfl _ rfl (by go_simp)
      case o1 =>
        intro f a u h hfi hp hq
        have q6 := h.att 0 rfl (pre_of hp 0 rfl)
        obtain ⟨xs, ⟨hu, _⟩, _⟩ := h.st
        have z := hck u hu
        exact h.yield rfl rfl 7 rfl (by change 7 < 17; decide) rfl _ rfl (by go_simp)
      case o2 =>
        intro f a u h hfi hp hq
        have q7 := h.at_ 1 rfl (pre_of hp 1 rfl)
        refine h.link hfi rfl rfl 0 _ rfl rfl (fun t ht => by cases ht; change 8 < 17; decide) rfl (fun k c d' hk _ => by omega) ?_
        rintro xs hl ⟨hu, _⟩ _
        refine wp_val (exec_buildSlice rfl (by rw [arr1]; simp only [q7])) (lit1_u8 u k) ⟨_, rfl, hu.alloc _, ?_⟩
        intro v hv
        obtain rfl : xs = [] := List.eq_nil_of_length_eq_zero hl
        obtain rfl : v = _ := by simpa using hv
        exact ⟨_, rfl, Cells.lit rfl _ _ _⟩
      case o3 =>
        intro f a u h hfi hp hq
        obtain ⟨xs, ⟨hu, hW⟩, hlt, hle, hev⟩ := h.got 0 rfl (pre_of hp 2 rfl)
        obtain ⟨A, hA, hcA⟩ := hW (xs.getD 0 undef) (by rw [List.getD_eq_getElem?_getD, List.getElem?_eq_getElem hlt]; exact List.getElem_mem hlt)
        rw [hA] at hev
        have hcv := conv_str (P := Tryd.prog) Tryd.underlying87 Tryd.underlying5 Tryd.underlying9 (c := 1) (n := 1) rfl hcA
        exact h.yield rfl rfl 9 rfl (by change 9 < 17; decide) rfl _ rfl (by
          have q8 : a.tmps[8]?.getD undef = .slice A 1 1 := by simpa [Act.eval] using hev
          go_simp)
      case o4 =>
        intro f a u h hfi hp hq
        have q1 : a.tmps[1]?.getD undef = .pointer (some ⟨g, 0, none⟩) := h.agree.att (by decide)
        exact h.yield rfl rfl 10 rfl (by change 10 < 17; decide) rfl _ rfl (by go_simp)
      case o5 =>
        intro f a u h hfi hp hq
        have q1 : a.tmps[1]?.getD undef = .pointer (some ⟨g, 0, none⟩) := h.agree.att (by decide)
        exact h.yield rfl rfl 11 rfl (by change 11 < 17; decide) rfl _ rfl (by go_simp)
      case o6 =>
        intro f a u h hfi hp hq
        have q11 := h.att 4 rfl (pre_of hp 5 rfl)
        obtain ⟨xs, ⟨hu, _⟩, _⟩ := h.st
        have z := hck u hu
        exact h.yield rfl rfl 12 rfl (by change 12 < 17; decide) rfl _ rfl (by go_simp)
      case o7 =>
        intro f a u h hfi hp hq
        exact h.look rfl rfl 13 rfl (by change 13 < 17; decide) rfl _ rfl 34 #[.tmp 12] #[5] _ rfl (by kernel_rfl) (by rw [arr1, h.at_ 5 rfl (pre_of hp 6 rfl)]) (hsz u)
      case o8 =>
        intro f a u h hfi hp hq
        have q10 := h.att 3 rfl (pre_of hp 4 rfl)
        have q13 := h.att 6 rfl (pre_of hp 7 rfl)
        have hsl := slice_upto (P := Tryd.prog) 25 5 32 Tryd.underlying25 (by kernel_rfl) g 1 n hn32 (by decide) u
        exact h.yield rfl rfl 14 rfl (by change 14 < 17; decide) rfl _ rfl (by go_simp)
      case o9 =>
        intro f a u h hfi hp hq
        have q14 := h.att 7 rfl (pre_of hp 8 rfl)
        obtain ⟨xs, ⟨hu, _⟩, _⟩ := h.st
        have hcv := conv_str (P := Tryd.prog) Tryd.underlying87 Tryd.underlying5 Tryd.underlying9 (c := 32) (n := n) hyl (hcy u hu)
        exact h.yield rfl rfl 15 rfl (by change 15 < 17; decide) rfl _ rfl (by go_simp)
      case o10 =>
        intro f a u h hfi hp hq
        have q9 := h.att 2 rfl (pre_of hp 3 rfl)
        have q15 := h.att 8 rfl (pre_of hp 9 rfl)
        exact h.yield rfl rfl 16 rfl (by change 16 < 17; decide) rfl _ rfl (by go_simp)
      case o11 =>
        intro f a u h hfi hp hq
        have q16 := h.att 9 rfl (pre_of hp 10 rfl)
        exact h.yield rfl rfl 2 rfl (by change 2 < 17; decide) rfl _ rfl (by go_simp)
    · intro f a u h hall hfar
      have hag := h.agree.out
      have e2 := h.at_ 10 rfl (hall 11 (by decide))
      obtain ⟨xs, ⟨hu, _⟩, _⟩ := h.st
      have hxe := hxw.trans hu
      simp only [List.foldl_cons, List.foldl_nil, Act.put, List.setIfInBounds_toArray, List.set_cons_zero, List.set_cons_succ, e2] at hag
      generalize a.eval (.tmp 6) = y6 at hag
      generalize a.eval (.tmp 7) = y7 at hag
      generalize a.eval (.tmp 8) = y8 at hag
      generalize a.eval (.tmp 9) = y9 at hag
      generalize a.eval (.tmp 10) = y10 at hag
      generalize a.eval (.tmp 11) = y11 at hag
      generalize a.eval (.tmp 12) = y12 at hag
      generalize a.eval (.tmp 13) = y13 at hag
      generalize a.eval (.tmp 14) = y14 at hag
      generalize a.eval (.tmp 15) = y15 at hag
      generalize a.eval (.tmp 16) = y16 at hag
      clear h e2 hall hfar
      subst hag
      go_wp2
      go_ret
      exact ⟨rfl, hxe⟩
end Go.Proofs.YtcnhbodemabbdaaDoor
/- The walk of ident.Parse. -/
namespace Go.Proofs.YtcnhbodemabbdaaDoor
open Go.RowKit
set_option linter.unusedVariables false

theorem bstr_get {bs : List UInt8} {j : Nat} (h : j < bs.length) : ∀ h' : j < (bstr bs).size, (bstr bs)[j]'h' = bs[j] := fun h' => by
  show (bstr bs).data[j]'h' = bs[j]
  unfold bstr
  exact List.getElem_toArray _
theorem bstr_extract (bs : List UInt8) (i j : Nat) : (bstr bs).extract i j = bstr ((bs.take j).drop i) := by
  apply ByteArray.ext
  apply Array.ext'
  simp [bstr, ByteArray.data_extract, List.extract_eq_drop_take']
theorem results_cell_row_tmp {P : Program} {fn : Func} {p u : Tmp} {ty : TypeId} (h : fn.results = #[.cell p ty, .tmp u]) (tmps : Array Value) (w : World) (g : Nat) (t : TypeId) (cs : Array Value) (d : TypeDesc)
    (hp : tmps.getD p undef = .pointer (some ⟨g, 0, none⟩)) (hg : Blk w g t cs)
    (hu : P.underlying ty = some d) (hd : (match d with | .struct _ | .array _ _ => true | _ => false) = true) (hi : (P.info? ty).map (·.size) = some cs.size) :
    (results fn tmps).run P w = .ok (.tuple #[.agg cs, tmps.getD u undef]) w := by
  rw [results_cell_tmp h]
  simp [hp, asAddr, run_loadVar_row w g t ty cs (0, 0) d hg hu hd hi]
theorem str_from1 (s : List UInt8) (w : World) (h : 1 ≤ s.length) : (Instr.sliceAt 9 (.string (bstr s)) (some (.int .i64 1)) none none).run Tryd.prog w = .ok (.string (bstr (s.drop 1))) w := by
  have hz := bstr_size s
  have hx : (bstr s).extract 1 s.length = bstr (s.drop 1) := by rw [bstr_extract, List.take_length]
  obtain ⟨L, hL⟩ : ∃ L, s.length = L := ⟨_, rfl⟩
  obtain ⟨S, hS⟩ : ∃ S, S = bstr s := ⟨_, rfl⟩
  rw [hL, ← hS] at hx hz
  rw [hL] at h
  rw [← hS]
  have h1 : (1 : Int) ≤ (L : Int) := by omega
  clear hS hL
  go_simp
theorem slice_all {P : Program} (t e : TypeId) (N : Nat) (ht : P.underlying t = some (.array N e)) (hs : (P.info? e).map (·.size) = some 1) (g o : Nat) (hN : 0 < N) (w : World) :
    (Instr.sliceAt t (.pointer (some ⟨g, o, none⟩)) none none none).run P w = .ok (.slice (some ⟨g, o, none⟩) N N) w := by
  cases hq : P.info? e with
  | none => simp [hq] at hs
  | some i => simp [Instr.sliceAt, Instr.sliceBounds, Instr.sureAddr, run_underlying ht, sizeOf, typeInfo, hq, Addr.add]
/-- copy(p.f[:], s), s a string that fits. -/
theorem wp_copy_str {o : Oper} {a : Act} {w : World} {K : Act → World → Prop} {Q : Exit → Act → World → Prop} (d s : Operand) (ho : o.op = .call { callee := .builtin .copy, args := #[d, s], argTypes := #[87, 9] })
    (g off dl dc : Nat) (hd : a.eval d = .slice (some ⟨g, off, none⟩) dl dc) (r : List UInt8) (hs : a.eval s = .string (bstr r)) (n : Nat) (hn : r.length = n) (hle : n ≤ dl)
    (B : List UInt8) (t : TypeId) (hb : Blk w g t (bv B).toArray) (hfit : off + n ≤ B.length)
    (hk : ∀ w', Blk w' g t (bv (B.take off ++ r ++ B.drop (off + n))).toArray → w.grownBy w' (some g) → K (a.put o.dst (.int .i64 n)) w') : o.wp Tryd.prog a w K Q := by
  have hz : (bstr r).size = n := by rw [bstr_size, hn]
  have hrun := Lib.run_copy_row_string (P := Tryd.prog) w 87 9 o.type 5 g off dl dc (bstr r) (bv B).toArray t Tryd.underlying87 (by kernel_rfl) hb (by rw [hz]; exact hle) (by rw [hz, List.size_toArray, bv_len]; exact hfit)
  rw [hz, bstr_data] at hrun
  unfold Oper.wp execOp
  simp only [ho, resolve, invoke, builtin, Sem.run_bind, Sem.run_pure, Result.andThen_ok, List.map_toArray, List.map_cons, List.map_nil, hd, hs, hrun]
  refine hk _ ?_ ⟨rfl, rfl, rfl, by simp, fun k _ hne => setRow_other w g k _ (fun e => hne (by rw [e]))⟩
  have e : Lib.byteCells r = bv r := rfl
  rw [e, bv_take, bv_drop, bv_cat, bv_cat]
  exact Blk.row hb _
/-- A new name's bytes, of a kind. -/
def idNew (k : UInt8) : List UInt8 := k :: List.replicate 32 0
theorem idNew_len (k : UInt8) : (idNew k).length = 33 := rfl
theorem idNone_len : idNone.length = 33 := rfl
theorem build_id0 (w : World) : (Instr.build 27 #[]).run Tryd.prog w = .ok (.agg (bv idNone).toArray) w := run_build w 27 _ _ (by kernel_rfl)
theorem build_id1 (w : World) (k : UInt8) : (Instr.build 27 #[(0, .int .u8 k.toNat)]).run Tryd.prog w = .ok (.agg (bv (idNew k)).toArray) w := run_build w 27 _ _ (by kernel_rfl)

set_option maxRecDepth 50000 in
set_option maxHeartbeats 2000000 in
theorem idparse_calls (s : List UInt8) (w : World) (hs : s.length ≤ 140737488351232) : Calls Tryd.prog 91 #[.string (bstr s)] w fun e w' => e = .returned (.tuple #[idv (if idCan s then idPad s else idNone), .bool (idCan s)]) ∧ Ext w w' := by
  have hz := bstr_size s
  by_cases h0 : s.length = 0
  · have hs0 : s = [] := List.eq_nil_of_length_eq_zero h0
    subst hs0
    have hcan : idCan [] = false := rfl
    rw [hcan]
    have hz0 : (bstr []).size = 0 := hz
    go_enter Tryd.func91, Tryd.ntmps91
    go_wp2_with (first
      | (refine wpList_store_blk rfl 27 (.tmp 2) (.tmp 23) rfl rfl w.heap.size (bv idNone).toArray rfl rfl _ _ (Blk.new w _ _) rfl (by kernel_rfl) (bv_cells _) ?_; intro w1 hb1 hg1))
    refine bodyPost_ret (results_cell_row_tmp (P := Tryd.prog) (fn := Tryd.f91) rfl _ _ w.heap.size 27 (bv idNone).toArray _ rfl hb1 Tryd.underlying27 rfl (by kernel_rfl)) rfl ⟨rfl, ((Ext.refl _).alloc _).grown_ hg1 (by simp)⟩
  obtain ⟨k, hk⟩ : ∃ k, k = idKind s := ⟨_, rfl⟩
  have hpos : 0 < s.length := Nat.pos_of_ne_zero h0
  have hk0 : s[0]'hpos = k := by rw [hk, idKind, List.getD_eq_getElem?_getD, List.getElem?_eq_getElem hpos]; rfl
  have hget : ∀ h' : 0 < (bstr s).size, (bstr s)[0]'h' = k := fun h' => (bstr_get hpos h').trans hk0
  obtain ⟨n, hn⟩ : ∃ n, n = idN k := ⟨_, rfl⟩
  have hn32 : n ≤ 32 := by rw [hn]; exact idN_le k
  have hsz := fun w' => size_calls k w'
  rw [← hn] at hsz
  obtain ⟨L, hL⟩ : ∃ L, s.length = L := ⟨_, rfl⟩
  have hcan : idCan s = (decide (0 < n) && decide (L = 1 + n)) := by unfold idCan; rw [← hk, ← hn, hL]
  have hLp : 0 < L := by omega
  rw [hL] at hz hs
  have hLb : (((L : Int) == 0) : Bool) = false := by rw [beq_eq_false_iff_ne]; omega
  by_cases hn0 : n = 0
  · rw [hn0] at hcan
    have hcan' : idCan s = false := hcan
    rw [hcan']
    subst hn0
    clear hk hn hcan hcan' hk0 hL h0 hpos
    go_enter Tryd.func91, Tryd.ntmps91
    go_wp2_with (first
      | (refine wpList_store_blk rfl 27 (.tmp 2) (.tmp 23) rfl rfl w.heap.size (bv idNone).toArray rfl rfl _ _ (Blk.new w _ _) rfl (by kernel_rfl) (bv_cells _) ?_; intro w1 hb1 hg1)
      | (go_at_call 34; ((with_reducible refine (hsz _).mono ?_); rintro e w1 ⟨rfl, rfl⟩)))
    refine bodyPost_ret (results_cell_row_tmp (P := Tryd.prog) (fn := Tryd.f91) rfl _ _ w.heap.size 27 (bv idNone).toArray _ rfl hb1 Tryd.underlying27 rfl (by kernel_rfl)) rfl ⟨rfl, ((Ext.refl _).alloc _).grown_ hg1 (by simp)⟩
  have hnp : 0 < n := by omega
  have hni : ¬ (n : Int) = 0 := by omega
  have hnb : (((n : Int) == 0) : Bool) = false := by rw [beq_eq_false_iff_ne]; omega
  by_cases hl1 : L = 1 + n
  · rw [decide_eq_true hnp, decide_eq_true hl1] at hcan
    have hcan' : idCan s = true := hcan
    rw [hcan']
    obtain ⟨r, hr⟩ : ∃ r, r = s.drop 1 := ⟨_, rfl⟩
    have hrl : r.length = n := by rw [hr, List.length_drop, hL]; omega
    have hsr : s = k :: r := by
      rw [hr, ← hk0, ← List.drop_eq_getElem_cons]; rfl
    have hpad : idPad s = (idNew k).take 1 ++ r ++ (idNew k).drop (1 + n) := by
      unfold idPad idNew
      rw [hL, hl1, hsr]
      simp only [List.take_succ_cons, List.take_zero, List.cons_append, List.nil_append, List.drop_succ_cons, Nat.add_comm 1 n, List.drop_replicate]
      congr 3
      omega
    have hrz : (bstr r).size = n := by rw [bstr_size, hrl]
    have hne : (((L : Int) != 1 + (n : Int)) : Bool) = false := by rw [bne_eq_false_iff_eq]; omega
    have hsl := fun w => str_from1 s w hpos
    rw [← hr] at hsl
    have Hpad := Lib.hid hpad
    have Hrl := Lib.hid hrl
    clear hk hn hcan hcan' hk0 hL h0 hr hsr hpad hpos
    go_enter Tryd.func91, Tryd.ntmps91
    go_wp2_with (first
      | (refine wpList_store_blk rfl 27 (.tmp 4) (.tmp 26) rfl rfl (w.heap.size + 1) (bv (idNew k)).toArray rfl rfl _ _ (Blk.new_at (by simp) _ _) rfl (by kernel_rfl) (bv_cells _) ?_; intro w1 hb1 hg1; have hb0 := ((Blk.new w _ _).alloc _).grown hg1 (by simp); have hx1 : Ext w w1 := (((Ext.refl _).alloc _).alloc _).grown_ hg1 (by simp))
      | (go_at_call 34; ((with_reducible refine (hsz _).mono ?_); rintro e w1 ⟨rfl, rfl⟩)))
    obtain ⟨g, hgw⟩ : ∃ g, g = w.heap.size + 1 := ⟨_, rfl⟩
    have hg0 : w.heap.size ≠ g := by omega
    have hgl : w.heap.size ≤ g := by omega
    rw [← hgw] at hb1 ⊢
    clear hgw hg1
    refine wp_region_ops (CInv [27, 28, 29, 30, 31] _
      [(0, 27, .pointer (some ⟨g, 1, none⟩)), (1, 28, .slice (some ⟨g, 1, none⟩) 32 32), (2, 29, .string (bstr s)), (3, 30, .string (bstr r))]
      [(4, some 31)] (fun xs u => (xs = [] ∧ u = w1.drew) ∨ (xs ≠ [] ∧ Blk u g 27 (bv (idPad s)).toArray ∧ w1.drew.grownBy u (some g)))) (by kernel_rfl) (by kernel_rfl) (CInv.start (.inl ⟨rfl, rfl⟩)) ?_ ?_
    · refine ⟨?o0, ?o1, ?o2, ?o3, ?o4, trivial⟩
      case o0 =>
        intro f a u h hfi hp hq
        have q4 : a.tmps[4]?.getD undef = .pointer (some ⟨g, 0, none⟩) := h.agree.att (by decide)
        exact h.yield rfl rfl 27 rfl (by change 27 < 33; decide) rfl _ rfl (by go_simp)
      case o1 =>
        intro f a u h hfi hp hq
        have q27 := h.att 0 rfl (pre_of hp 0 rfl)
        have hsa := slice_all (P := Tryd.prog) 25 5 32 Tryd.underlying25 (by kernel_rfl) g 1 (by decide) u
        exact h.yield rfl rfl 28 rfl (by change 28 < 33; decide) rfl _ rfl (by go_simp)
      case o2 =>
        intro f a u h hfi hp hq
        have q0 : a.tmps[0]?.getD undef = .string (bstr s) := h.agree.att (by decide)
        exact h.yield rfl rfl 29 rfl (by change 29 < 33; decide) rfl _ rfl (by go_simp)
      case o3 =>
        intro f a u h hfi hp hq
        have q29 := h.att 2 rfl (pre_of hp 2 rfl)
        exact h.yield rfl rfl 30 rfl (by change 30 < 33; decide) rfl _ rfl (by clear hl1; go_simp)
      case o4 =>
        intro f a u h hfi hp hq
        have q28 := h.at_ 1 rfl (pre_of hp 1 rfl)
        have q30 := h.at_ 3 rfl (pre_of hp 3 rfl)
        refine h.link hfi rfl rfl 0 _ rfl rfl (fun t ht => by cases ht; change 31 < 33; decide) rfl (fun k c d' hk _ => by omega) ?_
        rintro xs hl hW _
        obtain rfl : xs = [] := List.eq_nil_of_length_eq_zero hl
        rcases hW with ⟨_, rfl⟩ | ⟨hne, _⟩
        · refine wp_copy_str (.tmp 28) (.tmp 30) rfl g 1 32 32 q28 r q30 n Hrl.out hn32 (idNew k) 27 hb1.drew (by rw [idNew_len]; omega) fun w' hb' hg' => ⟨_, rfl, .inr ⟨by simp, ?_, hg'⟩⟩
          rw [Hpad.out]
          exact hb'
        · exact absurd rfl hne
    · intro f a u h hall hfar
      have hag := h.agree.out
      obtain ⟨xs, hxl, hW, _⟩ := h.done (by intro c hc; simp only [List.mem_singleton] at hc; subst hc; exact hall 4 (by decide))
      rcases hW with ⟨rfl, _⟩ | ⟨_, hbP, hgP⟩
      · cases hxl
      have hb0P := (hb0.drew).grown hgP (fun e => hg0 (Option.some.inj e))
      have hxP : Ext w u := (hx1.drew).grown_ hgP (by intro k hk; cases hk; exact hgl)
      simp only [List.foldl_cons, List.foldl_nil, Act.put, List.setIfInBounds_toArray, List.set_cons_zero, List.set_cons_succ] at hag
      generalize a.eval (.tmp 27) = y27 at hag
      generalize a.eval (.tmp 28) = y28 at hag
      generalize a.eval (.tmp 29) = y29 at hag
      generalize a.eval (.tmp 30) = y30 at hag
      generalize a.eval (.tmp 31) = y31 at hag
      clear h hall hfar hb0 hb1
      subst hag
      have hpl : (bv (idPad s)).toArray.size = 33 := by rw [List.size_toArray, bv_len, Hpad.out]; simp [idNew, Hrl.out]; omega
      go_wp2_with (first
        | (refine wpList_load_blk rfl 27 (.tmp 4) rfl g rfl _ _ _ hbP Tryd.underlying27 rfl (by rw [hpl]; kernel_rfl) ?_)
        | (refine wpList_store_blk rfl 27 (.tmp 2) (.tmp 32) rfl rfl w.heap.size (bv (idPad s)).toArray rfl rfl _ _ hb0P (by rw [hpl]; rfl) (by kernel_rfl) (bv_cells _) ?_; intro w5 hb5 hg5))
      refine bodyPost_ret (results_cell_row_tmp (P := Tryd.prog) (fn := Tryd.f91) rfl _ _ w.heap.size 27 (bv (idPad s)).toArray _ rfl hb5 Tryd.underlying27 rfl (by rw [hpl]; kernel_rfl)) rfl ⟨rfl, hxP.grown_ hg5 (by simp)⟩
  · rw [decide_eq_false hl1, Bool.and_false] at hcan
    rw [hcan]
    have hl1i : ¬ (L : Int) = 1 + (n : Int) := by omega
    have hne : (((L : Int) != 1 + (n : Int)) : Bool) = true := by rw [bne_iff_ne]; exact hl1i
    clear hk hn hcan hk0 hL h0 hpos
    go_enter Tryd.func91, Tryd.ntmps91
    go_wp2_with (first
      | (refine wpList_store_blk rfl 27 (.tmp 2) (.tmp 23) rfl rfl w.heap.size (bv idNone).toArray rfl rfl _ _ (Blk.new w _ _) rfl (by kernel_rfl) (bv_cells _) ?_; intro w1 hb1 hg1)
      | (go_at_call 34; ((with_reducible refine (hsz _).mono ?_); rintro e w1 ⟨rfl, rfl⟩)))
    refine bodyPost_ret (results_cell_row_tmp (P := Tryd.prog) (fn := Tryd.f91) rfl _ _ w.heap.size 27 (bv idNone).toArray _ rfl hb1 Tryd.underlying27 rfl (by kernel_rfl)) rfl ⟨rfl, ((Ext.refl _).alloc _).grown_ hg1 (by simp)⟩
end Go.Proofs.YtcnhbodemabbdaaDoor
/- The walks of the reference's Id and Name. -/
namespace Go.Proofs.YtcnhbodemabbdaaDoor
open Go.RowKit
set_option linter.unusedVariables false

/-- A name when the first j bytes are written. -/
def idTo (s : List UInt8) (j : Nat) : List UInt8 := s.take j ++ List.replicate (33 - j) 0
theorem idTo_len {s : List UInt8} {j : Nat} (h : j ≤ s.length) (h2 : s.length ≤ 33) : (idTo s j).length = 33 := by
  unfold idTo; rw [List.length_append, List.length_take, List.length_replicate]; omega
theorem idTo_set {s : List UInt8} {j : Nat} (h : j < s.length) (h2 : s.length ≤ 33) : (bv (idTo s j)).toArray.setIfInBounds j (.int .u8 (s[j]).toNat) = (bv (idTo s (j + 1))).toArray := by
  apply Array.ext'
  rw [Array.toList_setIfInBounds, List.toList_toArray, List.toList_toArray]
  have : (bv (idTo s j)).set j (.int .u8 (s[j]).toNat) = bv ((idTo s j).set j s[j]) := by simp [bv, List.map_set]
  rw [this]
  congr 1
  unfold idTo
  obtain ⟨m, hm⟩ : ∃ m, 33 - j = m + 1 := ⟨32 - j, by omega⟩
  rw [hm, List.replicate_succ, List.set_append_right _ _ (by rw [List.length_take]; omega), List.length_take, Nat.min_eq_left (by omega), Nat.sub_self, List.set_cons_zero,
    List.take_succ_eq_append_getElem h, List.append_assoc, show 33 - (j + 1) = m by omega]
  rfl
theorem idTo_all (s : List UInt8) : idTo s s.length = idPad s := by unfold idTo idPad; rw [List.take_length]

set_option maxRecDepth 50000 in
set_option maxHeartbeats 2000000 in
theorem rid_calls (s : List UInt8) (w : World) (hs : s.length ≤ 33) : Calls Tryd.prog 67 #[.string (bstr s)] w fun e w' => e = .returned (idv (idPad s)) ∧ Ext w w' := by
  have hz := bstr_size s
  by_cases h0 : s = []
  · subst h0
    have hnil : (bstr []).toList = [] := by rw [ByteArray.toList_eq, bstr_data]
    go_enter Tryd.func67, Tryd.ntmps67
    go_wp2_with (first
      | (refine wpList_load_blk rfl 27 (.tmp 3) rfl (w.heap.size + 1) rfl _ _ _ (Blk.new_at (by simp) _ _) Tryd.underlying27 rfl (by kernel_rfl) ?_)
      | (refine wpList_store_blk rfl 27 (.tmp 2) (.tmp 7) rfl rfl w.heap.size (bv idNone).toArray rfl rfl _ _ ((Blk.new w _ _).alloc _) rfl (by kernel_rfl) (bv_cells _) ?_; intro w1 hb1 hg1))
    exact bodyPost_ret (results_cell_row (P := Tryd.prog) (fn := Tryd.f67) rfl _ _ _ _ (bv idNone).toArray _ _ rfl hb1 Tryd.underlying27 rfl (by kernel_rfl)) rfl ⟨rfl, (((Ext.refl _).alloc _).alloc _).grown_ hg1 (by simp)⟩
  · have hne : ¬ (bstr s).toList = [] := by rw [ByteArray.toList_eq, bstr_data]; exact h0
    have hnem : (bstr s).toList.isEmpty = false := by rw [List.isEmpty_eq_false_iff]; exact hne
    obtain ⟨L, hL⟩ : ∃ L, s.length = L := ⟨_, rfl⟩
    have hLp : 0 < L := by rw [← hL]; exact List.length_pos_iff.2 h0
    obtain ⟨k, hk⟩ : ∃ k, k = s[0]'(by rw [hL]; exact hLp) := ⟨_, rfl⟩
    have hget : ∀ h' : 0 < (bstr s).size, (bstr s)[0]'h' = k := fun h' => (bstr_get (by rw [hL]; exact hLp) h').trans hk.symm
    have hone : idTo s 1 = idNew k := by
      unfold idTo idNew
      rw [List.take_succ_eq_append_getElem (by rw [hL]; exact hLp), List.take_zero, ← hk]
      rfl
    have hs33 := hs
    rw [hL] at hz hs
    have HL := Lib.hid hL
    have Hone := Lib.hid hone
    have Hs := Lib.hid hs33
    clear hk hL h0 hone hs33
    go_enter Tryd.func67, Tryd.ntmps67
    go_wp2
    go_loopw [4] (fun i wr => ∃ j : Nat, j + 1 ≤ L ∧ i = .int .i64 ((j : Int) + 1) ∧ Aside (Blk wr (w.heap.size + 1) 27 (bv (idTo s (j + 1))).toArray ∧ Blk wr w.heap.size 27 (bv idNone).toArray) ∧ Ext w wr) (fun i _ => 40 - (intOf i).toNat)
    case atStart => exact ⟨0, by omega, rfl, ⟨by rw [Hone.out]; exact Blk.new_at (by simp) _ _, (Blk.new w _ _).alloc _⟩, ((Ext.refl _).alloc _).alloc _⟩
    case round =>
      obtain ⟨j, hj, rfl, hB, hx⟩ := hrel
      by_cases hlt : j + 1 < L
      · have hBk := hB.out.1
        have hlen : (bv (idTo s (j + 1))).toArray.size = 33 := by rw [List.size_toArray, bv_len, idTo_len (by rw [HL.out]; omega) Hs.out]
        have hfr := hBk.frozen (1 + j)
        obtain ⟨old, hcell⟩ : ∃ v, wr.cell? ⟨w.heap.size + 1, 1 + j, none⟩ = some v := ⟨_, hBk.cell_ (i := 1 + j) (by rw [hlen]; omega)⟩
        obtain ⟨c, hc⟩ : ∃ c, c = s[j + 1]'(by rw [HL.out]; exact hlt) := ⟨_, rfl⟩
        have hgetj : ∀ h' : j + 1 < (bstr s).size, (bstr s)[j + 1]'h' = c := fun h' => (bstr_get (by rw [HL.out]; exact hlt) h').trans hc.symm
        have hset := hBk.set (j + 1) (.int .u8 c.toNat)
        rw [hc, idTo_set (by rw [HL.out]; exact hlt) Hs.out, ← hc, Nat.add_comm j 1] at hset
        have hfar := hB.out.2.far (p := ⟨w.heap.size + 1, 1 + j, none⟩) (by show w.heap.size ≠ w.heap.size + 1; omega) (.int .u8 c.toNat)
        have hx' := hx.set (p := ⟨w.heap.size + 1, 1 + j, none⟩) (by show w.heap.size ≤ w.heap.size + 1; omega) (.int .u8 c.toNat)
        have S1 := Lib.hid hset
        have S2 := Lib.hid hfar
        have S3 := Lib.hid hx'
        clear hset hfar hx' hc hB hlen hBk
        go_wp2
        go_roundw
        case rel => exact ⟨j + 1, by omega, by go_num, ⟨by rw [Nat.add_comm (j + 1) 1, ← Nat.add_assoc]; exact S1.out, S2.out⟩, S3.out⟩
        case measure => simp [intOf]; omega
      · obtain rfl : L = j + 1 := by omega
        have hBk := hB.out.1
        have hB2 := hB.out.2
        have hpl : (bv (idPad s)).toArray.size = 33 := by rw [List.size_toArray, bv_len, idPad_len Hs.out]
        rw [← HL.out, idTo_all] at hBk
        go_wp2_with (first
          | (refine wpList_load_blk rfl 27 (.tmp 3) rfl (w.heap.size + 1) rfl _ _ _ hBk Tryd.underlying27 rfl (by rw [hpl]; kernel_rfl) ?_)
          | (refine wpList_store_blk rfl 27 (.tmp 2) (.tmp 24) rfl rfl w.heap.size (bv (idPad s)).toArray rfl rfl _ _ hB2 (by rw [hpl]; rfl) (by kernel_rfl) (bv_cells _) ?_; intro w1 hb1 hg1))
        exact bodyPost_ret (results_cell_row (P := Tryd.prog) (fn := Tryd.f67) rfl _ _ _ _ (bv (idPad s)).toArray _ _ rfl hb1 Tryd.underlying27 rfl (by rw [hpl]; kernel_rfl)) rfl ⟨rfl, hx.grown_ hg1 (by simp)⟩

set_option maxRecDepth 50000 in
set_option maxHeartbeats 4000000 in
theorem rname_calls (b : List UInt8) (w : World) (hb : b.length = 33) : Calls Tryd.prog 54 #[idv b] w fun e w' => e = .returned (.string (bstr (idText b))) ∧ Ext w w' := by
  obtain ⟨k, hk⟩ : ∃ k, k = idKind b := ⟨_, rfl⟩
  have hk0 : b[0]'(by omega) = k := by rw [hk, idKind, List.getD_eq_getElem?_getD, List.getElem?_eq_getElem (by omega)]; rfl
  obtain ⟨n, hn⟩ : ∃ n, n = idN k := ⟨_, rfl⟩
  have hn32 : n ≤ 32 := by rw [hn]; exact idN_le k
  have hsz := fun w' => rsize_calls k w'
  rw [← hn] at hsz
  obtain ⟨d, hd⟩ : ∃ d, d = b.drop 1 := ⟨_, rfl⟩
  have hdl : d.length = 32 := by rw [hd, List.length_drop, hb]
  have hbd : b = k :: d := by rw [hd, ← hk0, ← List.drop_eq_getElem_cons]; rfl
  have hgd : idGood b = (decide (0 < n) && (d.drop n).all (· == 0)) := by
    unfold idGood
    rw [← hk, ← hn, hd, List.drop_drop, Nat.add_comm]
  have htx : idText b = if idGood b then k :: d.take n else [] := by
    unfold idText
    rw [← hk, ← hn]
    conv => lhs; rw [hbd, Nat.add_comm 1 n, List.take_succ_cons]
    rw [← hbd]
  obtain ⟨T, hT⟩ : ∃ T, T = idText b := ⟨_, rfl⟩
  rw [← hT]
  unfold idv
  have hcv := fun (w : World) (c : UInt8) => conv_str (P := Tryd.prog) (w := w.alloc (.cells #[.int .u8 c.toNat] 5)) Tryd.underlying87 Tryd.underlying5 Tryd.underlying9 (a := some ⟨w.heap.size, 0, none⟩) (c := 1) (bs := [c]) (n := 1) rfl (Cells.lit rfl _ _ _)
  have HT := Lib.hid (hT.trans htx)
  have HG := Lib.hid hgd
  clear hk hn hT htx hgd
  go_enter Tryd.func54, Tryd.ntmps54
  have hbk : Blk (w.alloc (.cells (bv b).toArray 27)) w.heap.size 27 (bv b).toArray := Blk.new w _ _
  have hx0 : Ext w (w.alloc (.cells (bv b).toArray 27)) := (Ext.refl _).alloc _
  have hc0 := hbk.byte (i := 0) (by omega)
  rw [hk0] at hc0
  have hrg : ((w.alloc (.cells (bv b).toArray 27)).alloc (.cells #[.int .u8 k.toNat] 5)).rangeAt w.heap.size 1 (bv d) := by
    intro j v hv
    rw [(hbk.alloc _).cell, ← Array.getElem?_toList, List.toList_toArray]
    conv => lhs; rw [hbd]
    rw [show bv (k :: d) = .int .u8 k.toNat :: bv d from rfl, Nat.add_comm 1 j, List.getElem?_cons_succ]
    exact hv
  have hcv1 := hcv (w.alloc (.cells (bv b).toArray 27)) k
  rw [show (w.alloc (.cells (bv b).toArray 27)).heap.size = w.heap.size + 1 from by simp] at hcv1
  clear hbk hk0 hd hbd
  go_wp2_with (first
    | (go_at_call 86; ((with_reducible refine (hsz _).mono ?_); rintro e w1 ⟨rfl, rfl⟩))
    | (refine wpList_load_mid rfl 25 (.tmp 14) rfl w.heap.size 1 rfl (bv d) _ hrg Tryd.underlying25 rfl (by rw [bv_len, hdl]; kernel_rfl) ?_))
  clear hrg hc0
  go_loopw [4, 16] (fun v i wr => ∃ j : Nat, j ≤ 32 ∧ i = .int .i64 j ∧ v = .string (bstr (k :: d.take (min j n))) ∧ Aside (((d.take j).drop n).all (· == 0) = true) ∧ Ext w wr) (fun _ i _ => 32 - (intOf i).toNat)
  case atStart => exact ⟨0, Nat.zero_le _, rfl, by rw [Nat.zero_min]; rfl, by show _ = _; simp, hx0.alloc _⟩
  case round =>
    obtain ⟨j, hj, rfl, rfl, hA, hx⟩ := hrel
    by_cases hlt : j < 32
    · obtain ⟨c, hc⟩ : ∃ c, c = d[j]'(by omega) := ⟨_, rfl⟩
      have hi := run_index_arr (P := Tryd.prog) (w := wr) Tryd.underlying25 (by kernel_rfl) (cs := (bv d).toArray) (k := j) (v := .int .u8 c.toNat) (by rw [← Array.getElem?_toList, List.toList_toArray, bv_get (by omega), hc]) hlt Tryd.underlying5
      obtain ⟨S, hS⟩ : ∃ S, S = k :: d.take (min j n) := ⟨_, rfl⟩
      rw [← hS]
      have hSz : (bstr S).size ≤ 33 := by rw [bstr_size, hS, List.length_cons, List.length_take]; omega
      by_cases hjn : j < n
      · have hnx : d.take (min (j + 1) n) = d.take (min j n) ++ [c] := by
          rw [Nat.min_eq_left (by omega), Nat.min_eq_left (by omega), List.take_succ_eq_append_getElem (by omega), hc]
        have happ : bstr S ++ bstr [c] = bstr (k :: d.take (min (j + 1) n)) := by rw [bstr_append, hnx, hS]; rfl
        have hz1 : (bstr [c]).size = 1 := by rw [bstr_size]; rfl
        have hAj : ((d.take (j + 1)).drop n).all (· == 0) = true := by rw [List.drop_of_length_le (by rw [List.length_take]; omega)]; rfl
        have HA := Lib.hid hAj
        clear hc hS hAj hnx
        go_wp2
        go_roundw
        case rel => exact ⟨j + 1, by omega, by go_num, by first | rfl | (rw [happ]), HA.out, hx.alloc _⟩
        case measure => simp [intOf]; omega
      · by_cases hc0 : c = 0
        · have hnx : d.take (min (j + 1) n) = d.take (min j n) := by rw [Nat.min_eq_right (by omega), Nat.min_eq_right (by omega)]
          have hAj : ((d.take (j + 1)).drop n).all (· == 0) = true := by
            rw [List.take_succ_eq_append_getElem (by omega), List.drop_append_of_le_length (by rw [List.length_take]; omega), List.all_append, hA.out, ← hc, hc0]; rfl
          have HA := Lib.hid hAj
          have HS := Lib.hid (show S = k :: d.take (min (j + 1) n) by rw [hnx]; exact hS)
          subst hc0
          clear hc hS hAj hnx
          go_wp2
          go_roundw
          case rel => exact ⟨j + 1, by omega, by go_num, by rw [HS.out], HA.out, hx⟩
          case measure => simp [intOf]; omega
        · have hne : ¬ ((c.toNat : Int) = 0) := fun e => hc0 (UInt8.toNat_inj.1 (by have : c.toNat = 0 := by omega
                                                                                    exact this))
          have hall : (d.drop n).all (· == 0) = false := by
            rw [List.all_eq_false]
            refine ⟨c, ?_, by simpa using hc0⟩
            rw [hc]
            have : (d.drop n)[j - n]'(by rw [List.length_drop]; omega) = d[j]'(by omega) := by
              rw [List.getElem_drop]
              congr 1
              omega
            rw [← this]
            exact List.getElem_mem _
          have hT : T = [] := by
            have h1 := HT.out
            rw [HG.out, hall, Bool.and_false] at h1
            simpa using h1
          subst hT
          clear hc hS hall
          go_wp2
          go_ret
          exact ⟨rfl, hx⟩
    · obtain rfl : j = 32 := by omega
      have hall : (d.drop n).all (· == 0) = true := by
        have := hA.out
        rwa [List.take_of_length_le (by omega)] at this
      rw [Nat.min_eq_right (by omega)]
      by_cases hn0 : n = 0
      · subst hn0
        have hT : T = [] := by
          have h1 := HT.out
          rw [HG.out] at h1
          simpa using h1
        subst hT
        clear hall
        go_wp2
        go_ret
        exact ⟨rfl, hx⟩
      · have hT : T = k :: d.take n := by
          have h1 := HT.out
          rw [HG.out, hall, Bool.and_true, decide_eq_true (by omega)] at h1
          simpa using h1
        have hnb : (((n : Int) == 0) : Bool) = false := by rw [beq_eq_false_iff_ne]; omega
        have HTT := Lib.hid hT
        clear hall hT
        go_wp2
        go_ret
        exact ⟨by rw [HTT.out]; rfl, hx⟩
end Go.Proofs.YtcnhbodemabbdaaDoor

/- The walks of package ident: Size, Good. -/
import Derived.Test.YtcnhbodemabbdaaDoorQ11
import Derived.Test.YtcnhbodemabbdaaDoorQ14
import Derived.Deep.MidRow
import Derived.Test.YtcnhbodemabbdaaDoorQ16
import Derived.Test.YtcnhbodemabbdaaDoorQ17
namespace Go.Proofs.YtcnhbodemabbdaaDoor
open Go.RowKit
set_option linter.unusedVariables false

theorem u8_eq_one {k : UInt8} : ((k.toNat : Int) == 1) = decide (k = 1) := by
  by_cases h : k = 1
  · subst h; rfl
  · rw [decide_eq_false h, beq_eq_false_iff_ne]
    intro e
    apply h
    apply UInt8.toNat_inj.1
    have : k.toNat = 1 := by omega
    exact this
theorem u8_eq_two {k : UInt8} : ((k.toNat : Int) == 2) = decide (k = 2) := by
  by_cases h : k = 2
  · subst h; rfl
  · rw [decide_eq_false h, beq_eq_false_iff_ne]
    intro e
    apply h
    apply UInt8.toNat_inj.1
    have : k.toNat = 2 := by omega
    exact this
theorem size_calls (k : UInt8) (w : World) : Calls Tryd.prog 34 #[.int .u8 k.toNat] w fun e w' => e = .returned (.int .i64 (idN k)) ∧ w = w' := by
  have e1 := u8_eq_one (k := k)
  have e2 := u8_eq_two (k := k)
  by_cases h1 : k = 1
  · subst h1
    go_enter Tryd.func34, Tryd.ntmps34
    go_wp2
    go_ret
    exact ⟨rfl, rfl⟩
  rw [decide_eq_false h1] at e1
  by_cases h2 : k = 2
  · subst h2
    go_enter Tryd.func34, Tryd.ntmps34
    go_wp2
    go_ret
    exact ⟨rfl, rfl⟩
  rw [decide_eq_false h2] at e2
  rw [idN_other h1 h2]
  go_enter Tryd.func34, Tryd.ntmps34
  go_wp2
  go_ret
  exact ⟨rfl, rfl⟩
theorem rsize_calls (k : UInt8) (w : World) : Calls Tryd.prog 86 #[.int .u8 k.toNat] w fun e w' => e = .returned (.int .i64 (idN k)) ∧ w = w' := by
  have e1 := u8_eq_one (k := k)
  have e2 := u8_eq_two (k := k)
  by_cases h1 : k = 1
  · subst h1
    go_enter Tryd.func86, Tryd.ntmps86
    go_wp2
    go_ret
    exact ⟨rfl, rfl⟩
  rw [decide_eq_false h1] at e1
  by_cases h2 : k = 2
  · subst h2
    go_enter Tryd.func86, Tryd.ntmps86
    go_wp2
    go_ret
    exact ⟨rfl, rfl⟩
  rw [decide_eq_false h2] at e2
  rw [idN_other h1 h2]
  go_enter Tryd.func86, Tryd.ntmps86
  go_wp2
  go_ret
  exact ⟨rfl, rfl⟩

theorem Blk.byte {w : World} {g : Nat} {t : TypeId} {b : List UInt8} (h : Blk w g t (bv b).toArray) {i : Nat} (hi : i < b.length) : w.cell? ⟨g, i, none⟩ = some (.int .u8 b[i].toNat) := by
  rw [h.cell, ← Array.getElem?_toList, List.toList_toArray, bv_get hi]

/-- p.f[k:] of an array field that ends its struct. -/
theorem slice_mid {P : Program} (t e : TypeId) (N : Nat) (ht : P.underlying t = some (.array N e)) (hs : (P.info? e).map (·.size) = some 1) (g o k : Nat) (hk : k ≤ N) :
    ∃ x : Addr, x.block = g ∧ (∀ w, (Instr.sliceAt t (.pointer (some ⟨g, o, none⟩)) (some (.int .i64 k)) none none).run P w = .ok (.slice (some x) (N - k) (N - k)) w) ∧
      (∀ (w : World) (T : TypeId) (cs : Array Value), Blk w g T cs → cs.size = o + N → Cells w (some x) (cs.toList.drop (o + k))) := by
  cases hq : P.info? e with
  | none => simp [hq] at hs
  | some i =>
    have hi : i.size = 1 := by simpa [hq] using hs
    have h0 : (0 : Int) ≤ (k : Int) ∧ (k : Int) ≤ (N : Int) := by omega
    refine ⟨if N = k then ⟨g, o, none⟩ else ⟨g, o + k, none⟩, by split <;> rfl, fun w => ?_, fun w T cs h hc => ?_⟩
    · have hle : k ≤ N := hk
      simp [Instr.sliceAt, Instr.sliceBounds, Instr.sliceBound, Instr.sureAddr, asIntOf, run_underlying ht, sizeOf, typeInfo, hq, hi, h0, hle]
      by_cases hN : N = k
      · simp [hN]
      · by_cases hk0 : k = 0
        · subst hk0; simp [hN, Addr.add]
        · simp [hN, Addr.add, hk0]
    · by_cases hN : N = k
      · rw [List.drop_of_length_le (by rw [Array.length_toList]; omega)]
        exact Cells.nil _ _
      · rw [if_neg hN]
        intro j v hv
        rw [List.getElem?_drop] at hv
        refine ⟨_, rfl, ?_⟩
        have e : (⟨g, o + k, none⟩ : Addr).add j = ⟨g, o + k + j, none⟩ := by
          unfold Addr.add
          by_cases hj : j = 0
          · subst hj; rfl
          · rw [if_neg hj]
        rw [e, h.cell, ← Array.getElem?_toList]
        exact hv

set_option maxRecDepth 50000 in
set_option maxHeartbeats 2000000 in
theorem idgood_calls (b : List UInt8) (w : World) (hb : b.length = 33) : Calls Tryd.prog 93 #[idv b] w fun e w' => e = .returned (.bool (idGood b)) ∧ Ext w w' := by
  obtain ⟨k, hk⟩ : ∃ k, k = idKind b := ⟨_, rfl⟩
  have hk0 : b[0]'(by omega) = k := by rw [hk, idKind, List.getD_eq_getElem?_getD, List.getElem?_eq_getElem (by omega)]; rfl
  unfold idv
  obtain ⟨n, hn⟩ : ∃ n, n = idN k := ⟨_, rfl⟩
  have hn32 : n ≤ 32 := by rw [hn]; exact idN_le k
  have hsz := fun w' => size_calls k w'
  rw [← hn] at hsz
  have hgd : idGood b = (decide (0 < n) && (b.drop (1 + n)).all (· == 0)) := by unfold idGood; rw [← hk, ← hn]
  have HG := Lib.hid hgd
  clear hgd hk hn
  go_enter Tryd.func93, Tryd.ntmps93
  have hbk : Blk (w.alloc (.cells (bv b).toArray 27)) w.heap.size 27 (bv b).toArray := Blk.new w _ _
  have hx0 : Ext w (w.alloc (.cells (bv b).toArray 27)) := (Ext.refl _).alloc _
  have hc0 := hbk.byte (i := 0) (by omega)
  rw [hk0] at hc0
  obtain ⟨x, hxg, hsl, hcs⟩ := slice_mid (P := Tryd.prog) 25 5 32 Tryd.underlying25 (by kernel_rfl) w.heap.size 1 n hn32
  have hcx := hcs _ _ _ hbk (by rw [List.size_toArray, bv_length, hb])
  rw [List.toList_toArray, bv_drop] at hcx
  obtain ⟨xs, hxs⟩ : ∃ xs, xs = b.drop (1 + n) := ⟨_, rfl⟩
  rw [← hxs] at hcx HG
  have hxl : xs.length = 32 - n := by rw [hxs, List.length_drop, hb]; omega
  clear hxs hcs
  have h32n : (32 : Int) - (n : Int) = ((32 - n : Nat) : Int) := by omega
  go_wp2_with (go_at_call 34; ((with_reducible refine (hsz _).mono ?_); rintro e w1 ⟨rfl, rfl⟩))
  go_loop [13] (fun i => ∃ j : Nat, j ≤ 32 - n ∧ i = .int .i64 j ∧ Aside ((xs.take j).all (· == 0) = true)) (fun i => 32 - (intOf i).toNat)
  case atStart => exact ⟨0, Nat.zero_le _, rfl, rfl⟩
  case round =>
    obtain ⟨j, hj, rfl, hA⟩ := hrel
    by_cases hlt : j < 32 - n
    · obtain ⟨y, hy, cy⟩ := hcx.byte (i := j) (by omega)
      cases hy
      obtain ⟨c, hc⟩ : ∃ c, c = xs[j]'(by omega) := ⟨_, rfl⟩
      rw [← hc] at cy
      by_cases hz : c = 0
      · subst hz
        have hst : (xs.take (j + 1)).all (· == 0) = true := by
          rw [List.take_succ_eq_append_getElem (by omega), List.all_append, hA.out, ← hc]; rfl
        have HS := Lib.hid hst
        clear hst hc
        go_wp2
        go_round
        case rel => exact ⟨j + 1, by omega, by go_num, HS.out⟩
        case measure => simp [intOf]; omega
      · have hne : (((c.toNat : Int) == 0) : Bool) = false := by
          rw [beq_eq_false_iff_ne]
          intro e
          exact hz (UInt8.toNat_inj.1 (by have : c.toNat = 0 := by omega
                                          exact this))
        have hall : xs.all (· == 0) = false := by
          rw [List.all_eq_false]
          exact ⟨xs[j]'(by omega), List.getElem_mem _, by rw [← hc]; simpa using hz⟩
        rw [hall, Bool.and_false] at HG
        have hne2 : ¬ ((c.toNat : Int) = 0) := by simpa using hne
        clear hc hall
        go_wp2
        go_ret
        exact ⟨ret_bool HG.out.symm, hx0⟩
    · obtain rfl : j = 32 - n := by omega
      have hall : xs.all (· == 0) = true := by
        have := hA.out
        rwa [List.take_of_length_le (by omega)] at this
      rw [hall, Bool.and_true] at HG
      by_cases hn0 : 0 < n
      · rw [decide_eq_true hn0] at HG
        go_wp2
        go_ret
        exact ⟨ret_bool HG.out.symm, hx0⟩
      · rw [decide_eq_false hn0] at HG
        go_wp2
        go_ret
        exact ⟨ret_bool HG.out.symm, hx0⟩

/-- p.f[:k] of an array field. -/
theorem slice_upto {P : Program} (t e : TypeId) (N : Nat) (ht : P.underlying t = some (.array N e)) (hs : (P.info? e).map (·.size) = some 1) (g o k : Nat) (hk : k ≤ N) (hN : 0 < N) (w : World) :
    (Instr.sliceAt t (.pointer (some ⟨g, o, none⟩)) none (some (.int .i64 k)) none).run P w = .ok (.slice (some ⟨g, o, none⟩) k N) w := by
  cases hq : P.info? e with
  | none => simp [hq] at hs
  | some i =>
    have h0 : (0 : Int) ≤ (k : Int) ∧ (k : Int) ≤ (N : Int) := by omega
    simp [Instr.sliceAt, Instr.sliceBounds, Instr.sliceBound, Instr.sureAddr, asIntOf, run_underlying ht, sizeOf, typeInfo, hq, h0, hk, Addr.add]
theorem lit1_u8 (w : World) (c : UInt8) : (Instr.buildSlice 87 1 #[(0, .int .u8 c.toNat)]).run Tryd.prog w = .ok (.slice (some ⟨w.heap.size, 0, none⟩) 1 1) (w.alloc (.cells #[.int .u8 c.toNat] 5)) := by go_simp

set_option maxRecDepth 50000 in
set_option maxHeartbeats 2000000 in
theorem idtext_calls (b : List UInt8) (w : World) (hb : b.length = 33) : Calls Tryd.prog 80 #[idv b] w fun e w' => e = .returned (.string (bstr (idText b))) ∧ Ext w w' := by
  have hgood := fun w' => idgood_calls b w' hb
  unfold idv at hgood
  unfold idv
  cases hg : idGood b with
  | false =>
    have ht : idText b = [] := by unfold idText; rw [hg]; rfl
    rw [ht]
    rw [hg] at hgood
    clear hg ht
    go_enter Tryd.func80, Tryd.ntmps80
    have hbk : Blk (w.alloc (.cells (bv b).toArray 27)) w.heap.size 27 (bv b).toArray := Blk.new w _ _
    have hx0 : Ext w (w.alloc (.cells (bv b).toArray 27)) := (Ext.refl _).alloc _
    go_wp2_with (first
      | (refine wpList_load_blk rfl 27 (.tmp 1) rfl w.heap.size rfl _ _ _ hbk Tryd.underlying27 rfl (by rw [List.size_toArray, bv_length, hb]; kernel_rfl) ?_)
      | (go_at_call 93; ((with_reducible refine (hgood _).mono ?_); rintro e w1 ⟨rfl, hx1⟩)))
    go_ret
    exact ⟨rfl, hx0.trans hx1⟩
  | true =>
    obtain ⟨k, hk⟩ : ∃ k, k = idKind b := ⟨_, rfl⟩
    have hk0 : b[0]'(by omega) = k := by rw [hk, idKind, List.getD_eq_getElem?_getD, List.getElem?_eq_getElem (by omega)]; rfl
    obtain ⟨n, hn⟩ : ∃ n, n = idN k := ⟨_, rfl⟩
    have hn32 : n ≤ 32 := by rw [hn]; exact idN_le k
    have hsz := fun w' => size_calls k w'
    rw [← hn] at hsz
    obtain ⟨ys, hys⟩ : ∃ ys, ys = (b.drop 1).take n := ⟨_, rfl⟩
    have hyl : ys.length = n := by rw [hys, List.length_take, List.length_drop, hb]; omega
    have ht : idText b = k :: ys := by
      unfold idText
      rw [if_pos hg, ← hk, ← hn, hys, Nat.add_comm, ← hk0]
      have : b = b[0]'(by omega) :: b.drop 1 := by rw [← List.drop_eq_getElem_cons]; rfl
      conv => lhs; rw [this]
      rfl
    rw [ht]
    rw [hg] at hgood
    have happ : bstr [k] ++ bstr ys = bstr (k :: ys) := bstr_append [k] ys
    have hz1 : (bstr [k]).size = 1 := by rw [bstr_size]; rfl
    have hz2 : (bstr ys).size ≤ 32 := by rw [bstr_size, hyl]; exact hn32
    have hks : (9223372036854775807 < 1 + (bstr ys).size) = False := by simp only [eq_iff_iff, iff_false, Nat.not_lt]; omega
    have Hys := Lib.hid hys
    clear hk hn hg ht hys
    go_enter Tryd.func80, Tryd.ntmps80
    have hbk : Blk (w.alloc (.cells (bv b).toArray 27)) w.heap.size 27 (bv b).toArray := Blk.new w _ _
    have hx0 : Ext w (w.alloc (.cells (bv b).toArray 27)) := (Ext.refl _).alloc _
    go_wp2_with (first
      | (refine wpList_load_blk rfl 27 (.tmp 1) rfl w.heap.size rfl _ _ _ hbk Tryd.underlying27 rfl (by rw [List.size_toArray, bv_length, hb]; kernel_rfl) ?_)
      | (go_at_call 93; ((with_reducible refine (hgood _).mono ?_); rintro e w1 ⟨rfl, hx1⟩)))
    have hb1 := (hbk.ext hx1).drew
    have hxw : Ext w w1.drew := (hx0.trans hx1).drew
    have hcy : ∀ u, Ext w1.drew u → Cells u (some ⟨w.heap.size, 1, none⟩) (bv ys) := by
      intro u hu j v hv
      have hjn : j < ys.length := by
        have := (List.getElem?_eq_some_iff.1 hv).1
        rwa [bv_length] at this
      refine ⟨_, rfl, ?_⟩
      have e : (⟨w.heap.size, 1, none⟩ : Addr).add j = ⟨w.heap.size, 1 + j, none⟩ := by
        unfold Addr.add
        by_cases hj : j = 0
        · subst hj; rfl
        · rw [if_neg hj]
      rw [e, (hb1.ext hu).byte (i := 1 + j) (by omega)]
      rw [bv_get hjn] at hv
      rw [← hv]
      congr 3
      have h2 : ys[j] = ((b.drop 1).take n)[j]'(by rw [← Hys.out]; exact hjn) := by
        congr 1
      rw [h2, List.getElem_take, List.getElem_drop]
    have hck : ∀ u, Ext w1.drew u → u.cell? ⟨w.heap.size, 0, none⟩ = some (.int .u8 k.toNat) := fun u hu => by
      have := (hb1.ext hu).byte (i := 0) (by omega)
      rw [hk0] at this
      exact this
    obtain ⟨g, hgw⟩ : ∃ g, g = w.heap.size := ⟨_, rfl⟩
    rw [← hgw] at hcy hck ⊢
    clear hgw
    refine wp_region_ops (CInv [6, 7, 8, 9, 10, 11, 12, 13, 14, 15, 16, 2] _
      [(0, 6, .pointer (some ⟨g, 0, none⟩)), (1, 7, .int .u8 k.toNat), (3, 9, .string (bstr [k])), (4, 10, .pointer (some ⟨g, 1, none⟩)), (5, 11, .pointer (some ⟨g, 0, none⟩)), (6, 12, .int .u8 k.toNat), (7, 13, .int .i64 n), (8, 14, .slice (some ⟨g, 1, none⟩) n 32), (9, 15, .string (bstr ys)), (10, 16, .string (bstr (k :: ys))), (11, 2, .string (bstr (k :: ys)))]
      [(2, some 8)] (fun xs u => Ext w1.drew u ∧ (∀ v ∈ xs, ∃ A, v = .slice A 1 1 ∧ Cells u A (bv [k])))) (by kernel_rfl) (by kernel_rfl) (CInv.start ⟨Ext.refl _, fun v hv => by cases hv⟩) ?_ ?_
    · refine ⟨?o0, ?o1, ?o2, ?o3, ?o4, ?o5, ?o6, ?o7, ?o8, ?o9, ?o10, ?o11, trivial⟩
      case o0 =>
        intro f a u h hfi hp hq
        have q1 : a.tmps[1]?.getD undef = .pointer (some ⟨g, 0, none⟩) := h.agree.att (by decide)
        exact h.yield rfl rfl 6 rfl (by change 6 < 17; decide) rfl _ rfl (by go_simp)
      case o1 =>
        intro f a u h hfi hp hq
        have q6 := h.att 0 rfl (pre_of hp 0 rfl)
        obtain ⟨xs, ⟨hu, _⟩, _⟩ := h.st
        have z := hck u hu
        exact h.yield rfl rfl 7 rfl (by change 7 < 17; decide) rfl _ rfl (by go_simp)
      case o2 =>
        intro f a u h hfi hp hq
        have q7 := h.at_ 1 rfl (pre_of hp 1 rfl)
        refine h.link hfi rfl rfl 0 _ rfl rfl (fun t ht => by cases ht; change 8 < 17; decide) rfl (fun k c d' hk _ => by omega) ?_
        rintro xs hl ⟨hu, _⟩ _
        refine wp_val (exec_buildSlice rfl (by rw [arr1]; simp only [q7])) (lit1_u8 u k) ⟨_, rfl, hu.alloc _, ?_⟩
        intro v hv
        obtain rfl : xs = [] := List.eq_nil_of_length_eq_zero hl
        obtain rfl : v = _ := by simpa using hv
        exact ⟨_, rfl, Cells.lit rfl _ _ _⟩
      case o3 =>
        intro f a u h hfi hp hq
        obtain ⟨xs, ⟨hu, hW⟩, hlt, hle, hev⟩ := h.got 0 rfl (pre_of hp 2 rfl)
        obtain ⟨A, hA, hcA⟩ := hW (xs.getD 0 undef) (by rw [List.getD_eq_getElem?_getD, List.getElem?_eq_getElem hlt]; exact List.getElem_mem hlt)
        rw [hA] at hev
        have hcv := conv_str (P := Tryd.prog) Tryd.underlying87 Tryd.underlying5 Tryd.underlying9 (c := 1) (n := 1) rfl hcA
        exact h.yield rfl rfl 9 rfl (by change 9 < 17; decide) rfl _ rfl (by
          have q8 : a.tmps[8]?.getD undef = .slice A 1 1 := by simpa [Act.eval] using hev
          go_simp)
      case o4 =>
        intro f a u h hfi hp hq
        have q1 : a.tmps[1]?.getD undef = .pointer (some ⟨g, 0, none⟩) := h.agree.att (by decide)
        exact h.yield rfl rfl 10 rfl (by change 10 < 17; decide) rfl _ rfl (by go_simp)
      case o5 =>
        intro f a u h hfi hp hq
        have q1 : a.tmps[1]?.getD undef = .pointer (some ⟨g, 0, none⟩) := h.agree.att (by decide)
        exact h.yield rfl rfl 11 rfl (by change 11 < 17; decide) rfl _ rfl (by go_simp)
      case o6 =>
        intro f a u h hfi hp hq
        have q11 := h.att 4 rfl (pre_of hp 5 rfl)
        obtain ⟨xs, ⟨hu, _⟩, _⟩ := h.st
        have z := hck u hu
        exact h.yield rfl rfl 12 rfl (by change 12 < 17; decide) rfl _ rfl (by go_simp)
      case o7 =>
        intro f a u h hfi hp hq
        exact h.look rfl rfl 13 rfl (by change 13 < 17; decide) rfl _ rfl 34 #[.tmp 12] #[5] _ rfl (by kernel_rfl) (by rw [arr1, h.at_ 5 rfl (pre_of hp 6 rfl)]) (hsz u)
      case o8 =>
        intro f a u h hfi hp hq
        have q10 := h.att 3 rfl (pre_of hp 4 rfl)
        have q13 := h.att 6 rfl (pre_of hp 7 rfl)
        have hsl := slice_upto (P := Tryd.prog) 25 5 32 Tryd.underlying25 (by kernel_rfl) g 1 n hn32 (by decide) u
        exact h.yield rfl rfl 14 rfl (by change 14 < 17; decide) rfl _ rfl (by go_simp)
      case o9 =>
        intro f a u h hfi hp hq
        have q14 := h.att 7 rfl (pre_of hp 8 rfl)
        obtain ⟨xs, ⟨hu, _⟩, _⟩ := h.st
        have hcv := conv_str (P := Tryd.prog) Tryd.underlying87 Tryd.underlying5 Tryd.underlying9 (c := 32) (n := n) hyl (hcy u hu)
        exact h.yield rfl rfl 15 rfl (by change 15 < 17; decide) rfl _ rfl (by go_simp)
      case o10 =>
        intro f a u h hfi hp hq
        have q9 := h.att 2 rfl (pre_of hp 3 rfl)
        have q15 := h.att 8 rfl (pre_of hp 9 rfl)
        exact h.yield rfl rfl 16 rfl (by change 16 < 17; decide) rfl _ rfl (by go_simp)
      case o11 =>
        intro f a u h hfi hp hq
        have q16 := h.att 9 rfl (pre_of hp 10 rfl)
        exact h.yield rfl rfl 2 rfl (by change 2 < 17; decide) rfl _ rfl (by go_simp)
    · intro f a u h hall hfar
      have hag := h.agree.out
      have e2 := h.at_ 10 rfl (hall 11 (by decide))
      obtain ⟨xs, ⟨hu, _⟩, _⟩ := h.st
      have hxe := hxw.trans hu
      simp only [List.foldl_cons, List.foldl_nil, Act.put, List.setIfInBounds_toArray, List.set_cons_zero, List.set_cons_succ, e2] at hag
      generalize a.eval (.tmp 6) = y6 at hag
      generalize a.eval (.tmp 7) = y7 at hag
      generalize a.eval (.tmp 8) = y8 at hag
      generalize a.eval (.tmp 9) = y9 at hag
      generalize a.eval (.tmp 10) = y10 at hag
      generalize a.eval (.tmp 11) = y11 at hag
      generalize a.eval (.tmp 12) = y12 at hag
      generalize a.eval (.tmp 13) = y13 at hag
      generalize a.eval (.tmp 14) = y14 at hag
      generalize a.eval (.tmp 15) = y15 at hag
      generalize a.eval (.tmp 16) = y16 at hag
      clear h e2 hall hfar
      subst hag
      go_wp2
      go_ret
      exact ⟨rfl, hxe⟩
end Go.Proofs.YtcnhbodemabbdaaDoor

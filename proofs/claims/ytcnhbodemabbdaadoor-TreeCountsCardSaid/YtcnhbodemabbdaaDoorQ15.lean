/- The walks of the reference's Id and Name. -/
import Derived.Test.YtcnhbodemabbdaaDoorQ14
namespace Go.Proofs.YtcnhbodemabbdaaDoor
open Go.RowKit
set_option linter.unusedVariables false

/-- A name when the first j bytes are written. -/
def idTo (s : List UInt8) (j : Nat) : List UInt8 := s.take j ++ List.replicate (33 - j) 0
theorem idTo_len {s : List UInt8} {j : Nat} (h : j ≤ s.length) (h2 : s.length ≤ 33) : (idTo s j).length = 33 := by
  unfold idTo; rw [List.length_append, List.length_take, List.length_replicate]; omega
theorem idTo_set {s : List UInt8} {j : Nat} (h : j < s.length) (h2 : s.length ≤ 33) : (bv (idTo s j)).toArray.setIfInBounds j (.int .u8 (s[j]).toNat) = (bv (idTo s (j + 1))).toArray := by
  apply Array.ext'
  rw [Array.toList_setIfInBounds, List.toList_toArray, List.toList_toArray]
  have : (bv (idTo s j)).set j (.int .u8 (s[j]).toNat) = bv ((idTo s j).set j s[j]) := by simp [bv, List.map_set]
  rw [this]
  congr 1
  unfold idTo
  obtain ⟨m, hm⟩ : ∃ m, 33 - j = m + 1 := ⟨32 - j, by omega⟩
  rw [hm, List.replicate_succ, List.set_append_right _ _ (by rw [List.length_take]; omega), List.length_take, Nat.min_eq_left (by omega), Nat.sub_self, List.set_cons_zero,
    List.take_succ_eq_append_getElem h, List.append_assoc, show 33 - (j + 1) = m by omega]
  rfl
theorem idTo_all (s : List UInt8) : idTo s s.length = idPad s := by unfold idTo idPad; rw [List.take_length]

set_option maxRecDepth 50000 in
set_option maxHeartbeats 2000000 in
theorem rid_calls (s : List UInt8) (w : World) (hs : s.length ≤ 33) : Calls Tryd.prog 67 #[.string (bstr s)] w fun e w' => e = .returned (idv (idPad s)) ∧ Ext w w' := by
  have hz := bstr_size s
  by_cases h0 : s = []
  · subst h0
    have hnil : (bstr []).toList = [] := by rw [ByteArray.toList_eq, bstr_data]
    go_enter Tryd.func67, Tryd.ntmps67
    go_wp2_with (first
      | (refine wpList_load_blk rfl 27 (.tmp 3) rfl (w.heap.size + 1) rfl _ _ _ (Blk.new_at (by simp) _ _) Tryd.underlying27 rfl (by kernel_rfl) ?_)
      | (refine wpList_store_blk rfl 27 (.tmp 2) (.tmp 7) rfl rfl w.heap.size (bv idNone).toArray rfl rfl _ _ ((Blk.new w _ _).alloc _) rfl (by kernel_rfl) (bv_cells _) ?_; intro w1 hb1 hg1))
    exact bodyPost_ret (results_cell_row (P := Tryd.prog) (fn := Tryd.f67) rfl _ _ _ _ (bv idNone).toArray _ _ rfl hb1 Tryd.underlying27 rfl (by kernel_rfl)) rfl ⟨rfl, (((Ext.refl _).alloc _).alloc _).grown_ hg1 (by simp)⟩
  · have hne : ¬ (bstr s).toList = [] := by rw [ByteArray.toList_eq, bstr_data]; exact h0
    have hnem : (bstr s).toList.isEmpty = false := by rw [List.isEmpty_eq_false_iff]; exact hne
    obtain ⟨L, hL⟩ : ∃ L, s.length = L := ⟨_, rfl⟩
    have hLp : 0 < L := by rw [← hL]; exact List.length_pos_iff.2 h0
    obtain ⟨k, hk⟩ : ∃ k, k = s[0]'(by rw [hL]; exact hLp) := ⟨_, rfl⟩
    have hget : ∀ h' : 0 < (bstr s).size, (bstr s)[0]'h' = k := fun h' => (bstr_get (by rw [hL]; exact hLp) h').trans hk.symm
    have hone : idTo s 1 = idNew k := by
      unfold idTo idNew
      rw [List.take_succ_eq_append_getElem (by rw [hL]; exact hLp), List.take_zero, ← hk]
      rfl
    have hs33 := hs
    rw [hL] at hz hs
    have HL := Lib.hid hL
    have Hone := Lib.hid hone
    have Hs := Lib.hid hs33
    clear hk hL h0 hone hs33
    go_enter Tryd.func67, Tryd.ntmps67
    go_wp2
    go_loopw [4] (fun i wr => ∃ j : Nat, j + 1 ≤ L ∧ i = .int .i64 ((j : Int) + 1) ∧ Aside (Blk wr (w.heap.size + 1) 27 (bv (idTo s (j + 1))).toArray ∧ Blk wr w.heap.size 27 (bv idNone).toArray) ∧ Ext w wr) (fun i _ => 40 - (intOf i).toNat)
    case atStart => exact ⟨0, by omega, rfl, ⟨by rw [Hone.out]; exact Blk.new_at (by simp) _ _, (Blk.new w _ _).alloc _⟩, ((Ext.refl _).alloc _).alloc _⟩
    case round =>
      obtain ⟨j, hj, rfl, hB, hx⟩ := hrel
      by_cases hlt : j + 1 < L
      · have hBk := hB.out.1
        have hlen : (bv (idTo s (j + 1))).toArray.size = 33 := by rw [List.size_toArray, bv_len, idTo_len (by rw [HL.out]; omega) Hs.out]
        have hfr := hBk.frozen (1 + j)
        obtain ⟨old, hcell⟩ : ∃ v, wr.cell? ⟨w.heap.size + 1, 1 + j, none⟩ = some v := ⟨_, hBk.cell_ (i := 1 + j) (by rw [hlen]; omega)⟩
        obtain ⟨c, hc⟩ : ∃ c, c = s[j + 1]'(by rw [HL.out]; exact hlt) := ⟨_, rfl⟩
        have hgetj : ∀ h' : j + 1 < (bstr s).size, (bstr s)[j + 1]'h' = c := fun h' => (bstr_get (by rw [HL.out]; exact hlt) h').trans hc.symm
        have hset := hBk.set (j + 1) (.int .u8 c.toNat)
        rw [hc, idTo_set (by rw [HL.out]; exact hlt) Hs.out, ← hc, Nat.add_comm j 1] at hset
        have hfar := hB.out.2.far (p := ⟨w.heap.size + 1, 1 + j, none⟩) (by show w.heap.size ≠ w.heap.size + 1; omega) (.int .u8 c.toNat)
        have hx' := hx.set (p := ⟨w.heap.size + 1, 1 + j, none⟩) (by show w.heap.size ≤ w.heap.size + 1; omega) (.int .u8 c.toNat)
        have S1 := Lib.hid hset
        have S2 := Lib.hid hfar
        have S3 := Lib.hid hx'
        clear hset hfar hx' hc hB hlen hBk
        go_wp2
        go_roundw
        case rel => exact ⟨j + 1, by omega, by go_num, ⟨by rw [Nat.add_comm (j + 1) 1, ← Nat.add_assoc]; exact S1.out, S2.out⟩, S3.out⟩
        case measure => simp [intOf]; omega
      · obtain rfl : L = j + 1 := by omega
        have hBk := hB.out.1
        have hB2 := hB.out.2
        have hpl : (bv (idPad s)).toArray.size = 33 := by rw [List.size_toArray, bv_len, idPad_len Hs.out]
        rw [← HL.out, idTo_all] at hBk
        go_wp2_with (first
          | (refine wpList_load_blk rfl 27 (.tmp 3) rfl (w.heap.size + 1) rfl _ _ _ hBk Tryd.underlying27 rfl (by rw [hpl]; kernel_rfl) ?_)
          | (refine wpList_store_blk rfl 27 (.tmp 2) (.tmp 24) rfl rfl w.heap.size (bv (idPad s)).toArray rfl rfl _ _ hB2 (by rw [hpl]; rfl) (by kernel_rfl) (bv_cells _) ?_; intro w1 hb1 hg1))
        exact bodyPost_ret (results_cell_row (P := Tryd.prog) (fn := Tryd.f67) rfl _ _ _ _ (bv (idPad s)).toArray _ _ rfl hb1 Tryd.underlying27 rfl (by rw [hpl]; kernel_rfl)) rfl ⟨rfl, hx.grown_ hg1 (by simp)⟩

set_option maxRecDepth 50000 in
set_option maxHeartbeats 4000000 in
theorem rname_calls (b : List UInt8) (w : World) (hb : b.length = 33) : Calls Tryd.prog 54 #[idv b] w fun e w' => e = .returned (.string (bstr (idText b))) ∧ Ext w w' := by
  obtain ⟨k, hk⟩ : ∃ k, k = idKind b := ⟨_, rfl⟩
  have hk0 : b[0]'(by omega) = k := by rw [hk, idKind, List.getD_eq_getElem?_getD, List.getElem?_eq_getElem (by omega)]; rfl
  obtain ⟨n, hn⟩ : ∃ n, n = idN k := ⟨_, rfl⟩
  have hn32 : n ≤ 32 := by rw [hn]; exact idN_le k
  have hsz := fun w' => rsize_calls k w'
  rw [← hn] at hsz
  obtain ⟨d, hd⟩ : ∃ d, d = b.drop 1 := ⟨_, rfl⟩
  have hdl : d.length = 32 := by rw [hd, List.length_drop, hb]
  have hbd : b = k :: d := by rw [hd, ← hk0, ← List.drop_eq_getElem_cons]; rfl
  have hgd : idGood b = (decide (0 < n) && (d.drop n).all (· == 0)) := by
    unfold idGood
    rw [← hk, ← hn, hd, List.drop_drop, Nat.add_comm]
  have htx : idText b = if idGood b then k :: d.take n else [] := by
    unfold idText
    rw [← hk, ← hn]
    conv => lhs; rw [hbd, Nat.add_comm 1 n, List.take_succ_cons]
    rw [← hbd]
  obtain ⟨T, hT⟩ : ∃ T, T = idText b := ⟨_, rfl⟩
  rw [← hT]
  unfold idv
  have hcv := fun (w : World) (c : UInt8) => conv_str (P := Tryd.prog) (w := w.alloc (.cells #[.int .u8 c.toNat] 5)) Tryd.underlying87 Tryd.underlying5 Tryd.underlying9 (a := some ⟨w.heap.size, 0, none⟩) (c := 1) (bs := [c]) (n := 1) rfl (Cells.lit rfl _ _ _)
  have HT := Lib.hid (hT.trans htx)
  have HG := Lib.hid hgd
  clear hk hn hT htx hgd
  go_enter Tryd.func54, Tryd.ntmps54
  have hbk : Blk (w.alloc (.cells (bv b).toArray 27)) w.heap.size 27 (bv b).toArray := Blk.new w _ _
  have hx0 : Ext w (w.alloc (.cells (bv b).toArray 27)) := (Ext.refl _).alloc _
  have hc0 := hbk.byte (i := 0) (by omega)
  rw [hk0] at hc0
  have hrg : ((w.alloc (.cells (bv b).toArray 27)).alloc (.cells #[.int .u8 k.toNat] 5)).rangeAt w.heap.size 1 (bv d) := by
    intro j v hv
    rw [(hbk.alloc _).cell, ← Array.getElem?_toList, List.toList_toArray]
    conv => lhs; rw [hbd]
    rw [show bv (k :: d) = .int .u8 k.toNat :: bv d from rfl, Nat.add_comm 1 j, List.getElem?_cons_succ]
    exact hv
  have hcv1 := hcv (w.alloc (.cells (bv b).toArray 27)) k
  rw [show (w.alloc (.cells (bv b).toArray 27)).heap.size = w.heap.size + 1 from by simp] at hcv1
  clear hbk hk0 hd hbd
  go_wp2_with (first
    | (go_at_call 86; ((with_reducible refine (hsz _).mono ?_); rintro e w1 ⟨rfl, rfl⟩))
    | (refine wpList_load_mid rfl 25 (.tmp 14) rfl w.heap.size 1 rfl (bv d) _ hrg Tryd.underlying25 rfl (by rw [bv_len, hdl]; kernel_rfl) ?_))
  clear hrg hc0
  go_loopw [4, 16] (fun v i wr => ∃ j : Nat, j ≤ 32 ∧ i = .int .i64 j ∧ v = .string (bstr (k :: d.take (min j n))) ∧ Aside (((d.take j).drop n).all (· == 0) = true) ∧ Ext w wr) (fun _ i _ => 32 - (intOf i).toNat)
  case atStart => exact ⟨0, Nat.zero_le _, rfl, by rw [Nat.zero_min]; rfl, by show _ = _; simp, hx0.alloc _⟩
  case round =>
    obtain ⟨j, hj, rfl, rfl, hA, hx⟩ := hrel
    by_cases hlt : j < 32
    · obtain ⟨c, hc⟩ : ∃ c, c = d[j]'(by omega) := ⟨_, rfl⟩
      have hi := run_index_arr (P := Tryd.prog) (w := wr) Tryd.underlying25 (by kernel_rfl) (cs := (bv d).toArray) (k := j) (v := .int .u8 c.toNat) (by rw [← Array.getElem?_toList, List.toList_toArray, bv_get (by omega), hc]) hlt Tryd.underlying5
      obtain ⟨S, hS⟩ : ∃ S, S = k :: d.take (min j n) := ⟨_, rfl⟩
      rw [← hS]
      have hSz : (bstr S).size ≤ 33 := by rw [bstr_size, hS, List.length_cons, List.length_take]; omega
      by_cases hjn : j < n
      · have hnx : d.take (min (j + 1) n) = d.take (min j n) ++ [c] := by
          rw [Nat.min_eq_left (by omega), Nat.min_eq_left (by omega), List.take_succ_eq_append_getElem (by omega), hc]
        have happ : bstr S ++ bstr [c] = bstr (k :: d.take (min (j + 1) n)) := by rw [bstr_append, hnx, hS]; rfl
        have hz1 : (bstr [c]).size = 1 := by rw [bstr_size]; rfl
        have hAj : ((d.take (j + 1)).drop n).all (· == 0) = true := by rw [List.drop_of_length_le (by rw [List.length_take]; omega)]; rfl
        have HA := Lib.hid hAj
        clear hc hS hAj hnx
        go_wp2
        go_roundw
        case rel => exact ⟨j + 1, by omega, by go_num, by first | rfl | (rw [happ]), HA.out, hx.alloc _⟩
        case measure => simp [intOf]; omega
      · by_cases hc0 : c = 0
        · have hnx : d.take (min (j + 1) n) = d.take (min j n) := by rw [Nat.min_eq_right (by omega), Nat.min_eq_right (by omega)]
          have hAj : ((d.take (j + 1)).drop n).all (· == 0) = true := by
            rw [List.take_succ_eq_append_getElem (by omega), List.drop_append_of_le_length (by rw [List.length_take]; omega), List.all_append, hA.out, ← hc, hc0]; rfl
          have HA := Lib.hid hAj
          have HS := Lib.hid (show S = k :: d.take (min (j + 1) n) by rw [hnx]; exact hS)
          subst hc0
          clear hc hS hAj hnx
          go_wp2
          go_roundw
          case rel => exact ⟨j + 1, by omega, by go_num, by rw [HS.out], HA.out, hx⟩
          case measure => simp [intOf]; omega
        · have hne : ¬ ((c.toNat : Int) = 0) := fun e => hc0 (UInt8.toNat_inj.1 (by have : c.toNat = 0 := by omega
                                                                                    exact this))
          have hall : (d.drop n).all (· == 0) = false := by
            rw [List.all_eq_false]
            refine ⟨c, ?_, by simpa using hc0⟩
            rw [hc]
            have : (d.drop n)[j - n]'(by rw [List.length_drop]; omega) = d[j]'(by omega) := by
              rw [List.getElem_drop]
              congr 1
              omega
            rw [← this]
            exact List.getElem_mem _
          have hT : T = [] := by
            have h1 := HT.out
            rw [HG.out, hall, Bool.and_false] at h1
            simpa using h1
          subst hT
          clear hc hS hall
          go_wp2
          go_ret
          exact ⟨rfl, hx⟩
    · obtain rfl : j = 32 := by omega
      have hall : (d.drop n).all (· == 0) = true := by
        have := hA.out
        rwa [List.take_of_length_le (by omega)] at this
      rw [Nat.min_eq_right (by omega)]
      by_cases hn0 : n = 0
      · subst hn0
        have hT : T = [] := by
          have h1 := HT.out
          rw [HG.out] at h1
          simpa using h1
        subst hT
        clear hall
        go_wp2
        go_ret
        exact ⟨rfl, hx⟩
      · have hT : T = k :: d.take n := by
          have h1 := HT.out
          rw [HG.out, hall, Bool.and_true, decide_eq_true (by omega)] at h1
          simpa using h1
        have hnb : (((n : Int) == 0) : Bool) = false := by rw [beq_eq_false_iff_ne]; omega
        have HTT := Lib.hid hT
        clear hall hT
        go_wp2
        go_ret
        exact ⟨by rw [HTT.out]; rfl, hx⟩
end Go.Proofs.YtcnhbodemabbdaaDoor

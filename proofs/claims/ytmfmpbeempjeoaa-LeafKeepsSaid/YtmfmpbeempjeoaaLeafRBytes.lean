/- The walk of the reference's Bytes, layer 7. -/
import Derived.Test.YtmfmpbeempjeoaaLeafPut
import Derived.Test.YtmfmpbeempjeoaaRef01b
namespace Go.Proofs.Ytmfmpbeempjeoaa
open Go.RowKit
set_option linter.unusedVariables false

theorem refUint_int (z : Int) (m : Nat) (hz : z = (m : Int)) (w : World) (h : m < 18446744073709551616) :
    Calls Try.prog 21 #[.int .u64 z] w fun e w' => e = .returned (.string (bstr (uintB m))) ∧ Ext w w' := by
  subst hz
  exact refUint_calls m w h

set_option maxHeartbeats 8000000 in
theorem rbytes_calls (n : Nd) (l : Bool) (ka va da : Option Addr) (K V D kc vc dc : Nat) (w : World) (h : NdAt w n ka va da K V D kc vc dc) (hll : n.leaf = l) (hs : n.leaf = true → V = K) (hB : n.bytes.length ≤ 1048576) (hp : ∀ p ∈ n.kids, 0 ≤ p) :
    Calls Try.prog 14 #[nda l ka K kc va V vc da D dc] w fun e w' => e = .returned (.string (bstr n.bytes)) ∧ Ext w w' := by
  have hK := h.bk
  have hD := h.bd_
  have Hh := Lib.hid h
  have HB := Lib.hid hB
  clear h hB
  obtain ⟨H, hH⟩ : ∃ H, n.headN = H := ⟨_, rfl⟩
  have HH := Lib.hid hH
  have hpre0 : (bstr (uintB H)).size ≤ 1048576 := by
    have := n.pre_le (Nat.zero_le _)
    have e : n.preB 0 = uintB H := by rw [Nd.preB, hH]; simp [Nd.pairsB]
    rw [e] at this
    rw [bstr_size]
    exact Nat.le_trans this HB.out
  cases l with
  | true =>
    have hl := hll
    clear hll
    obtain rfl : V = K := hs hl
    have hHv : 2 * (V : Int) + 1 = ((H : Nat) : Int) := by rw [← hH, Nd.headN, hl, Hh.out.hk]; simp
    have hHb : H ≤ 281474976710657 := by omega
    have HHv := Lib.hid hHv
    clear hHv hs hH
    go_enter Try.func14, Try.ntmps14
    have hbox : Blk (w.alloc (.cells #[.bool true, .slice ka V kc, .slice va V vc, .slice da D dc] 25)) w.heap.size 25 #[.bool true, .slice ka V kc, .slice va V vc, .slice da D dc] := Blk.new w _ _
    have hx0 : Ext w (w.alloc (.cells #[.bool true, .slice ka V kc, .slice va V vc, .slice da D dc] 25)) := (Ext.refl _).alloc _
    have hbc1 : (w.alloc (.cells #[.bool true, .slice ka V kc, .slice va V vc, .slice da D dc] 25)).cell? ⟨w.heap.size, 1, none⟩ = some (.slice ka V kc) := hbox.cell 1
    go_wp2_with (go_at_call 21; ((with_reducible refine (refUint_int _ H HHv.out _ (by omega)).mono ?_); rintro e w1 ⟨rfl, hx1⟩; have c1' := hx1.cell hbc1))
    have hbox1 := hbox.ext hx1
    have hx01 : Ext w w1 := hx0.trans hx1
    clear hbox hx0 hx1 hbc1 c1'
    go_loopg [4, 23] V (fun gk v i wr => ∃ (k : Nat) (S : ByteArray), k + gk = V ∧ i = .int .i64 k ∧ v = .string S ∧ Aside (S = bstr (n.preB k)) ∧ S.size ≤ 1048576 ∧ Ext w wr ∧ Blk wr w.heap.size 25 #[.bool true, .slice ka V kc, .slice va V vc, .slice da D dc])
    case atStart => exact ⟨0, _, by omega, rfl, rfl, (by show _ = _; rw [Nd.preB, HH.out]; simp [Nd.pairsB]), hpre0, hx01, hbox1⟩
    case round =>
      clear hx01 hbox1 hpre0
      obtain ⟨k, S, hk, rfl, rfl, hS, hS2, hx, hbx⟩ := hrel
      have b0 : wr.cell? ⟨w.heap.size, 0, none⟩ = some (.bool true) := hbx.cell 0
      have b1 : wr.cell? ⟨w.heap.size, 1, none⟩ = some (.slice ka V kc) := hbx.cell 1
      have b2 : wr.cell? ⟨w.heap.size, 2, none⟩ = some (.slice va V vc) := hbx.cell 2
      have b3 : wr.cell? ⟨w.heap.size, 3, none⟩ = some (.slice da D dc) := hbx.cell 3
      have HS := Lib.hid (show S = bstr (n.preB k) from hS)
      clear hS
      cases gk with
      | succ j =>
        have hlk : k < n.keys.length := by rw [Hh.out.hk]; omega
        obtain ⟨x, hx', hcell⟩ := (Hh.out.ck.ext hx) k _ (sv_get hlk)
        subst hx'
        have ek : n.keys.getD k ByteArray.empty = n.keys[k] := getD_of' _ _ hlk
        have hsz := Hh.out.sk _ (List.getElem_mem hlk)
        have hle := n.pre_le (k := k + 1) hlk
        have hlv : k < n.vals.length := by rw [Hh.out.hv]; omega
        obtain ⟨y, hy', hcellv⟩ := (Hh.out.cv.ext hx) k _ (sv_get hlv)
        subst hy'
        have ev : n.vals.getD k ByteArray.empty = n.vals[k] := getD_of' _ _ hlv
        have hszv := Hh.out.sv_ _ (List.getElem_mem hlv)
        have hst := n.pre_succ_leaf k hl
        rw [ek, ev] at hst
        generalize n.vals[k] = t at hcellv hszv hst
        generalize n.keys[k] = s at hcell hsz hst
        have htot : (n.preB k).length + (textB (bl s)).length + (textB (bl t)).length ≤ 1048576 := by
          rw [hst, List.length_append, List.length_append] at hle
          exact Nat.le_trans hle HB.out
        have z1 : (bstr (textB s.data.toList)).size ≤ 1048576 := by show (bstr (textB (bl s))).size ≤ 1048576; rw [bstr_size]; omega
        have z2 : (bstr (textB t.data.toList)).size ≤ 1048576 := by show (bstr (textB (bl t))).size ≤ 1048576; rw [bstr_size]; omega
        have z3 : (S ++ bstr (textB s.data.toList)).size ≤ 1048576 := by show (S ++ bstr (textB (bl s))).size ≤ 1048576; rw [str_append_size, HS.out, bstr_size, bstr_size]; omega
        have z4 : (S ++ bstr (textB (bl s)) ++ bstr (textB (bl t))).size ≤ 1048576 := by rw [str_append_size, str_append_size, HS.out, bstr_size, bstr_size, bstr_size]; omega
        have hfin : S ++ bstr (textB (bl s)) ++ bstr (textB (bl t)) = bstr (n.preB (k + 1)) := by rw [HS.out, bstr_append, bstr_append, hst]
        have Hfin := Lib.hid hfin
        have Z4 := Lib.hid z4
        clear hst hle ek ev htot hfin z4
        go_wp2_with (first
          | (go_at_call 22; ((with_reducible refine (refText_calls s _ hsz).mono ?_); rintro e w2 ⟨rfl, hx2⟩; have hxx2 := hx.trans hx2; have c0' := hx2.cell b0; have c2' := hx2.cell b2; have cv' := hx2.cell hcellv; have hbx2 := hbx.ext hx2))
          | (go_at_call 22; ((with_reducible refine (refText_calls t _ hszv).mono ?_); rintro e w3 ⟨rfl, hx3⟩; have hxx3 := hxx2.trans hx3; have hbx3 := hbx2.ext hx3)))
        go_roundg j
        case measure => omega
        case rel => exact ⟨k + 1, _, by omega, by go_num, rfl, Hfin.out, Z4.out, hxx3, hbx3⟩
      | zero =>
        obtain rfl : k = V := by omega
        have hS0 : S = bstr (kidsB n 0) := by rw [kidsB_zero, Hh.out.hk]; exact HS.out
        have HS0 := Lib.hid hS0
        clear hk hS0
        go_wp2
        go_loopg [4, 46] D (fun gk v i wq => ∃ (j : Nat) (S : ByteArray), j + gk = D ∧ i = .int .i64 j ∧ v = .string S ∧ Aside (S = bstr (kidsB n j)) ∧ S.size ≤ 1048576 ∧ Ext w wq)
        case atStart => exact ⟨0, S, by omega, rfl, rfl, HS0.out, hS2, hx⟩
        case round =>
          clear hS2 HS0 HS
          obtain ⟨j, S3, hj, rfl, rfl, hS, hS2, hxq⟩ := hrel
          have HS := Lib.hid (show S3 = bstr (kidsB n j) from hS)
          clear hS
          cases gk with
          | succ i =>
            have hlj : j < n.kids.length := by rw [Hh.out.hd]; omega
            obtain ⟨x, hx', hcell⟩ := (Hh.out.cd.ext hxq) j _ (iv_get hlj)
            subst hx'
            have hst := kidsB_succ n hlj
            have hp0 := hp _ (List.getElem_mem hlj)
            have hp1 := (Hh.out.bd _ (List.getElem_mem hlj)).2
            have hle := kidsB_le n (j := j + 1) hlj
            rw [hst, List.length_append] at hle
            generalize n.kids[j] = p at hcell hst hp0 hp1 hle
            obtain ⟨q, rfl⟩ := Int.eq_ofNat_of_zero_le hp0
            have e9 : kidB (q : Int) = uintB q := rfl
            rw [e9] at hst hle
            have htot : (kidsB n j).length + (uintB q).length ≤ 1048576 := Nat.le_trans hle HB.out
            have z1 : (bstr (uintB q)).size ≤ 1048576 := by rw [bstr_size]; omega
            have z4 : (S3 ++ bstr (uintB q)).size ≤ 1048576 := by rw [str_append_size, HS.out, bstr_size, bstr_size]; omega
            have hfin : S3 ++ bstr (uintB q) = bstr (kidsB n (j + 1)) := by rw [HS.out, bstr_append, hst]
            have Hfin := Lib.hid hfin
            have Z4 := Lib.hid z4
            clear hst hle htot hfin z4 e9
            go_wp2_with (go_at_call 21; ((with_reducible refine (refUint_calls q _ (by omega)).mono ?_); rintro e w2 ⟨rfl, hx2⟩; have hxx2 := hxq.trans hx2))
            go_roundg i
            case measure => omega
            case rel => exact ⟨j + 1, _, by omega, by go_num, rfl, Hfin.out, Z4.out, hxx2⟩
          | zero =>
            obtain rfl : j = D := by omega
            have hfin : S3 = bstr n.bytes := by rw [← kidsB_all n Hh.out.hd]; exact HS.out
            go_wp2
            go_ret
            exact ⟨by rw [← hfin]; rfl, hxq⟩
  | false =>
    have hl := hll
    clear hll
    have hHv : 2 * (K : Int) = ((H : Nat) : Int) := by rw [← hH, Nd.headN, hl, Hh.out.hk]; simp
    have hHb : H ≤ 281474976710657 := by omega
    have HHv := Lib.hid hHv
    clear hHv hs hH
    go_enter Try.func14, Try.ntmps14
    have hbox : Blk (w.alloc (.cells #[.bool false, .slice ka K kc, .slice va V vc, .slice da D dc] 25)) w.heap.size 25 #[.bool false, .slice ka K kc, .slice va V vc, .slice da D dc] := Blk.new w _ _
    have hx0 : Ext w (w.alloc (.cells #[.bool false, .slice ka K kc, .slice va V vc, .slice da D dc] 25)) := (Ext.refl _).alloc _
    have hbc1 : (w.alloc (.cells #[.bool false, .slice ka K kc, .slice va V vc, .slice da D dc] 25)).cell? ⟨w.heap.size, 1, none⟩ = some (.slice ka K kc) := hbox.cell 1
    go_wp2_with (go_at_call 21; ((with_reducible refine (refUint_int _ H HHv.out _ (by omega)).mono ?_); rintro e w1 ⟨rfl, hx1⟩; have c1' := hx1.cell hbc1))
    have hbox1 := hbox.ext hx1
    have hx01 : Ext w w1 := hx0.trans hx1
    clear hbox hx0 hx1 hbc1 c1'
    go_loopg [4, 23] K (fun gk v i wr => ∃ (k : Nat) (S : ByteArray), k + gk = K ∧ i = .int .i64 k ∧ v = .string S ∧ Aside (S = bstr (n.preB k)) ∧ S.size ≤ 1048576 ∧ Ext w wr ∧ Blk wr w.heap.size 25 #[.bool false, .slice ka K kc, .slice va V vc, .slice da D dc])
    case atStart => exact ⟨0, _, by omega, rfl, rfl, (by show _ = _; rw [Nd.preB, HH.out]; simp [Nd.pairsB]), hpre0, hx01, hbox1⟩
    case round =>
      clear hx01 hbox1 hpre0
      obtain ⟨k, S, hk, rfl, rfl, hS, hS2, hx, hbx⟩ := hrel
      have b0 : wr.cell? ⟨w.heap.size, 0, none⟩ = some (.bool false) := hbx.cell 0
      have b1 : wr.cell? ⟨w.heap.size, 1, none⟩ = some (.slice ka K kc) := hbx.cell 1
      have b2 : wr.cell? ⟨w.heap.size, 2, none⟩ = some (.slice va V vc) := hbx.cell 2
      have b3 : wr.cell? ⟨w.heap.size, 3, none⟩ = some (.slice da D dc) := hbx.cell 3
      have HS := Lib.hid (show S = bstr (n.preB k) from hS)
      clear hS
      cases gk with
      | succ j =>
        have hlk : k < n.keys.length := by rw [Hh.out.hk]; omega
        obtain ⟨x, hx', hcell⟩ := (Hh.out.ck.ext hx) k _ (sv_get hlk)
        subst hx'
        have ek : n.keys.getD k ByteArray.empty = n.keys[k] := getD_of' _ _ hlk
        have hsz := Hh.out.sk _ (List.getElem_mem hlk)
        have hle := n.pre_le (k := k + 1) hlk
        have hst := n.pre_succ_in k hl
        rw [ek] at hst
        generalize n.keys[k] = s at hcell hsz hst
        have htot : (n.preB k).length + (textB (bl s)).length ≤ 1048576 := by
          rw [hst, List.length_append] at hle
          exact Nat.le_trans hle HB.out
        have z1 : (bstr (textB s.data.toList)).size ≤ 1048576 := by show (bstr (textB (bl s))).size ≤ 1048576; rw [bstr_size]; omega
        have z4 : (S ++ bstr (textB (bl s))).size ≤ 1048576 := by rw [str_append_size, HS.out, bstr_size, bstr_size]; omega
        have hfin : S ++ bstr (textB (bl s)) = bstr (n.preB (k + 1)) := by rw [HS.out, bstr_append, hst]
        have Hfin := Lib.hid hfin
        have Z4 := Lib.hid z4
        clear hst hle ek htot hfin z4
        go_wp2_with (go_at_call 22; ((with_reducible refine (refText_calls s _ hsz).mono ?_); rintro e w2 ⟨rfl, hx2⟩; have hxx2 := hx.trans hx2; have c0' := hx2.cell b0; have hbx2 := hbx.ext hx2))
        go_roundg j
        case measure => omega
        case rel => exact ⟨k + 1, _, by omega, by go_num, rfl, Hfin.out, Z4.out, hxx2, hbx2⟩
      | zero =>
        obtain rfl : k = K := by omega
        have hS0 : S = bstr (kidsB n 0) := by rw [kidsB_zero, Hh.out.hk]; exact HS.out
        have HS0 := Lib.hid hS0
        clear hk hS0
        go_wp2
        go_loopg [4, 46] D (fun gk v i wq => ∃ (j : Nat) (S : ByteArray), j + gk = D ∧ i = .int .i64 j ∧ v = .string S ∧ Aside (S = bstr (kidsB n j)) ∧ S.size ≤ 1048576 ∧ Ext w wq)
        case atStart => exact ⟨0, S, by omega, rfl, rfl, HS0.out, hS2, hx⟩
        case round =>
          clear hS2 HS0 HS
          obtain ⟨j, S3, hj, rfl, rfl, hS, hS2, hxq⟩ := hrel
          have HS := Lib.hid (show S3 = bstr (kidsB n j) from hS)
          clear hS
          cases gk with
          | succ i =>
            have hlj : j < n.kids.length := by rw [Hh.out.hd]; omega
            obtain ⟨x, hx', hcell⟩ := (Hh.out.cd.ext hxq) j _ (iv_get hlj)
            subst hx'
            have hst := kidsB_succ n hlj
            have hp0 := hp _ (List.getElem_mem hlj)
            have hp1 := (Hh.out.bd _ (List.getElem_mem hlj)).2
            have hle := kidsB_le n (j := j + 1) hlj
            rw [hst, List.length_append] at hle
            generalize n.kids[j] = p at hcell hst hp0 hp1 hle
            obtain ⟨q, rfl⟩ := Int.eq_ofNat_of_zero_le hp0
            have e9 : kidB (q : Int) = uintB q := rfl
            rw [e9] at hst hle
            have htot : (kidsB n j).length + (uintB q).length ≤ 1048576 := Nat.le_trans hle HB.out
            have z1 : (bstr (uintB q)).size ≤ 1048576 := by rw [bstr_size]; omega
            have z4 : (S3 ++ bstr (uintB q)).size ≤ 1048576 := by rw [str_append_size, HS.out, bstr_size, bstr_size]; omega
            have hfin : S3 ++ bstr (uintB q) = bstr (kidsB n (j + 1)) := by rw [HS.out, bstr_append, hst]
            have Hfin := Lib.hid hfin
            have Z4 := Lib.hid z4
            clear hst hle htot hfin z4 e9
            go_wp2_with (go_at_call 21; ((with_reducible refine (refUint_calls q _ (by omega)).mono ?_); rintro e w2 ⟨rfl, hx2⟩; have hxx2 := hxq.trans hx2))
            go_roundg i
            case measure => omega
            case rel => exact ⟨j + 1, _, by omega, by go_num, rfl, Hfin.out, Z4.out, hxx2⟩
          | zero =>
            obtain rfl : j = D := by omega
            have hfin : S3 = bstr n.bytes := by rw [← kidsB_all n Hh.out.hd]; exact HS.out
            go_wp2
            go_ret
            exact ⟨by rw [← hfin]; rfl, hxq⟩
end Go.Proofs.Ytmfmpbeempjeoaa

/- The walk of leaf.put: a node's bytes. -/
import Derived.Test.YtmfmpbeempjeoaaLeafGood
import Derived.Test.YtmfmpbeempjeoaaCode
namespace Go.Proofs.Ytmfmpbeempjeoaa
open Go.RowKit
set_option linter.unusedVariables false

theorem head_one (K : Nat) (h : K ≤ 140737488351232) : bits .or .u64 ((K : Int) * 2) 1 = ((2 * K + 1 : Nat) : Int) := by
  have e := bits_or_u64_nat (2 ^ 1 * K) 1 (by omega) (by omega)
  rw [← Nat.two_pow_add_eq_or_of_lt (by decide)] at e
  have e2 : ((2 ^ 1 * K : Nat) : Int) = (K : Int) * 2 := by omega
  rw [e2] at e
  exact e
theorem head_zero (K : Nat) (h : K ≤ 140737488351232) : bits .or .u64 ((K : Int) * 2) 0 = ((2 * K : Nat) : Int) := by
  have e := bits_or_u64_nat (2 * K) 0 (by omega) (by omega)
  rw [Nat.or_zero] at e
  have e2 : ((2 * K : Nat) : Int) = (K : Int) * 2 := by omega
  rw [e2] at e
  rw [e2]
  exact e
theorem pairs_mono (n : Nd) : ∀ {a b : Nat}, a ≤ b → (n.pairsB a).length ≤ (n.pairsB b).length := by
  intro a b h
  induction h with
  | refl => exact Nat.le_refl _
  | step h ih => rw [Nd.pairsB_succ, List.length_append]; omega
theorem bl_len (s : ByteArray) : (bl s).length = s.size := str_len s
theorem textB_ge (s : List UInt8) : s.length ≤ (textB s).length := by unfold textB; rw [List.length_append]; omega
/-- The bytes written so far. -/
def Nd.preB (n : Nd) (k : Nat) : List UInt8 := uintB n.headN ++ n.pairsB k
theorem Nd.pre_le (n : Nd) {k : Nat} (hk : k ≤ n.keys.length) : (n.preB k).length ≤ n.bytes.length := by
  have := pairs_mono n hk
  unfold Nd.preB Nd.bytes
  simp only [List.length_append]
  omega
theorem Nd.pre_key (n : Nd) {k : Nat} (hk : k < n.keys.length) : (n.preB k ++ textB (bl (n.keys.getD k ByteArray.empty))).length ≤ n.bytes.length ∧ (n.preB k).length + (n.keys.getD k ByteArray.empty).size ≤ n.bytes.length := by
  have h1 := n.pre_le (k := k + 1) hk
  unfold Nd.preB at h1 ⊢
  rw [Nd.pairsB_succ] at h1
  have h2 := textB_ge (bl (n.keys.getD k ByteArray.empty))
  rw [bl_len] at h2
  simp only [List.length_append] at h1 ⊢
  omega
theorem Nd.pre_val (n : Nd) {k : Nat} (hk : k < n.keys.length) (hl : n.leaf = true) : (n.preB k ++ textB (bl (n.keys.getD k ByteArray.empty))).length + (n.vals.getD k ByteArray.empty).size ≤ n.bytes.length := by
  have h1 := n.pre_le (k := k + 1) hk
  unfold Nd.preB at h1 ⊢
  rw [Nd.pairsB_succ, hl] at h1
  have h2 := textB_ge (bl (n.vals.getD k ByteArray.empty))
  rw [bl_len] at h2
  simp only [List.length_append, if_true] at h1 ⊢
  omega
theorem Nd.pre_succ_leaf (n : Nd) (k : Nat) (hl : n.leaf = true) : n.preB (k + 1) = n.preB k ++ textB (bl (n.keys.getD k ByteArray.empty)) ++ textB (bl (n.vals.getD k ByteArray.empty)) := by
  unfold Nd.preB
  rw [Nd.pairsB_succ, hl]
  simp
theorem Nd.pre_succ_in (n : Nd) (k : Nat) (hl : n.leaf = false) : n.preB (k + 1) = n.preB k ++ textB (bl (n.keys.getD k ByteArray.empty)) := by
  unfold Nd.preB
  rw [Nd.pairsB_succ, hl]
  simp
def kidsB (n : Nd) (j : Nat) : List UInt8 := n.preB n.keys.length ++ (n.kids.take j).flatMap kidB
theorem kidsB_zero (n : Nd) : kidsB n 0 = n.preB n.keys.length := by simp [kidsB]
theorem kidsB_succ (n : Nd) {j : Nat} (hj : j < n.kids.length) : kidsB n (j + 1) = kidsB n j ++ kidB n.kids[j] := by
  unfold kidsB
  rw [List.take_succ_eq_append_getElem hj, List.flatMap_append]
  simp
theorem kidsB_all (n : Nd) {D : Nat} (h : n.kids.length = D) : kidsB n D = n.bytes := by
  unfold kidsB Nd.bytes Nd.preB
  rw [← h, List.take_length]
theorem kidsB_mono (n : Nd) : ∀ {a b : Nat}, a ≤ b → b ≤ n.kids.length → (kidsB n a).length ≤ (kidsB n b).length := by
  intro a b h
  induction h with
  | refl => intro _; exact Nat.le_refl _
  | step h ih =>
    intro hb
    rw [kidsB_succ n (by omega), List.length_append]
    have := ih (by omega)
    omega
theorem kidsB_le (n : Nd) {j : Nat} (hj : j ≤ n.kids.length) : (kidsB n j).length ≤ n.bytes.length := by
  rw [← kidsB_all n rfl]
  exact kidsB_mono n hj (Nat.le_refl _)

set_option maxHeartbeats 8000000 in
theorem put_calls (n : Nd) (ka va da : Option Addr) (K V D kc vc dc : Nat) (w : World) (h : NdAt w n ka va da K V D kc vc dc) (hs : n.leaf = true → V = K) (hB : n.bytes.length ≤ 1048576) (hp : ∀ p ∈ n.kids, 0 ≤ p) :
    Calls Try.prog 18 #[nda n.leaf ka K kc va V vc da D dc] w fun e w' => ∃ v, e = .returned v ∧ Own w.heap.size w' v n.bytes ∧ Ext w w' := by
  have hK := h.bk
  have hD := h.bd_
  have Hh := Lib.hid h
  have HB := Lib.hid hB
  clear h hB
  have hH : ∃ H, n.headN = H := ⟨_, rfl⟩
  obtain ⟨H, hH⟩ := hH
  have HH := Lib.hid hH
  cases hl : n.leaf with
  | true =>
    obtain rfl : V = K := hs hl
    have hHv : H = 2 * V + 1 := by rw [← hH, Nd.headN, hl, Hh.out.hk]; simp
    have hor : bits .or .u64 ((V : Int) * 2) 1 = ((H : Nat) : Int) := by rw [hHv]; exact head_one V hK
    have hH64 : H < 18446744073709551616 := by omega
    have HHv := Lib.hid hHv
    clear hHv hs hH
    go_enter Try.func18, Try.ntmps18
    have hbox : Blk (w.alloc (.cells #[.bool true, .slice ka V kc, .slice va V vc, .slice da D dc] 25)) w.heap.size 25 #[.bool true, .slice ka V kc, .slice va V vc, .slice da D dc] := Blk.new w _ _
    have hx0 : Ext w (w.alloc (.cells #[.bool true, .slice ka V kc, .slice va V vc, .slice da D dc] 25)) := (Ext.refl _).alloc _
    have hbc1 : (w.alloc (.cells #[.bool true, .slice ka V kc, .slice va V vc, .slice da D dc] 25)).cell? ⟨w.heap.size, 1, none⟩ = some (.slice ka V kc) := hbox.cell 1
    go_wp2_with (go_at_call 31; ((with_reducible refine (uint_calls none 0 0 [] H _ (Cells.nil _ _) rfl (Nat.le_refl _) (by omega) hH64).mono ?_); rintro e w1 ⟨v1, rfl, own1, hx1⟩; have c1' := hx1.cell hbc1))
    have own1' : Own w.heap.size w1 v1 (n.preB 0) := by
      have e : n.preB 0 = [] ++ uintB H := by rw [Nd.preB, HH.out]; simp [Nd.pairsB]
      rw [e]
      exact own1.lower hx0.size
    have hbox1 := hbox.ext hx1
    have hx01 : Ext w w1 := hx0.trans hx1
    have hg1 : w.heap.size < w1.heap.size := hbox1.lt
    clear own1 hbox hx0 hx1 hor
    go_loopg [4, 22] V (fun gk v i wr => ∃ k : Nat, k + gk = V ∧ i = .int .i64 k ∧ Aside (Own w.heap.size wr v (n.preB k)) ∧ Ext w wr ∧ Blk wr w.heap.size 25 #[.bool true, .slice ka V kc, .slice va V vc, .slice da D dc])
    case atStart => exact ⟨0, by omega, rfl, own1', hx01, hbox1⟩
    case round =>
      clear own1' hx01 hbox1
      obtain ⟨k, hk, rfl, own, hx, hbx⟩ := hrel
      have b0 : wr.cell? ⟨w.heap.size, 0, none⟩ = some (.bool true) := hbx.cell 0
      have b1 : wr.cell? ⟨w.heap.size, 1, none⟩ = some (.slice ka V kc) := hbx.cell 1
      have b2 : wr.cell? ⟨w.heap.size, 2, none⟩ = some (.slice va V vc) := hbx.cell 2
      have b3 : wr.cell? ⟨w.heap.size, 3, none⟩ = some (.slice da D dc) := hbx.cell 3
      obtain ⟨L, hL⟩ : ∃ L, (n.preB k).length = L := ⟨_, rfl⟩
      obtain ⟨A4, c4, rfl, hl4, hm4, hc4⟩ := Own.form_at own hL
      have HLn := Lib.hid hL
      clear hL
      cases gk with
      | succ j =>
        have hlk : k < n.keys.length := by rw [Hh.out.hk]; omega
        obtain ⟨x, hx', hcell⟩ := (Hh.out.ck.ext hx) k _ (sv_get hlk)
        subst hx'
        have ek : n.keys.getD k ByteArray.empty = n.keys[k] := getD_of' _ _ hlk
        have h1 := n.pre_key hlk
        rw [ek, HLn.out] at h1
        have h2 : L + (n.keys[k]).size ≤ 140737488351232 := by have := HB.out; omega
        have h3 := n.pre_val hlk hl
        have hlv : k < n.vals.length := by rw [Hh.out.hv]; omega
        obtain ⟨y, hy', hcellv⟩ := (Hh.out.cv.ext hx) k _ (sv_get hlv)
        subst hy'
        have ev : n.vals.getD k ByteArray.empty = n.vals[k] := getD_of' _ _ hlv
        have hst := n.pre_succ_leaf k hl
        rw [ek, ev] at h3 hst
        generalize n.vals[k] = t at hcellv h3 hst
        generalize n.keys[k] = s at hcell h1 h2 hst h3
        have Hst := Lib.hid hst
        have H1 := Lib.hid h1
        have H3 := Lib.hid h3
        clear hst h1 ek h3 ev
        obtain ⟨L2, hL2⟩ : ∃ L2, (n.preB k ++ textB (bl s)).length = L2 := ⟨_, rfl⟩
        have h5 : L2 + t.size ≤ 140737488351232 := by have := HB.out; have := H3.out; omega
        have HL2 := Lib.hid hL2
        clear hL2
        go_wp2_with (first
          | (go_at_call 32; ((with_reducible refine (text_calls A4 L c4 (n.preB k) s _ hc4 HLn.out hl4 h2).mono ?_); rintro e w2 ⟨v2, rfl, own2, hx2⟩; have hxx2 := hx.trans hx2; have c0' := hx2.cell b0; have c2' := hx2.cell b2; have cv' := hx2.cell hcellv; have hbx2 := hbx.ext hx2; obtain ⟨A5, c5, hv5, hl5, hm5, hc5⟩ := Own.form_at own2 HL2.out; subst hv5; clear own2))
          | (go_at_call 32; ((with_reducible refine (text_calls A5 L2 c5 (n.preB k ++ textB (bl s)) t _ hc5 HL2.out hl5 h5).mono ?_); rintro e w3 ⟨v3, rfl, own3, hx3⟩; have hxx3 := hxx2.trans hx3; have hbx3 := hbx2.ext hx3; have own3' := own3.lower hxx2.size)))
        go_roundg j
        case measure => omega
        case rel => exact ⟨k + 1, by omega, by go_num, by rw [Hst.out]; exact own3', hxx3, hbx3⟩
      | zero =>
        obtain rfl : k = V := by omega
        have own' : Own w.heap.size wr (.slice A4 L c4) (kidsB n 0) := by rw [kidsB_zero, Hh.out.hk]; exact own
        clear own hk hc4 hl4 hm4
        go_wp2
        go_loopg [4, 43] D (fun gk v i wq => ∃ j : Nat, j + gk = D ∧ i = .int .i64 j ∧ Aside (Own w.heap.size wq v (kidsB n j)) ∧ Ext w wq)
        case atStart => exact ⟨0, by omega, rfl, own', hx⟩
        case round =>
          clear own'
          obtain ⟨j, hj, rfl, own, hxq⟩ := hrel
          obtain ⟨L3, hL3⟩ : ∃ L, (kidsB n j).length = L := ⟨_, rfl⟩
          obtain ⟨A5, c5, rfl, hl5, hm5, hc5⟩ := Own.form_at own hL3
          have HL3 := Lib.hid hL3
          clear hL3
          cases gk with
          | succ i =>
            have hlj : j < n.kids.length := by rw [Hh.out.hd]; omega
            obtain ⟨x, hx', hcell⟩ := (Hh.out.cd.ext hxq) j _ (iv_get hlj)
            subst hx'
            have hst := kidsB_succ n hlj
            have hp0 := hp _ (List.getElem_mem hlj)
            have hp1 := (Hh.out.bd _ (List.getElem_mem hlj)).2
            have h1 := kidsB_le n (j := j) (by omega)
            rw [HL3.out] at h1
            have h2 : L3 ≤ 140737488351232 := by have := HB.out; omega
            generalize n.kids[j] = p at hcell hst hp0 hp1
            obtain ⟨q, rfl⟩ := Int.eq_ofNat_of_zero_le hp0
            have Hst := Lib.hid hst
            have H1 := Lib.hid h1
            clear hst h1
            go_wp2_with (go_at_call 31; ((with_reducible refine (uint_calls A5 L3 c5 (kidsB n j) q _ hc5 HL3.out hl5 h2 (by omega)).mono ?_); rintro e w2 ⟨v2, rfl, own2, hx2⟩; have hxx2 := hxq.trans hx2; have own2' := own2.lower hxq.size))
            go_roundg i
            case measure => omega
            case rel => exact ⟨j + 1, by omega, by go_num, by rw [Hst.out]; exact own2', hxx2⟩
          | zero =>
            obtain rfl : j = D := by omega
            rw [kidsB_all n Hh.out.hd] at own
            go_wp2
            go_ret
            exact ⟨_, rfl, own, hxq⟩
  | false =>
    have hHv : H = 2 * K := by rw [← hH, Nd.headN, hl, Hh.out.hk]; simp
    have hor : bits .or .u64 ((K : Int) * 2) 0 = ((H : Nat) : Int) := by rw [hHv]; exact head_zero K hK
    have hH64 : H < 18446744073709551616 := by omega
    have HHv := Lib.hid hHv
    clear hHv hs hH
    go_enter Try.func18, Try.ntmps18
    have hbox : Blk (w.alloc (.cells #[.bool false, .slice ka K kc, .slice va V vc, .slice da D dc] 25)) w.heap.size 25 #[.bool false, .slice ka K kc, .slice va V vc, .slice da D dc] := Blk.new w _ _
    have hx0 : Ext w (w.alloc (.cells #[.bool false, .slice ka K kc, .slice va V vc, .slice da D dc] 25)) := (Ext.refl _).alloc _
    have hbc1 : (w.alloc (.cells #[.bool false, .slice ka K kc, .slice va V vc, .slice da D dc] 25)).cell? ⟨w.heap.size, 1, none⟩ = some (.slice ka K kc) := hbox.cell 1
    go_wp2_with (go_at_call 31; ((with_reducible refine (uint_calls none 0 0 [] H _ (Cells.nil _ _) rfl (Nat.le_refl _) (by omega) hH64).mono ?_); rintro e w1 ⟨v1, rfl, own1, hx1⟩; have c1' := hx1.cell hbc1))
    have own1' : Own w.heap.size w1 v1 (n.preB 0) := by
      have e : n.preB 0 = [] ++ uintB H := by rw [Nd.preB, HH.out]; simp [Nd.pairsB]
      rw [e]
      exact own1.lower hx0.size
    have hbox1 := hbox.ext hx1
    have hx01 : Ext w w1 := hx0.trans hx1
    have hg1 : w.heap.size < w1.heap.size := hbox1.lt
    clear own1 hbox hx0 hx1 hor
    go_loopg [4, 22] K (fun gk v i wr => ∃ k : Nat, k + gk = K ∧ i = .int .i64 k ∧ Aside (Own w.heap.size wr v (n.preB k)) ∧ Ext w wr ∧ Blk wr w.heap.size 25 #[.bool false, .slice ka K kc, .slice va V vc, .slice da D dc])
    case atStart => exact ⟨0, by omega, rfl, own1', hx01, hbox1⟩
    case round =>
      clear own1' hx01 hbox1
      obtain ⟨k, hk, rfl, own, hx, hbx⟩ := hrel
      have b0 : wr.cell? ⟨w.heap.size, 0, none⟩ = some (.bool false) := hbx.cell 0
      have b1 : wr.cell? ⟨w.heap.size, 1, none⟩ = some (.slice ka K kc) := hbx.cell 1
      have b2 : wr.cell? ⟨w.heap.size, 2, none⟩ = some (.slice va V vc) := hbx.cell 2
      have b3 : wr.cell? ⟨w.heap.size, 3, none⟩ = some (.slice da D dc) := hbx.cell 3
      obtain ⟨L, hL⟩ : ∃ L, (n.preB k).length = L := ⟨_, rfl⟩
      obtain ⟨A4, c4, rfl, hl4, hm4, hc4⟩ := Own.form_at own hL
      have HLn := Lib.hid hL
      clear hL
      cases gk with
      | succ j =>
        have hlk : k < n.keys.length := by rw [Hh.out.hk]; omega
        obtain ⟨x, hx', hcell⟩ := (Hh.out.ck.ext hx) k _ (sv_get hlk)
        subst hx'
        have ek : n.keys.getD k ByteArray.empty = n.keys[k] := getD_of' _ _ hlk
        have h1 := n.pre_key hlk
        rw [ek, HLn.out] at h1
        have h2 : L + (n.keys[k]).size ≤ 140737488351232 := by have := HB.out; omega
        have hst := n.pre_succ_in k hl
        rw [ek] at hst
        generalize n.keys[k] = s at hcell h1 h2 hst
        have Hst := Lib.hid hst
        have H1 := Lib.hid h1
        clear hst h1 ek
        go_wp2_with (go_at_call 32; ((with_reducible refine (text_calls A4 L c4 (n.preB k) s _ hc4 HLn.out hl4 h2).mono ?_); rintro e w2 ⟨v2, rfl, own2, hx2⟩; have hxx2 := hx.trans hx2; have c0' := hx2.cell b0; have hbx2 := hbx.ext hx2; have own2' := own2.lower hx.size))
        go_roundg j
        case measure => omega
        case rel => exact ⟨k + 1, by omega, by go_num, by rw [Hst.out]; exact own2', hxx2, hbx2⟩
      | zero =>
        obtain rfl : k = K := by omega
        have own' : Own w.heap.size wr (.slice A4 L c4) (kidsB n 0) := by rw [kidsB_zero, Hh.out.hk]; exact own
        clear own hk hc4 hl4 hm4
        go_wp2
        go_loopg [4, 43] D (fun gk v i wq => ∃ j : Nat, j + gk = D ∧ i = .int .i64 j ∧ Aside (Own w.heap.size wq v (kidsB n j)) ∧ Ext w wq)
        case atStart => exact ⟨0, by omega, rfl, own', hx⟩
        case round =>
          clear own'
          obtain ⟨j, hj, rfl, own, hxq⟩ := hrel
          obtain ⟨L3, hL3⟩ : ∃ L, (kidsB n j).length = L := ⟨_, rfl⟩
          obtain ⟨A5, c5, rfl, hl5, hm5, hc5⟩ := Own.form_at own hL3
          have HL3 := Lib.hid hL3
          clear hL3
          cases gk with
          | succ i =>
            have hlj : j < n.kids.length := by rw [Hh.out.hd]; omega
            obtain ⟨x, hx', hcell⟩ := (Hh.out.cd.ext hxq) j _ (iv_get hlj)
            subst hx'
            have hst := kidsB_succ n hlj
            have hp0 := hp _ (List.getElem_mem hlj)
            have hp1 := (Hh.out.bd _ (List.getElem_mem hlj)).2
            have h1 := kidsB_le n (j := j) (by omega)
            rw [HL3.out] at h1
            have h2 : L3 ≤ 140737488351232 := by have := HB.out; omega
            generalize n.kids[j] = p at hcell hst hp0 hp1
            obtain ⟨q, rfl⟩ := Int.eq_ofNat_of_zero_le hp0
            have Hst := Lib.hid hst
            have H1 := Lib.hid h1
            clear hst h1
            go_wp2_with (go_at_call 31; ((with_reducible refine (uint_calls A5 L3 c5 (kidsB n j) q _ hc5 HL3.out hl5 h2 (by omega)).mono ?_); rintro e w2 ⟨v2, rfl, own2, hx2⟩; have hxx2 := hxq.trans hx2; have own2' := own2.lower hxq.size))
            go_roundg i
            case measure => omega
            case rel => exact ⟨j + 1, by omega, by go_num, by rw [Hst.out]; exact own2', hxx2⟩
          | zero =>
            obtain rfl : j = D := by omega
            rw [kidsB_all n Hh.out.hd] at own
            go_wp2
            go_ret
            exact ⟨_, rfl, own, hxq⟩
end Go.Proofs.Ytmfmpbeempjeoaa

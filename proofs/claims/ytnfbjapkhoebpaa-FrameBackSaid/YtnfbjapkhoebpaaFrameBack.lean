/- FrameBack: Records that are put one behind the other are split into these; cut anywhere, those ahead of the cut are left: the walk of the law. -/
import Derived.Test.YtnfbjapkhoebpaaFrameWhole
namespace Go.Proofs.Ytnfbjapkhoebpaa
open Go.RowKit
set_option linter.unusedVariables false

theorem bv_take_ (bs : List UInt8) (k : Nat) : bv (bs.take k) = (bv bs).take k := by simp [bv]
theorem sv_take (xs : List (List UInt8)) (k : Nat) : sv (xs.take k) = (sv xs).take k := by simp [sv]

set_option maxRecDepth 50000 in
set_option maxHeartbeats 4000000 in
theorem frameBack_calls (A : Option Addr) (n c : Nat) (xs : List (List UInt8)) (cut : Int) (w : World) (h : Cells w A (sv xs)) (hn : xs.length = n) (hc : n ≤ c) (hl : n ≤ 140737488350000) (hx : ∀ x ∈ xs, x.length ≤ 140737488351232)
    (lo : -9223372036854775808 ≤ cut) (hi : cut ≤ 9223372036854775807) :
    Calls Try.prog 5 #[.slice A n c, .int .i64 cut] w fun e w' => e = .returned (.bool true) ∧ Ext w w' := by
  have hgr := fun w' h' => frame_great A n c xs w' h' hn hl hx
  cases hgb : greatB xs with
  | true =>
    rw [hgb] at hgr
    clear hgb
    go_enter Try.func5, Try.ntmps5
    go_wp2_with (first
      | (go_at_call 8; refine (frame_alive _).mono ?_; rintro e w1 ⟨rfl, hx1⟩)
      | (go_at_call 17; refine (hgr _ (h.ext hx1)).mono ?_; rintro e w2 ⟨rfl, rfl⟩))
    go_ret
    exact ⟨rfl, hx1⟩
  | false =>
    rw [hgb] at hgr
    obtain ⟨hgs, hgn⟩ := greatB_false hgb
    clear hgb
    have hx64 : ∀ x ∈ xs, x.length < 2 ^ 64 := fun x hm => Nat.lt_of_le_of_lt (hx x hm) (by decide)
    have hfl : ∀ k, (frs (xs.take k)).length ≤ 9100 := fun k => by
      have h1 := frs_mono xs k (max k n) (Nat.le_max_left _ _)
      have h2 := frs_len xs hx
      rw [List.take_of_length_le (i := max k n) (by omega)] at h1
      omega
    rw [hn] at hgn
    go_enter Try.func5, Try.ntmps5
    go_wp2_with (first
      | (go_at_call 8; refine (frame_alive _).mono ?_; rintro e w1 ⟨rfl, hx1⟩)
      | (go_at_call 17; refine (hgr _ (h.ext hx1)).mono ?_; rintro e w2 ⟨rfl, rfl⟩))
    go_loopw [5, 6, 17] (fun v m i wr => ∃ (k q N C : Nat) (B : Option Addr), k ≤ n ∧ q ≤ k ∧ v = .slice B N C ∧ m = .int .i64 q ∧ i = .int .i64 k ∧ N ≤ C ∧ N ≤ 9100 ∧ Aside (WholeTo xs cut q k) ∧ Aside ((frs (xs.take k)).length = N) ∧ Cells wr B (bv (frs (xs.take k))) ∧ Ext w wr) (fun _ _ i _ => n - (intOf i).toNat)
    case atStart => exact ⟨0, 0, 0, 0, none, Nat.zero_le _, Nat.le_refl _, rfl, rfl, rfl, Nat.le_refl _, Nat.zero_le _, WholeTo.start _ _, rfl, Cells.nil _ _, hx1⟩
    case round =>
      obtain ⟨k, q, N, C, B, hk, hq, rfl, rfl, rfl, hNC, hN, hW, hL, hb, hxr⟩ := hrel
      by_cases hlt : k < n
      · obtain ⟨x, hxa, cx⟩ := (h.ext hxr).str (i := k) (by omega)
        subst hxa
        have hxl : (xs[k]'(by omega)).length ≤ 8192 := Nat.le_trans (len_le_sum (List.getElem_mem (show k < xs.length by omega))) hgs
        have hnext := frs_next xs k (by omega)
        obtain ⟨t, ht⟩ : ∃ t, t = xs[k]'(by omega) := ⟨_, rfl⟩
        rw [← ht] at cx hxl hnext
        have hput := fun w' h' => fput_calls B N C (frs (xs.take k)) (bstr t) w' h' hL.out hNC (by rw [bstr_size]; omega)
        rw [bstr_data, ← hnext] at hput
        obtain ⟨M, hM⟩ : ∃ M, (frs (xs.take (k + 1))).length = M := ⟨_, rfl⟩
        have hM2 : M ≤ 9100 := by rw [← hM]; exact hfl _
        have HM := Lib.hid hM
        clear hnext ht
        by_cases hcut : (M : Int) ≤ cut
        · have HW := Lib.hid (hW.out.more (by rw [hM]; exact hcut))
          clear hM
          go_wp2_with (go_at_call 11; refine (hput _ hb).mono ?_; rintro e w3 ⟨v3, rfl, hown3, hx3⟩; obtain ⟨A3, c3, rfl, hc3, hm3, hb3⟩ := hown3.form_at HM.out)
          go_roundw
          case rel => exact ⟨k + 1, q + 1, M, c3, A3, by omega, by omega, rfl, by go_num, by go_num, hc3, hM2, HW.out, HM.out, hb3, hxr.trans hx3⟩
          case measure => simp [intOf]; omega
        · have HW := Lib.hid (hW.out.less (by rw [hM]; omega))
          clear hM
          go_wp2_with (go_at_call 11; refine (hput _ hb).mono ?_; rintro e w3 ⟨v3, rfl, hown3, hx3⟩; obtain ⟨A3, c3, rfl, hc3, hm3, hb3⟩ := hown3.form_at HM.out)
          go_roundw
          case rel => exact ⟨k + 1, q, M, c3, A3, by omega, by omega, rfl, by go_num, by go_num, hc3, hM2, HW.out, HM.out, hb3, hxr.trans hx3⟩
          case measure => simp [intOf]; omega
      · obtain rfl : k = n := by omega
        rw [show xs.take k = xs by rw [← hn, List.take_length]] at hL hb
        have hsplit := fun w' h' => fsplit_calls B N C (frs xs) w' h' hL.out hNC (by omega)
        rw [frs_whole xs hx64] at hsplit
        simp only [List.length_nil, Nat.sub_zero] at hsplit
        have hsame := fun A' B' c' d' w' h' h2 => fsame_calls A' B' k k c' d' xs xs w' h' h2 hn hn (by omega) (by omega)
        rw [decide_eq_true rfl] at hsame
        by_cases hq2 : 0 ≤ cut ∧ cut ≤ N
        · obtain ⟨h0, h1⟩ := hq2
          obtain ⟨j, rfl⟩ := Int.eq_ofNat_of_zero_le h0
          have hj : j ≤ N := by omega
          have hjl : ((frs xs).take j).length = j := by rw [List.length_take, hL.out]; omega
          have hWW := hW.out
          have hcutq := WholeTo.cut (xs := xs) (q := j) (m := q) (by rw [hn]; exact hWW) hx64 (by rw [hL.out]; omega)
          have hsplit2 := fun A' C' w' h' (hc' : j ≤ C') => fsplit_calls A' j C' ((frs xs).take j) w' h' hjl hc' (by omega)
          rw [hcutq] at hsplit2
          have hqn : (xs.take q).length = q := by rw [List.length_take]; omega
          have hsame2 := fun A' B' c' d' w' h' h2 => fsame_calls A' B' q q c' d' (xs.take q) (xs.take q) w' h' h2 hqn hqn (by omega) (by omega)
          rw [decide_eq_true rfl] at hsame2
          obtain ⟨R, hR⟩ : ∃ R, R = j - (splitB ((frs xs).take j)).2.length := ⟨_, rfl⟩
          rw [← hR] at hsplit2
          have hRj : R ≤ j := by omega
          clear hWW hcutq hR hjl
          have hjC : j ≤ C := by omega
          have hbt : Cells wr B (bv ((frs xs).take j)) := by rw [bv_take_]; exact hb.take j
          have hst : Cells w A (sv (xs.take q)) := by rw [sv_take]; exact h.take q
          go_wp2_with (first
            | (go_at_call 13; (with_reducible refine (hsplit _ hb).mono ?_); rintro e w3 ⟨v3, rfl, hown3, hx3⟩; have hx13 := hxr.trans hx3; obtain ⟨A3, c3, rfl, hc3, hm3, hb3⟩ := hown3.form_at hn)
            | (go_at_call 13; (with_reducible refine (hsplit2 _ _ _ (hbt.ext (hx3.trans hx4)) hjC).mono ?_); rintro e w5 ⟨v5, rfl, hown5, hx5⟩; have hx15 := hx14.trans hx5; obtain ⟨A5, c5, rfl, hc5, hm5, hb5⟩ := hown5.form_at hqn)
            | (go_at_call 16; (with_reducible refine (hsame _ _ _ _ _ hb3 (h.ext hx13)).mono ?_); rintro e w4 ⟨rfl, hx4⟩; have hx14 := hx13.trans hx4)
            | (go_at_call 16; (with_reducible refine (hsame2 _ _ _ _ _ hb5 (hst.ext hx15)).mono ?_); rintro e w6 ⟨rfl, hx6⟩; have hx16 := hx15.trans hx6))
          all_goals (first | (go_ret; exact ⟨rfl, hx16⟩) | (trace_state; sorry))
        · go_wp2_with (first
            | (go_at_call 13; (with_reducible refine (hsplit _ hb).mono ?_); rintro e w3 ⟨v3, rfl, hown3, hx3⟩; have hx13 := hxr.trans hx3; obtain ⟨A3, c3, rfl, hc3, hm3, hb3⟩ := hown3.form_at hn)
            | (go_at_call 16; (with_reducible refine (hsame _ _ _ _ _ hb3 (h.ext hx13)).mono ?_); rintro e w4 ⟨rfl, hx4⟩; have hx14 := hx13.trans hx4))
          all_goals (first | (go_ret; exact ⟨rfl, hx14⟩) | (trace_state; sorry))
end Go.Proofs.Ytnfbjapkhoebpaa

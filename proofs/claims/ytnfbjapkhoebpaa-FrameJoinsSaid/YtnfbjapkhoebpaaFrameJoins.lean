/- FrameJoins: Records' bytes that are put together are split into the records of the first ones and then of the others: the walk of the law. -/
import Derived.Test.YtnfbjapkhoebpaaFrameWhole
namespace Go.Proofs.Ytnfbjapkhoebpaa
open Go.RowKit
set_option linter.unusedVariables false

theorem OwnS.lit0 (w : World) : OwnS w.heap.size (w.alloc (.cells #[] 9)) (.slice (some ⟨w.heap.size, 0, none⟩) 0 0) [] :=
  own_lit (e := 9) #[] (Nat.le_refl _) (by simp [maxLen]) rfl
theorem OwnS.keptOf {w0 w w' : World} {B : Nat} {v u : Value} {xs : List (List UInt8)} {bs : List UInt8} (h : OwnS w0.heap.size w v xs) (hu : Own B w0 u bs) (hg : w.grownBy w' u.ownBlock) : OwnS w0.heap.size w' v xs := by
  refine World.ownsRow.kept h hg ?_
  cases hv : v.ownBlock with
  | none => exact .inl rfl
  | some k =>
    refine .inr fun e => ?_
    have h1 := own_lt h hv
    have h2 := hu.lt e.symm
    omega
theorem OwnS.cells {B : Nat} {w : World} {A : Option Addr} {n c : Nat} {xs : List (List UInt8)} (h : OwnS B w (.slice A n c) xs) : Cells w A (sv xs) := by
  obtain ⟨A', c', e, _, _, hc⟩ := h.form
  injection e with e1
  rw [e1]
  exact hc

set_option maxRecDepth 50000 in
set_option maxHeartbeats 4000000 in
theorem frameJoins_calls (A : Option Addr) (n c : Nat) (xs : List (List UInt8)) (A2 : Option Addr) (n2 c2 : Nat) (bs : List UInt8) (w : World) (h : Cells w A (sv xs)) (hn : xs.length = n) (hc : n ≤ c) (hl : n ≤ 140737488350000) (hx : ∀ x ∈ xs, x.length ≤ 140737488351232)
    (hb0 : Cells w A2 (bv bs)) (hn2 : bs.length = n2) (hc2 : n2 ≤ c2) (hl2 : n2 ≤ 140737488351232) :
    Calls Try.prog 7 #[.slice A n c, .slice A2 n2 c2] w fun e w' => e = .returned (.bool true) ∧ Ext w w' := by
  have hgr := fun w' h' => frame_great A n c xs w' h' hn hl hx
  cases hgb : greatB xs with
  | true =>
    rw [hgb] at hgr
    clear hgb
    go_enter Try.func7, Try.ntmps7
    go_wp2_with (first
      | (go_at_call 8; (with_reducible refine (frame_alive _).mono ?_); rintro e w1 ⟨rfl, hx1⟩)
      | (go_at_call 17; (with_reducible refine (hgr _ (h.ext hx1)).mono ?_); rintro e w2 ⟨rfl, rfl⟩))
    go_ret
    exact ⟨rfl, hx1⟩
  | false =>
    rw [hgb] at hgr
    obtain ⟨hgs, hgn⟩ := greatB_false hgb
    clear hgb
    by_cases hbig : 4096 < n2
    · clear hgs hgn
      go_enter Try.func7, Try.ntmps7
      go_wp2_with (first
        | (go_at_call 8; (with_reducible refine (frame_alive _).mono ?_); rintro e w1 ⟨rfl, hx1⟩)
        | (go_at_call 17; (with_reducible refine (hgr _ (h.ext hx1)).mono ?_); rintro e w2 ⟨rfl, rfl⟩))
      go_ret
      exact ⟨rfl, hx1⟩
    have hx64 : ∀ x ∈ xs, x.length < 2 ^ 64 := fun x hm => Nat.lt_of_le_of_lt (hx x hm) (by decide)
    have hfl : ∀ k, (frs (xs.take k)).length ≤ 9100 := fun k => by
      have h1 := frs_mono xs k (max k n) (Nat.le_max_left _ _)
      have h2 := frs_len xs hx
      rw [List.take_of_length_le (i := max k n) (by omega)] at h1
      omega
    rw [hn] at hgn
    go_enter Try.func7, Try.ntmps7
    go_wp2_with (first
      | (go_at_call 8; (with_reducible refine (frame_alive _).mono ?_); rintro e w1 ⟨rfl, hx1⟩)
      | (go_at_call 17; (with_reducible refine (hgr _ (h.ext hx1)).mono ?_); rintro e w2 ⟨rfl, rfl⟩))
    go_loopw [5, 24] (fun v i wr => ∃ (k N C : Nat) (B : Option Addr), k ≤ n ∧ v = .slice B N C ∧ i = .int .i64 k ∧ N ≤ C ∧ N ≤ 9100 ∧ Aside ((frs (xs.take k)).length = N) ∧ Aside (Own w.heap.size wr (.slice B N C) (frs (xs.take k))) ∧ Ext w wr) (fun _ i _ => n - (intOf i).toNat)
    case atStart => exact ⟨0, 0, 0, none, Nat.zero_le _, rfl, rfl, Nat.le_refl _, Nat.zero_le _, rfl, Own.nil _ _, hx1⟩
    case round =>
      obtain ⟨k, N, C, B, hk, rfl, rfl, hNC, hN, hL, hO, hxr⟩ := hrel
      have hb := hO.out.cells
      by_cases hlt : k < n
      · obtain ⟨x, hxa, cx⟩ := (h.ext hxr).str (i := k) (by omega)
        subst hxa
        have hxl : (xs[k]'(by omega)).length ≤ 8192 := Nat.le_trans (len_le_sum (List.getElem_mem (show k < xs.length by omega))) hgs
        have hnext := frs_next xs k (by omega)
        obtain ⟨t, ht⟩ : ∃ t, t = xs[k]'(by omega) := ⟨_, rfl⟩
        rw [← ht] at cx hxl hnext
        have hput := fun w' h' => fput_calls B N C (frs (xs.take k)) (bstr t) w' h' hL.out hNC (by rw [bstr_size]; omega)
        rw [bstr_data, ← hnext] at hput
        obtain ⟨M, hM⟩ : ∃ M, (frs (xs.take (k + 1))).length = M := ⟨_, rfl⟩
        have hM2 : M ≤ 9100 := by rw [← hM]; exact hfl _
        have HM := Lib.hid hM
        clear hnext ht hM
        go_wp2_with (go_at_call 11; (with_reducible refine (hput _ hb).mono ?_); rintro e w3 ⟨v3, rfl, hown3, hx3⟩; obtain ⟨A3, c3, rfl, hc3, hm3, hb3⟩ := hown3.form_at HM.out)
        go_roundw
        case rel => exact ⟨k + 1, M, c3, A3, by omega, rfl, by go_num, hc3, hM2, HM.out, hown3.lower hxr.size, hxr.trans hx3⟩
        case measure => simp [intOf]; omega
      · obtain rfl : k = n := by omega
        rw [show xs.take k = xs by rw [← hn, List.take_length]] at hL hb hO
        obtain ⟨⟨ys, r⟩, hsp⟩ : ∃ p, splitB bs = p := ⟨_, rfl⟩
        have hle := splitB_len bs
        rw [hsp] at hle
        simp only [] at hle
        have hrl : r.length ≤ n2 := by rw [← hn2]; exact hle.2
        have hyl : ys.length ≤ n2 := by rw [← hn2]; exact hle.1
        have hsplit := fun w' h' => fsplit_calls A2 n2 c2 bs w' h' hn2 hc2 (by omega)
        have hall : splitB (frs xs ++ bs) = (xs ++ ys, r) := by rw [splitB_frs xs hx64, hsp]
        obtain ⟨T, hT⟩ : ∃ T, N + n2 = T := ⟨_, rfl⟩
        have hTl : (frs xs ++ bs).length = T := by rw [List.length_append, hL.out, hn2, hT]
        have hsplit2 := fun A' C' w' h' (hc' : T ≤ C') => fsplit_calls A' T C' (frs xs ++ bs) w' h' hTl hc' (by omega)
        rw [hsp] at hsplit
        rw [hall] at hsplit2
        simp only [] at hsplit hsplit2
        obtain ⟨K, hK⟩ : ∃ K, K = n2 - r.length := ⟨_, rfl⟩
        have hK2 : T - r.length = N + K := by omega
        have hKl : K ≤ n2 := by omega
        rw [← hK] at hsplit
        rw [hK2] at hsplit2
        obtain ⟨m, hm⟩ : ∃ m, ys.length = m := ⟨_, rfl⟩
        have hxy : (xs ++ ys).length = k + m := by rw [List.length_append, hn, hm]
        have hsame := fun A' B' c' d' w' h' h2 => fsame_calls A' B' (k + m) (k + m) c' d' (xs ++ ys) (xs ++ ys) w' h' h2 hxy hxy (by omega) (by omega)
        rw [decide_eq_true rfl] at hsame
        have hfin : ((((N + K : Nat) : Int) == (N : Int) + (K : Int)) : Bool) = true := by rw [beq_iff_eq]; omega
        have hTb : T ≤ 14000 := by omega
        have hmb : m ≤ 4096 := by omega
        have HT := Lib.hid hT
        clear hle hsp hall hK hK2 hT hrl hyl hx64 hfl
        go_wp2_with (first
          | (go_at_call 13; (with_reducible refine (hsplit _ (hb0.ext hxr)).mono ?_); rintro e w3 ⟨v3, rfl, hown3, hx3⟩; have hx13 := hxr.trans hx3; obtain ⟨A3, c3, rfl, hc3, hm3, hb3⟩ := hown3.form_at hm)
          | (at_builtin; refine wpList_append_u8 _ rfl (.tmp 40) (.tmp 41) rfl w.heap.size _ (frs xs) rfl (hO.out.ext hx3) A2 n2 c2 bs rfl hn2 (hb0.ext hx13) (by rw [hL.out]; omega) hx13.size ?_; intro v4 w4 hown4 hg4 _; have hx4 : Ext w w4 := (hO.out.ext hx3).grows hx13 hg4; have hown34 := hown3.keptOf (hO.out) hg4; obtain ⟨A4, c4, rfl, hc4, hm4, hb4⟩ := hown4.form_at hTl)
          | (go_at_call 13; (with_reducible refine (hsplit2 _ _ _ hb4 hc4).mono ?_); rintro e w5 ⟨v5, rfl, hown5, hx5⟩; have hx15 := hx4.trans hx5; obtain ⟨A5, c5, rfl, hc5, hm5, hb5⟩ := hown5.form_at hxy)
          | (at_builtin; refine wpList_append_strs _ rfl (.tmp 47) (.tmp 48) rfl w5.heap.size (.slice (some ⟨w5.heap.size, 0, none⟩) 0 0) [] rfl (OwnS.lit0 w5) A k c xs rfl hn (h.ext (hx15.alloc _)) (by simp; omega) (by simp) ?_; intro v6 w6 hown6 hg6; have hx56 : Ext w5 w6 := (OwnS.lit0 w5).grows ((Ext.refl _).alloc _) hg6; have hx16 := hx15.trans hx56; rw [List.nil_append] at hown6)
          | (at_builtin; refine wpList_append_strs _ rfl (.tmp 49) (.tmp 50) rfl w5.heap.size v6 xs rfl hown6 A3 m c3 ys rfl hm (hown34.cells.ext (hx5.trans hx56)) (by rw [hn]; omega) hx56.size ?_; intro v7 w7 hown7 hg7; have hx57 : Ext w5 w7 := hown6.grows hx56 hg7; have hx17 := hx15.trans hx57; obtain ⟨A7, c7, rfl, hc7, hm7, hb7⟩ := hown7.form_at hxy)
          | (go_at_call 16; (with_reducible refine (hsame _ _ _ _ _ (hb5.ext hx57) hb7).mono ?_); rintro e w8 ⟨rfl, hx8⟩; have hx18 := hx17.trans hx8))
        all_goals (first | (go_ret; exact ⟨ret_bool hfin, hx18⟩) | (go_ret; exact ⟨rfl, hx18⟩) | (trace_state; sorry))
end Go.Proofs.Ytnfbjapkhoebpaa

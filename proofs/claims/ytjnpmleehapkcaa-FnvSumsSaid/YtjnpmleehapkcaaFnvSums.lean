/- FnvSums: Sum and Bytes answer what the document says: the walk of the law. -/
import Derived.Test.YtjnpmleehapkcaaFnvBytes
import Derived.Deep.RegionWith
namespace Go.Proofs.Ytjnpmleehapkcaa
open Go.RowKit
set_option linter.unusedVariables false

theorem refSum_calls (s : ByteArray) (w : World) (hs : s.size ≤ maxLen) :
    Calls Try.prog 13 #[.string s] w fun e w' => e = .returned (.int .u64 (fnv s.data.toList).toNat) ∧ w = w' := by
  unfold maxLen at hs
  have hlen := str_len s
  have HL := Lib.hid hlen
  clear hlen
  go_enter Try.func13, Try.ntmps13
  go_wp2
  go_loop [3, 4] (fun v i => ∃ k : Nat, k ≤ s.size ∧ i = .int .i64 k ∧ v = .int .u64 (fnv (s.data.toList.take k)).toNat) (fun _ i => s.size - (intOf i).toNat)
  case atStart => exact ⟨0, Nat.zero_le _, rfl, rfl⟩
  case round =>
    obtain ⟨k, hk, rfl, rfl⟩ := hrel
    by_cases hlt : k < s.size
    · go_wp2_with (go_at_call 9; refine (step_ref_calls _ _ _).mono ?_; rintro e w' ⟨rfl, rfl⟩)
      go_round
      case rel =>
        have hl2 : k < s.data.toList.length := by rw [str_len]; exact hlt
        exact ⟨k + 1, by omega, by go_num, by rw [str_get s k hlt, fnv, fnv, more_take _ _ _ hl2]⟩
      case measure => simp [intOf]; omega
    · go_wp2
      go_ret
      obtain rfl : k = s.size := by omega
      rw [← HL.out, List.take_length]
      exact ⟨rfl, rfl⟩

theorem refSum_bytes (s : ByteArray) (bs : List UInt8) (h : s.data.toList = bs) (w : World) (hs : s.size ≤ maxLen) :
    Calls Try.prog 13 #[.string s] w fun e w' => e = .returned (.int .u64 (fnv bs).toNat) ∧ w = w' := by
  subst h; exact refSum_calls s w hs

set_option maxHeartbeats 2000000 in
theorem sums_calls (a : Option Addr) (c : Nat) (xs : List (List UInt8)) (n : BitVec 64) (w : World) (h : BSs w a xs) (hl : xs.length ≤ 140737488351232) (hl2 : ∀ x ∈ xs, x.length ≤ 140737488351232) :
    Calls Try.prog 7 #[.slice a xs.length c, .int .u64 n.toNat] w fun e w' => e = .returned (.bool true) ∧ Ext w w' := by
  go_enter Try.func7, Try.ntmps7
  go_wp2_with (go_at_call 8; refine (fnv_alive _).mono ?_; rintro e w1 ⟨rfl, hx1⟩)
  have h1 := h.ext hx1
  go_loopg [5, 13] xs.length (fun r v i wr => ∃ k : Nat, ∃ s : ByteArray, k + r = xs.length ∧ i = .int .i64 k ∧ v = .string s ∧ Aside (s = bstr (xs.take k).flatten) ∧ s.size ≤ 16384 ∧ (0 < k → xs.length ≤ 200) ∧ wr = w1)
  case atStart => exact ⟨0, ByteArray.empty, by omega, rfl, rfl, rfl, by decide, fun h => absurd h (by omega), rfl⟩
  case round =>
    obtain ⟨k, s, hk, rfl, rfl, hs, hsz, h200, rfl⟩ := hrel
    by_cases hlt : k < xs.length
    · obtain ⟨x, b, cb, hx, hcell, _, hb⟩ := h1.get hlt
      subst hx
      have hlen : xs[k].length ≤ 140737488351232 := hl2 _ (List.getElem_mem hlt)
      have hcv := conv_str (P := Try.prog) Try.underlying23 Try.underlying5 Try.underlying9 (c := cb) rfl hb
      by_cases hgo : s.size + xs[k].length ≤ 16384 ∧ xs.length ≤ 200
      · obtain ⟨hg1, hg2⟩ := hgo
        clear h200
        have hbz := bstr_size xs[k]
        go_wp2
        obtain ⟨r, rfl⟩ : ∃ r, gk = r + 1 := ⟨gk - 1, by omega⟩
        go_roundg r
        case measure => omega
        case rel =>
          refine ⟨k + 1, s ++ bstr xs[k], by omega, by go_num, rfl, ?_, by rw [str_append_size, bstr_size]; exact hg1, fun _ => hg2, rfl⟩
          show s ++ bstr xs[k] = _
          rw [show s = _ from hs, bstr_append, List.take_succ_eq_append_getElem hlt, List.flatten_append]
          simp
      · by_cases hg1 : s.size + xs[k].length ≤ 16384
        · have hg2 : ¬ xs.length ≤ 200 := fun h => hgo ⟨hg1, h⟩
          clear hgo h200
          go_wp2
          go_ret
          exact ⟨rfl, hx1⟩
        · clear hgo h200
          go_wp2
          go_ret
          exact ⟨rfl, hx1⟩
    · obtain rfl : k = xs.length := by omega
      have hsd : s.data.toList = xs.flatten := by rw [show s = _ from hs, bstr_data, List.take_length]
      have HS := Lib.hid hsd
      clear hsd h200
      have hz0 : (arr8 n 8).size = 8 := arr8_size n 8
      go_wp2_with (first
        | (go_at_call 12; refine (fnvBytes_calls n _).mono ?_; rintro e w2 ⟨rfl, hx2⟩)
        | (refine wpList_store_blk rfl 33 (.tmp 8) (.tmp 34) rfl rfl w2.heap.size (arr8 n 8) rfl rfl _ _ (Blk.new w2 _ _) rfl (by kernel_rfl) ?_ ?_; (rw [arr8_all]; exact bv_cells _); intro w3 hb3 hg3))
      have hx12 := hx1.trans hx2
      have hx3 : Ext w w3 := (hx12.alloc _).grown_ hg3 (by simp; exact hx12.size)
      have h3 : BSs w3 a xs := h.ext hx3
      have hcv := conv_str (P := Try.prog) Try.underlying23 Try.underlying5 Try.underlying9 (c := 8) (bs := bytes8 n) (n := 8) rfl (by rw [← arr8_all]; exact hb3.cells)
      have hlx : xs.length ≤ maxLen := by simp only [maxLen]; omega
      have hlx2 : ∀ x ∈ xs, x.length ≤ maxLen := fun x hx => by have := hl2 x hx; simp only [maxLen]; omega
      have hsm : s.size ≤ maxLen := by simp only [maxLen]; omega
      have h3d : BSs w3.drew a xs := h3
      have hx3d : Ext w w3.drew := hx3.drew
      have hB : Cells w3.drew (some ⟨w2.heap.size, 0, none⟩) (bv (bytes8 n)) := by rw [← arr8_all]; exact hb3.cells
      have hcvd := conv_str (P := Try.prog) Try.underlying23 Try.underlying5 Try.underlying9 (c := 8) (bs := bytes8 n) (n := 8) rfl hB
      clear hcv h3 hx3 h1 hx12
      go_region_with (first
        | (go_at_call 11; refine (sum_calls a c xs _ h3d hlx hlx2).mono ?_; rintro e w' ⟨rfl, rfl⟩)
        | (go_at_call 13; refine (refSum_bytes s _ HS.out _ hsm).mono ?_; rintro e w' ⟨rfl, rfl⟩)
        | (go_at_call 14; refine (refBytes_calls n _).mono ?_; rintro e w4 ⟨rfl, hx4⟩; have hcv4 := conv_str (P := Try.prog) Try.underlying23 Try.underlying5 Try.underlying9 (c := 8) (bs := bytes8 n) (n := 8) rfl (hB.ext hx4)))
      all_goals
        go_wp2
        go_ret
        exact ⟨rfl, hx3d.trans hx4⟩
end Go.Proofs.Ytjnpmleehapkcaa

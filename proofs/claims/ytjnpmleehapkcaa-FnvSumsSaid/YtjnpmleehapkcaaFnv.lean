/- The walks of package fnv: More and Sum, by what they compute. -/
import Derived.Test.YtjnpmleehapkcaaBase
import Derived.Test.YtjnpmleehapkcaaFnvPure
namespace Go.Proofs.Ytjnpmleehapkcaa
open Go.RowKit
set_option linter.unusedVariables false

theorem more_calls (s : BitVec 64) (a : Option Addr) (n c : Nat) (bs : List UInt8) (w : World) (h : Cells w a (bv bs)) (hn : bs.length = n) (hl : n ≤ maxLen) :
    Calls Try.prog 10 #[.int .u64 s.toNat, .slice a n c] w fun e w' => e = .returned (.int .u64 (more s bs).toNat) ∧ w = w' := by
  subst hn
  unfold maxLen at hl
  go_enter Try.func10, Try.ntmps10
  go_wp2
  go_loop [0, 9] (fun v i => ∃ k : Nat, k ≤ bs.length ∧ i = .int .i64 k ∧ v = .int .u64 (more s (bs.take k)).toNat) (fun _ i => bs.length - (intOf i).toNat)
  case atStart => exact ⟨0, Nat.zero_le _, rfl, rfl⟩
  case round =>
    obtain ⟨k, hk, rfl, rfl⟩ := hrel
    by_cases hlt : k < bs.length
    · obtain ⟨x, hx, hcell⟩ := h.byte hlt
      subst hx
      go_wp2
      go_round
      case rel => exact ⟨k + 1, by omega, by go_num, by rw [more_take _ _ _ hlt, step_int]⟩
      case measure => simp [intOf]; omega
    · go_wp2
      go_ret
      have : k = bs.length := by omega
      subst this
      simp

theorem sum_calls (a : Option Addr) (c : Nat) (xs : List (List UInt8)) (w : World) (h : BSs w a xs) (hl : xs.length ≤ maxLen) (hl2 : ∀ x ∈ xs, x.length ≤ maxLen) :
    Calls Try.prog 11 #[.slice a xs.length c] w fun e w' => e = .returned (.int .u64 (fnv xs.flatten).toNat) ∧ w = w' := by
  unfold maxLen at hl
  go_enter Try.func11, Try.ntmps11
  go_wp2
  go_loop [3, 8] (fun v i => ∃ k : Nat, k ≤ xs.length ∧ i = .int .i64 k ∧ v = .int .u64 (fnv (xs.take k).flatten).toNat) (fun _ i => xs.length - (intOf i).toNat)
  case atStart => exact ⟨0, Nat.zero_le _, rfl, rfl⟩
  case round =>
    obtain ⟨k, hk, rfl, rfl⟩ := hrel
    by_cases hlt : k < xs.length
    · obtain ⟨x, b, cb, hx, hcell, _, hb⟩ := h.get hlt
      subst hx
      have hlen : xs[k].length ≤ maxLen := hl2 _ (List.getElem_mem hlt)
      go_wp2_with (go_at_call 10; refine (more_calls _ _ _ _ _ _ hb rfl hlen).mono ?_; rintro e w' ⟨rfl, rfl⟩)
      go_round
      case rel => exact ⟨k + 1, by omega, by go_num, by rw [fnv_take _ _ hlt]⟩
      case measure => simp [intOf]; omega
    · go_wp2
      go_ret
      have : k = xs.length := by omega
      subst this
      simp

theorem sum_nil_calls (w : World) :
    Calls Try.prog 11 #[.slice none 0 0] w fun e w' => e = .returned (.int .u64 14695981039346656037) ∧ w = w' :=
  (sum_calls none 0 [] w (fun i bs h => by simp at h) (by simp [maxLen]) (by simp)).mono fun e w' ⟨h1, h2⟩ => ⟨h1.trans (by rw [show fnv ([] : List (List UInt8)).flatten = 14695981039346656037#64 from rfl]; rfl), h2⟩

theorem sum_one_calls (x : Addr) (a : Option Addr) (n c d : Nat) (bs : List UInt8) (w : World) (hx : w.cell? x = some (.slice a n c)) (hc : n ≤ c) (h : Cells w a (bv bs)) (hn : bs.length = n) (hl : n ≤ maxLen) :
    Calls Try.prog 11 #[.slice (some x) 1 d] w fun e w' => e = .returned (.int .u64 (fnv bs).toNat) ∧ w = w' := by
  subst hn
  have k := sum_calls (some x) d [bs] w (fun i b hb => by
    obtain ⟨hi, rfl⟩ := List.getElem?_eq_some_iff.1 hb
    have : i = 0 := by simpa using hi
    subst this
    exact ⟨x, _, rfl, hx, a, c, rfl, hc, h⟩) (by simp [maxLen]) (by simpa using hl)
  simpa using k

theorem alive_b : ((((fnv [97]).toNat : Nat) : Int) == 12638187200555641996) = true := by rw [alive_a]; decide

theorem fnv_alive (w : World) : Calls Try.prog 8 #[] w fun e w' => e = .returned (.bool true) ∧ Ext w w' := by
  have kc := fun (w : World) (C : Array Value) (n c : Nat) => Lib.run_convert_bytes_const (P := Try.prog) w 23 5 C n c Try.underlying23 Try.underlying5
  go_enter Try.func8, Try.ntmps8
  go_wp2_with (first | (go_at_call 11; ((with_reducible refine (sum_nil_calls _).mono ?_); rintro e w' ⟨rfl, rfl⟩)) | (go_at_call 11; ((with_reducible refine (sum_one_calls _ (some ⟨w.heap.size, 0, none⟩) 1 1 1 [97] _ ?h1 ?h2 ?h3 rfl ?h4).mono ?_); (case h1 => (go_simp; done)); (case h2 => decide); (case h3 => exact (Cells.new w #[.int .u8 97] _ _).ext ((Ext.refl _).alloc _)); (case h4 => simp [maxLen]); rintro e w' ⟨rfl, rfl⟩)))
  go_ret
  exact ⟨ret_bool alive_b, ((Ext.refl _).alloc _).alloc _⟩

end Go.Proofs.Ytjnpmleehapkcaa

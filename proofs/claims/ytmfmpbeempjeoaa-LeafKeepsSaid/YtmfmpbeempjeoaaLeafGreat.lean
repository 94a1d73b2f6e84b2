/- The walk of the reference's Great, layer 7, and what it bounds. -/
import Derived.Test.YtmfmpbeempjeoaaLeafPut
namespace Go.Proofs.Ytmfmpbeempjeoaa
open Go.RowKit
set_option linter.unusedVariables false

/-- How much strings are, one more for each. -/
def ksum (xs : List ByteArray) : Nat := (xs.map fun s => s.size + 1).sum
theorem ksum_take (xs : List ByteArray) {k : Nat} (h : k < xs.length) : ksum (xs.take (k + 1)) = ksum (xs.take k) + (xs[k].size + 1) := by
  unfold ksum
  rw [List.take_succ_eq_append_getElem h, List.map_append, List.sum_append]
  simp
theorem ksum_le (xs : List ByteArray) (k : Nat) : ksum (xs.take k) ≤ ksum xs := by
  have h := congrArg (fun l => (l.map fun s : ByteArray => s.size + 1).sum) (List.take_append_drop k xs)
  simp only [List.map_append, List.sum_append] at h
  unfold ksum
  omega
def Nd.tot (n : Nd) : Nat := n.kids.length + ksum n.keys + ksum n.vals

theorem ksum_getD (xs : List ByteArray) (k : Nat) : ksum (xs.take k) + (xs.getD k ByteArray.empty).size ≤ ksum (xs.take (k + 1)) := by
  by_cases h : k < xs.length
  · rw [ksum_take xs h, getD_of' _ _ h]; omega
  · rw [List.take_of_length_le (by omega), List.take_of_length_le (by omega)]
    have e : xs.getD k ByteArray.empty = ByteArray.empty := by rw [List.getD_eq_getElem?_getD, List.getElem?_eq_none (by omega)]; rfl
    rw [e]
    exact Nat.le_refl _
theorem textB_le (s : List UInt8) (h : s.length < 2 ^ 64) : (textB s).length ≤ 10 + s.length := by
  unfold textB
  rw [List.length_append]
  have := sizeN_64 h
  unfold sizeN at this
  omega
theorem pairs_bound (n : Nd) (hk : ∀ s ∈ n.keys, s.size ≤ 140737488351232) (hv : ∀ s ∈ n.vals, s.size ≤ 140737488351232) : ∀ k, (n.pairsB k).length ≤ 20 * k + ksum (n.keys.take k) + ksum (n.vals.take k) := by
  have small : ∀ (xs : List ByteArray), (∀ s ∈ xs, s.size ≤ 140737488351232) → ∀ k, (bl (xs.getD k ByteArray.empty)).length < 2 ^ 64 := by
    intro xs h k
    rw [bl_len]
    by_cases hk : k < xs.length
    · rw [getD_of' _ _ hk]
      have := h _ (List.getElem_mem hk)
      omega
    · have e : xs.getD k ByteArray.empty = ByteArray.empty := by rw [List.getD_eq_getElem?_getD, List.getElem?_eq_none (by omega)]; rfl
      rw [e]
      decide
  intro k
  induction k with
  | zero => simp [Nd.pairsB]
  | succ k ih =>
    rw [Nd.pairsB_succ, List.length_append, List.length_append]
    have h1 := textB_le _ (small n.keys hk k)
    have h2 := textB_le _ (small n.vals hv k)
    have h3 := ksum_getD n.keys k
    have h4 := ksum_getD n.vals k
    rw [bl_len] at h1 h2
    split
    · omega
    · rw [List.length_nil]; omega
theorem kidsB_bound (n : Nd) (xs : List Int) (h : ∀ p ∈ xs, p ≤ 9223372036854775807) : (xs.flatMap kidB).length ≤ 10 * xs.length := by
  induction xs with
  | nil => simp
  | cons x xs ih =>
    rw [List.flatMap_cons, List.length_append, List.length_cons]
    have h1 := ih fun p hp => h p (by simp [hp])
    have hx := h x (by simp)
    have h2 : (kidB x).length ≤ 10 := by
      have := sizeN_64 (n := x.toNat) (by omega)
      exact this
    omega
theorem ksum_len (xs : List ByteArray) : xs.length ≤ ksum xs := by
  induction xs with
  | nil => simp [ksum]
  | cons x xs ih => unfold ksum at ih ⊢; simp; omega
theorem bytes_bound {w : World} {n : Nd} {ka va da : Option Addr} {K V D kc vc dc : Nat} (h : NdAt w n ka va da K V D kc vc dc) (ht : n.tot ≤ 8192) : n.bytes.length ≤ 1048576 := by
  have h1 := pairs_bound n h.sk h.sv_ n.keys.length
  have h2 := kidsB_bound n n.kids fun p hp => (h.bd p hp).2
  have h3 := ksum_le n.keys n.keys.length
  have h4 := ksum_le n.vals n.keys.length
  have h5 := ksum_len n.keys
  have h6 := sizeN_64 (n := n.headN) (by
    have := h.bk
    unfold Nd.headN
    rw [h.hk]
    split <;> omega)
  unfold sizeN at h6
  unfold Nd.tot at ht
  unfold Nd.bytes
  simp only [List.length_append]
  omega

/-- A part of an array of slices. -/
theorem run_index_sl {P : Program} {w : World} {t e x : TypeId} {n : Nat} {cs : Array Value} {k : Nat} {v : Value} (hu : P.underlying t = some (.array n e)) (hs : (P.info? e).map (·.size) = some 1) (hc : cs[k]? = some v) (hk : k < n)
    (he : P.underlying e = some (.slice x)) (z : Int) (hz : z = (k : Int)) : (Instr.index t (.agg cs) (.int .i64 z)).run P w = .ok v w := by
  subst hz
  cases hq : P.info? e with
  | none => simp [hq] at hs
  | some i =>
    have hi : i.size = 1 := by simpa [hq] using hs
    simp [Instr.index, asIntOf, run_underlying hu, sizeOf, typeInfo, hq, hi, hk, part, isAgg, run_underlying he, hc]

set_option maxHeartbeats 4000000 in
theorem great_calls (n : Nd) (l : Bool) (M : Nat) (Z : Int) (hZ : Z = (M : Int)) (ka va da : Option Addr) (K V D kc vc dc : Nat) (w : World) (h : NdAt w n ka va da K V D kc vc dc) (hM : M ≤ 1048576) :
    Calls Try.prog 9 #[nda l ka K kc va V vc da D dc, .int .i64 Z] w fun e w' => e = .returned (.bool (decide (M < n.tot))) ∧ Ext w w' := by
  subst hZ
  have hK := h.bk
  have hV := h.bv_
  have hD := h.bd_
  have Hh := Lib.hid h
  clear h
  have htt : n.tot = D + ksum n.keys + ksum n.vals := by unfold Nd.tot; rw [Hh.out.hd]
  have Htt := Lib.hid htt
  clear htt
  go_enter Try.func9, Try.ntmps9
  have hx0 : Ext w (w.alloc (.cells #[.bool l, .slice ka K kc, .slice va V vc, .slice da D dc] 25)) := (Ext.refl _).alloc _
  have hix0 := fun w => run_index_sl (P := Try.prog) (w := w) (cs := #[.slice ka K kc, .slice va V vc]) (k := 0) Try.underlying43 (by kernel_rfl) rfl (by decide) Try.underlying22 0 rfl
  have hix1 := fun w => run_index_sl (P := Try.prog) (w := w) (cs := #[.slice ka K kc, .slice va V vc]) (k := 1) Try.underlying43 (by kernel_rfl) rfl (by decide) Try.underlying22 1 rfl
  go_wp2
  generalize w.alloc (.cells #[.bool l, .slice ka K kc, .slice va V vc, .slice da D dc] 25) = w0 at hx0 ⊢
  go_loop [5, 18] (fun v i => ∃ (c s : Nat), c ≤ 2 ∧ i = .int .i64 c ∧ v = .int .i64 s ∧ Aside (s = if c = 0 then D else if c = 1 then D + ksum n.keys else n.tot) ∧ (0 < c → s ≤ M ∨ s = D) ∧ s ≤ 140737489399809) (fun _ i => 2 - (intOf i).toNat)
  case atStart => exact ⟨0, D, by omega, rfl, rfl, rfl, fun h => absurd h (by omega), by omega⟩
  case round =>
    obtain ⟨c, s, hc, rfl, rfl, hs, hb, hs2⟩ := hrel
    have hsv : s = if c = 0 then D else if c = 1 then D + ksum n.keys else n.tot := hs
    have Hs := Lib.hid hsv
    clear hs hsv
    match c, hc with
    | 0, _ =>
      have e : s = D := Hs.out
      have HE := Lib.hid e
      clear e
      rw [show ((0 : Nat) : Int) = 0 from rfl]
      go_wp2
      go_loop [5, 23] (fun v i => ∃ (k t : Nat), k ≤ K ∧ i = .int .i64 k ∧ v = .int .i64 t ∧ Aside (t = D + ksum (n.keys.take k)) ∧ (k = 0 → t = s) ∧ (0 < k → t ≤ M) ∧ t ≤ 140737489399809) (fun _ i => K - (intOf i).toNat)
      case atStart => exact ⟨0, s, by omega, rfl, rfl, (by show s = _; rw [HE.out]; simp [ksum]), fun _ => rfl, fun h => absurd h (by omega), hs2⟩
      case round =>
        obtain ⟨k, t, hk, rfl, rfl, ht, h0, h1, ht2⟩ := hrel
        have Ht := Lib.hid (show t = D + ksum (n.keys.take k) from ht)
        clear ht
        by_cases hlt : k < K
        · have hlk : k < n.keys.length := by rw [Hh.out.hk]; exact hlt
          obtain ⟨x, hx, hcell⟩ := (Hh.out.ck.ext hx0) k _ (sv_get hlk)
          subst hx
          have hsz := Hh.out.sk _ (List.getElem_mem hlk)
          have hst := ksum_take n.keys hlk
          have hle := ksum_le n.keys (k + 1)
          have htb : t ≤ 140737489399809 := ht2
          generalize n.keys[k] = q at hcell hsz hst
          have Hst := Lib.hid hst
          have Hle := Lib.hid hle
          clear hst hle
          by_cases hbig : M < t + 1 + q.size
          · have hbig' : (M : Int) < (t : Int) + 1 + (q.size : Int) := by omega
            go_wp2
            go_ret
            exact ⟨ret_bool (by symm; rw [decide_eq_true_iff]; have a := Htt.out; have b := Ht.out; have c := Hst.out; have d := Hle.out; omega), hx0⟩
          · have hbig' : ¬ (M : Int) < (t : Int) + 1 + (q.size : Int) := by omega
            go_wp2
            go_round
            case rel => exact ⟨k + 1, t + 1 + q.size, by omega, by go_num, by go_num, (by show _ = _; have b := Ht.out; have c := Hst.out; omega), fun h => absurd h (by omega), fun _ => by omega, by omega⟩
            case measure => simp [intOf]; omega
        · obtain rfl : k = K := by omega
          have hfin : t = D + ksum n.keys := by have b := Ht.out; rw [← Hh.out.hk, List.take_length] at b; exact b
          have Hfin := Lib.hid hfin
          clear hfin
          go_wp2
          go_round
          case rel => exact ⟨1, t, by omega, rfl, rfl, (by show _ = _; exact Hfin.out), fun _ => by rcases Nat.eq_zero_or_pos k with e | e; (have a := h0 e; first | (have b := HE.out; omega) | (have := hb (by omega); omega)); (exact .inl (h1 e)), ht2⟩
          case measure => simp [intOf]
    | 1, _ =>
      have e : s = (D + ksum n.keys) := Hs.out
      have HE := Lib.hid e
      clear e
      rw [show ((1 : Nat) : Int) = 1 from rfl]
      go_wp2
      go_loop [5, 23] (fun v i => ∃ (k t : Nat), k ≤ V ∧ i = .int .i64 k ∧ v = .int .i64 t ∧ Aside (t = (D + ksum n.keys) + ksum (n.vals.take k)) ∧ (k = 0 → t = s) ∧ (0 < k → t ≤ M) ∧ t ≤ 140737489399809) (fun _ i => V - (intOf i).toNat)
      case atStart => exact ⟨0, s, by omega, rfl, rfl, (by show s = _; rw [HE.out]; simp [ksum]), fun _ => rfl, fun h => absurd h (by omega), hs2⟩
      case round =>
        obtain ⟨k, t, hk, rfl, rfl, ht, h0, h1, ht2⟩ := hrel
        have Ht := Lib.hid (show t = (D + ksum n.keys) + ksum (n.vals.take k) from ht)
        clear ht
        by_cases hlt : k < V
        · have hlk : k < n.vals.length := by rw [Hh.out.hv]; exact hlt
          obtain ⟨x, hx, hcell⟩ := (Hh.out.cv.ext hx0) k _ (sv_get hlk)
          subst hx
          have hsz := Hh.out.sv_ _ (List.getElem_mem hlk)
          have hst := ksum_take n.vals hlk
          have hle := ksum_le n.vals (k + 1)
          have htb : t ≤ 140737489399809 := ht2
          generalize n.vals[k] = q at hcell hsz hst
          have Hst := Lib.hid hst
          have Hle := Lib.hid hle
          clear hst hle
          by_cases hbig : M < t + 1 + q.size
          · have hbig' : (M : Int) < (t : Int) + 1 + (q.size : Int) := by omega
            go_wp2
            go_ret
            exact ⟨ret_bool (by symm; rw [decide_eq_true_iff]; have a := Htt.out; have b := Ht.out; have c := Hst.out; have d := Hle.out; omega), hx0⟩
          · have hbig' : ¬ (M : Int) < (t : Int) + 1 + (q.size : Int) := by omega
            go_wp2
            go_round
            case rel => exact ⟨k + 1, t + 1 + q.size, by omega, by go_num, by go_num, (by show _ = _; have b := Ht.out; have c := Hst.out; omega), fun h => absurd h (by omega), fun _ => by omega, by omega⟩
            case measure => simp [intOf]; omega
        · obtain rfl : k = V := by omega
          have hfin : t = (D + ksum n.keys) + ksum n.vals := by have b := Ht.out; rw [← Hh.out.hv, List.take_length] at b; exact b
          have Hfin := Lib.hid hfin
          clear hfin
          go_wp2
          go_round
          case rel => exact ⟨2, t, by omega, rfl, rfl, (by show _ = _; have a := Htt.out; have b := Hfin.out; show t = n.tot; omega), fun _ => by rcases Nat.eq_zero_or_pos k with e | e; (have a := h0 e; first | (have b := HE.out; omega) | (have := hb (by omega); omega)); (exact .inl (h1 e)), ht2⟩
          case measure => simp [intOf]
    | 2, _ =>
      have e : s = n.tot := Hs.out
      have HE := Lib.hid e
      clear e
      go_wp2
      go_ret
      exact ⟨ret_bool (by rw [← HE.out]), hx0⟩
end Go.Proofs.Ytmfmpbeempjeoaa

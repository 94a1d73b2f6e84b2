/- Layer 2: the program's and the reference's functions, walked: what they answer. -/
import Derived.Test.YtcnhbodemabbdaaDoorQ01
import Derived.Test.YtcnhbodemabbdaaDoorQ08
import Derived.Test.YtcnhbodemabbdaaDoorQ09
import Derived.Test.YtcnhbodemabbdaaDoorQ03
namespace Go.Proofs.YtcnhbodemabbdaaDoor
open Go.RowKit
set_option linter.unusedVariables false

theorem more_calls (s : BitVec 64) (a : Option Addr) (n c : Nat) (bs : List UInt8) (w : World) (h : Cells w a (bv bs)) (hn : bs.length = n) (hl : n ≤ maxLen) :
    Calls Tryd.prog 88 #[.int .u64 s.toNat, .slice a n c] w fun e w' => e = .returned (.int .u64 (more s bs).toNat) ∧ w = w' := by
  subst hn
  unfold maxLen at hl
  go_enter Tryd.func88, Tryd.ntmps88
  go_wp2
  go_loop [0, 9] (fun v i => ∃ k : Nat, k ≤ bs.length ∧ i = .int .i64 k ∧ v = .int .u64 (more s (bs.take k)).toNat) (fun _ i => bs.length - (intOf i).toNat)
  case atStart => exact ⟨0, Nat.zero_le _, rfl, rfl⟩
  case round =>
    obtain ⟨k, hk, rfl, rfl⟩ := hrel
    by_cases hlt : k < bs.length
    · obtain ⟨x, hx, hcell⟩ := h.byte hlt
      subst hx
      go_wp2
      go_round
      case rel => exact ⟨k + 1, by omega, by go_num, by rw [more_take _ _ _ hlt, step_int]⟩
      case measure => simp [intOf]; omega
    · go_wp2
      go_ret
      have : k = bs.length := by omega
      subst this
      simp

theorem sum_calls (a : Option Addr) (c : Nat) (xs : List (List UInt8)) (w : World) (h : BSs w a xs) (hl : xs.length ≤ maxLen) (hl2 : ∀ x ∈ xs, x.length ≤ maxLen) :
    Calls Tryd.prog 57 #[.slice a xs.length c] w fun e w' => e = .returned (.int .u64 (fnv xs.flatten).toNat) ∧ w = w' := by
  unfold maxLen at hl
  go_enter Tryd.func57, Tryd.ntmps57
  go_wp2
  go_loop [3, 8] (fun v i => ∃ k : Nat, k ≤ xs.length ∧ i = .int .i64 k ∧ v = .int .u64 (fnv (xs.take k).flatten).toNat) (fun _ i => xs.length - (intOf i).toNat)
  case atStart => exact ⟨0, Nat.zero_le _, rfl, rfl⟩
  case round =>
    obtain ⟨k, hk, rfl, rfl⟩ := hrel
    by_cases hlt : k < xs.length
    · obtain ⟨x, b, cb, hx, hcell, _, hb⟩ := h.get hlt
      subst hx
      have hlen : xs[k].length ≤ maxLen := hl2 _ (List.getElem_mem hlt)
      go_wp2_with (go_at_call 88; refine (more_calls _ _ _ _ _ _ hb rfl hlen).mono ?_; rintro e w' ⟨rfl, rfl⟩)
      go_round
      case rel => exact ⟨k + 1, by omega, by go_num, by rw [fnv_take _ _ hlt]⟩
      case measure => simp [intOf]; omega
    · go_wp2
      go_ret
      have : k = xs.length := by omega
      subst this
      simp

theorem sum_nil_calls (w : World) :
    Calls Tryd.prog 57 #[.slice none 0 0] w fun e w' => e = .returned (.int .u64 14695981039346656037) ∧ w = w' :=
  (sum_calls none 0 [] w (fun i bs h => by simp at h) (by simp [maxLen]) (by simp)).mono fun e w' ⟨h1, h2⟩ => ⟨h1.trans (by rw [show fnv ([] : List (List UInt8)).flatten = 14695981039346656037#64 from rfl]; rfl), h2⟩

theorem sum_one_calls (x : Addr) (a : Option Addr) (n c d : Nat) (bs : List UInt8) (w : World) (hx : w.cell? x = some (.slice a n c)) (hc : n ≤ c) (h : Cells w a (bv bs)) (hn : bs.length = n) (hl : n ≤ maxLen) :
    Calls Tryd.prog 57 #[.slice (some x) 1 d] w fun e w' => e = .returned (.int .u64 (fnv bs).toNat) ∧ w = w' := by
  subst hn
  have k := sum_calls (some x) d [bs] w (fun i b hb => by
    obtain ⟨hi, rfl⟩ := List.getElem?_eq_some_iff.1 hb
    have : i = 0 := by simpa using hi
    subst this
    exact ⟨x, _, rfl, hx, a, c, rfl, hc, h⟩) (by simp [maxLen]) (by simpa using hl)
  simpa using k


/-- The reference's step is the step. -/
theorem step_ref_calls (s : BitVec 64) (c : UInt8) (w : World) :
    Calls Tryd.prog 115 #[.int .u64 s.toNat, .int .u8 c.toNat] w fun e w' => e = .returned (.int .u64 (step s c).toNat) ∧ w = w' := by
  have hs := s.isLt
  have hc : c.toNat < 256 := c.toNat_lt
  go_enter Tryd.func115, Tryd.ntmps115
  go_wp2
  go_ret
  refine ⟨ret_int ?_, rfl⟩
  exact step_ref_int s c


/-- The i-th byte, the highest first. -/
def byteAt (n : BitVec 64) (i : Nat) : UInt8 := UInt8.ofNat (n.toNat / 2 ^ (56 - 8 * i))
def bytes8 (n : BitVec 64) : List UInt8 := [byteAt n 0, byteAt n 1, byteAt n 2, byteAt n 3, byteAt n 4, byteAt n 5, byteAt n 6, byteAt n 7]
/-- The array when the first k are written. -/
def arr8 (n : BitVec 64) (k : Nat) : Array Value := ((List.range 8).map fun i => if i < k then Value.int .u8 (byteAt n i).toNat else Value.int .u8 0).toArray
theorem arr8_size (n : BitVec 64) (k : Nat) : (arr8 n k).size = 8 := by simp [arr8]
theorem arr8_set (n : BitVec 64) (k : Nat) (hk : k < 8) : (arr8 n k).setIfInBounds k (.int .u8 (byteAt n k).toNat) = arr8 n (k + 1) := by
  match k, hk with
  | 0, _ => rfl
  | 1, _ => rfl
  | 2, _ => rfl
  | 3, _ => rfl
  | 4, _ => rfl
  | 5, _ => rfl
  | 6, _ => rfl
  | 7, _ => rfl
theorem arr8_zero (n : BitVec 64) : arr8 n 0 = #[.int .u8 0, .int .u8 0, .int .u8 0, .int .u8 0, .int .u8 0, .int .u8 0, .int .u8 0, .int .u8 0] := rfl
theorem arr8_all (n : BitVec 64) : (arr8 n 8).toList = bv (bytes8 n) := rfl

theorem byteAt_int (n : BitVec 64) (k : Nat) : (n.toNat : Int) / 2 ^ (56 - 8 * k) % 256 = ((byteAt n k).toNat : Int) := by
  unfold byteAt
  rw [UInt8.toNat_ofNat']
  have : ((2 : Int) ^ (56 - 8 * k)) = ((2 ^ (56 - 8 * k) : Nat) : Int) := by simp
  rw [this]
  omega

theorem fnvBytes_calls (n : BitVec 64) (w : World) :
    Calls Tryd.prog 56 #[.int .u64 n.toNat] w fun e w' => e = .returned (.agg (arr8 n 8)) ∧ Ext w w' := by
  have hn := n.isLt
  go_enter Tryd.func56, Tryd.ntmps56
  go_wp2
  go_loopw [5] (fun i wr => ∃ k : Nat, k ≤ 8 ∧ i = .int .i64 k ∧ Ext w wr ∧ Blk wr w.heap.size 116 (arr8 n 0) ∧ Blk wr (w.heap.size + 1) 116 (arr8 n k)) (fun i _ => 8 - (intOf i).toNat)
  case atStart => exact ⟨0, by omega, rfl, ((Ext.refl _).alloc _).alloc _, (Blk.new w _ _).alloc _, Blk.new_at (by simp) _ _⟩
  case round =>
    obtain ⟨k, hk, rfl, hx, h1, h2⟩ := hrel
    by_cases hlt : k < 8
    · have hcell := h2.cell_ (i := k) (by rw [arr8_size]; omega)
      have hfr := h2.frozen k
      go_wp2
      go_roundw
      case rel =>
        refine ⟨k + 1, by omega, by go_num, hx.set (by simp) _, h1.far (by simp) _, ?_⟩
        rw [byteAt_int n k]
        have := h2.set k (.int .u8 (byteAt n k).toNat)
        rwa [arr8_set n k hlt] at this
      case measure => simp [intOf]; omega
    · obtain rfl : k = 8 := by omega
      go_wp2_with (first
        | (refine wpList_load_blk rfl 116 (.tmp 3) rfl (w.heap.size + 1) rfl _ _ _ h2 Tryd.underlying116 rfl (by kernel_rfl) ?_)
        | (refine wpList_store_blk rfl 116 (.tmp 2) (.tmp 17) rfl rfl w.heap.size (arr8 n 8) rfl rfl _ _ h1 rfl (by kernel_rfl) ?_ ?_; (rw [arr8_all]; exact bv_cells _); intro w3 hb3 hg3))
      exact bodyPost_ret (results_cell_row (P := Tryd.prog) (fn := Tryd.f56) rfl _ _ _ _ (arr8 n 8) _ _ rfl hb3 Tryd.underlying116 rfl (by kernel_rfl)) rfl ⟨rfl, hx.grown_ hg3 (by simp)⟩
/-- The array when the last k are written. -/
def arrR (n : BitVec 64) (k : Nat) : Array Value := ((List.range 8).map fun i => if 8 - k ≤ i then Value.int .u8 (byteAt n i).toNat else Value.int .u8 0).toArray
theorem arrR_size (n : BitVec 64) (k : Nat) : (arrR n k).size = 8 := by simp [arrR]
theorem arrR_set (n : BitVec 64) (k : Nat) (hk : k < 8) : (arrR n k).setIfInBounds (7 - k) (.int .u8 (byteAt n (7 - k)).toNat) = arrR n (k + 1) := by
  match k, hk with
  | 0, _ => rfl
  | 1, _ => rfl
  | 2, _ => rfl
  | 3, _ => rfl
  | 4, _ => rfl
  | 5, _ => rfl
  | 6, _ => rfl
  | 7, _ => rfl
theorem arrR_all (n : BitVec 64) : (arrR n 8).toList = bv (bytes8 n) := rfl
theorem byteAt_low (n : BitVec 64) (k : Nat) (hk : k < 8) : (((n.toNat / 2 ^ (8 * k)) % 256 : Nat) : Int) = ((byteAt n (7 - k)).toNat : Int) := by
  unfold byteAt
  rw [UInt8.toNat_ofNat']
  have : 56 - 8 * (7 - k) = 8 * k := by omega
  rw [this]

theorem refBytes_calls (n : BitVec 64) (w : World) :
    Calls Tryd.prog 94 #[.int .u64 n.toNat] w fun e w' => e = .returned (.string (bstr (bytes8 n))) ∧ Ext w w' := by
  have hn := n.isLt
  go_enter Tryd.func94, Tryd.ntmps94
  go_wp2
  go_loopg [0, 4] 8 (fun r v i wr => r ≤ 8 ∧ i = .int .i64 ((r : Int) - 1) ∧ v = .int .u64 ((n.toNat / 2 ^ (8 * (8 - r)) : Nat) : Int) ∧ Ext w wr ∧ Blk wr w.heap.size 116 (arrR n (8 - r)))
  case atStart => exact ⟨by omega, rfl, by simp, (Ext.refl _).alloc _, (Blk.new w _ _)⟩
  case round =>
    obtain ⟨hk, rfl, rfl, hx, h1⟩ := hrel
    have hq : n.toNat / 2 ^ (8 * (8 - gk)) < 18446744073709551616 := Nat.lt_of_le_of_lt (Nat.div_le_self _ _) hn
    obtain ⟨q, hqq⟩ : ∃ q : Nat, q = n.toNat / 2 ^ (8 * (8 - gk)) := ⟨_, rfl⟩
    rw [← hqq] at hq
    rw [← hqq]
    have Hq := Lib.hid hqq
    clear hqq
    cases gk with
    | succ j =>
      have hcell := h1.cell_ (i := j) (by rw [arrR_size]; omega)
      have hfr := h1.frozen j
      rw [show ((j + 1 : Nat) : Int) - 1 = (j : Int) by omega]
      go_wp2
      go_roundg j
      case measure => omega
      case rel =>
        have hqq := Hq.out
        subst hqq
        have e7 : 7 - (8 - (j + 1)) = j := by omega
        have hd : n.toNat / 2 ^ (8 * (8 - (j + 1))) / 256 = n.toNat / 2 ^ (8 * (8 - j)) := by
          rw [Nat.div_div_eq_div_mul]
          have : 8 * (8 - j) = 8 * (8 - (j + 1)) + 8 := by omega
          rw [this, Nat.pow_add]
        have hv := byteAt_low n (8 - (j + 1)) (by omega)
        rw [e7] at hv
        refine ⟨by omega, rfl, ?_, hx.set (by simp) _, ?_⟩
        · rw [← hd]; rfl
        · have := h1.set j (.int .u8 (byteAt n j).toNat)
          rw [← hv] at this
          have hs := arrR_set n (8 - (j + 1)) (by omega)
          rw [e7, ← hv, show 8 - (j + 1) + 1 = 8 - j by omega] at hs
          rw [hs] at this
          exact this
    | zero =>
      have hcv := conv_str (P := Tryd.prog) Tryd.underlying87 Tryd.underlying5 Tryd.underlying9 (c := 8) (bs := bytes8 n) (n := 8) rfl (by rw [← arrR_all]; exact h1.cells)
      go_wp2
      go_ret
      exact ⟨rfl, hx⟩

theorem refSum_calls (s : ByteArray) (w : World) (hs : s.size ≤ maxLen) :
    Calls Tryd.prog 95 #[.string s] w fun e w' => e = .returned (.int .u64 (fnv s.data.toList).toNat) ∧ w = w' := by
  unfold maxLen at hs
  have hlen := str_len s
  have HL := Lib.hid hlen
  clear hlen
  go_enter Tryd.func95, Tryd.ntmps95
  go_wp2
  go_loop [3, 4] (fun v i => ∃ k : Nat, k ≤ s.size ∧ i = .int .i64 k ∧ v = .int .u64 (fnv (s.data.toList.take k)).toNat) (fun _ i => s.size - (intOf i).toNat)
  case atStart => exact ⟨0, Nat.zero_le _, rfl, rfl⟩
  case round =>
    obtain ⟨k, hk, rfl, rfl⟩ := hrel
    by_cases hlt : k < s.size
    · go_wp2_with (go_at_call 115; refine (step_ref_calls _ _ _).mono ?_; rintro e w' ⟨rfl, rfl⟩)
      go_round
      case rel =>
        have hl2 : k < s.data.toList.length := by rw [str_len]; exact hlt
        exact ⟨k + 1, by omega, by go_num, by rw [str_get s k hlt, fnv, fnv, more_take _ _ _ hl2]⟩
      case measure => simp [intOf]; omega
    · go_wp2
      go_ret
      obtain rfl : k = s.size := by omega
      rw [← HL.out, List.take_length]
      exact ⟨rfl, rfl⟩

theorem refSum_bytes (s : ByteArray) (bs : List UInt8) (h : s.data.toList = bs) (w : World) (hs : s.size ≤ maxLen) :
    Calls Tryd.prog 95 #[.string s] w fun e w' => e = .returned (.int .u64 (fnv bs).toNat) ∧ w = w' := by
  subst h; exact refSum_calls s w hs


def x8 (a c : UInt8) : UInt8 := a ^^^ c
theorem xor_u8 (a c : UInt8) : bits .xor .u8 (a.toNat : Int) (c.toNat : Int) = ((x8 a c).toNat : Int) := by
  rw [bits_xor_u8_nat _ _ a.toNat_lt c.toNat_lt, x8, UInt8.toNat_xor]

theorem turned_ne (bs : List UInt8) (k : Nat) (hk : k < bs.length) (c : UInt8) (hc : c ≠ 0) : fnv (bs.set k (x8 bs[k] c)) ≠ fnv bs := by
  intro h
  unfold x8 at h
  have e1 : bs = bs.take k ++ bs[k] :: bs.drop (k + 1) := by simp
  have e2 : bs.set k (bs[k] ^^^ c) = bs.take k ++ (bs[k] ^^^ c) :: bs.drop (k + 1) := List.set_eq_take_append_cons_drop.trans (by rw [if_pos hk])
  rw [e2] at h
  have h2 : more begin_ (bs.take k ++ (bs[k] ^^^ c) :: bs.drop (k + 1)) = more begin_ (bs.take k ++ bs[k] :: bs.drop (k + 1)) := h.trans (by rw [← e1]; rfl)
  have h3 := more_turned _ _ _ _ _ h2
  apply hc
  have h4 : bs[k] ^^^ (bs[k] ^^^ c) = bs[k] ^^^ bs[k] := by rw [h3]
  rw [← UInt8.xor_assoc, UInt8.xor_self, UInt8.zero_xor] at h4
  exact h4

end Go.Proofs.YtcnhbodemabbdaaDoor
/- Layer 14 in plain Lean: names, their kinds' sizes, their texts. -/
namespace Go.Proofs.YtcnhbodemabbdaaDoor
set_option linter.unusedVariables false

/-- How many bytes a kind's sums have. -/
def idN (k : UInt8) : Nat := if k = 1 then 8 else if k = 2 then 32 else 0
theorem idN_le (k : UInt8) : idN k ≤ 32 := by unfold idN; split <;> (try split) <;> omega
theorem idN_one : idN 1 = 8 := rfl
theorem idN_two : idN 2 = 32 := rfl
theorem idN_other {k : UInt8} (h1 : k ≠ 1) (h2 : k ≠ 2) : idN k = 0 := by unfold idN; rw [if_neg h1, if_neg h2]
/-- A name as 33 bytes: its kind, its sum. -/
def idKind (b : List UInt8) : UInt8 := b.getD 0 0
def idGood (b : List UInt8) : Bool := decide (0 < idN (idKind b)) && (b.drop (1 + idN (idKind b))).all (· == 0)
def idText (b : List UInt8) : List UInt8 := if idGood b then b.take (1 + idN (idKind b)) else []
def idPad (s : List UInt8) : List UInt8 := s ++ List.replicate (33 - s.length) 0
def idCan (s : List UInt8) : Bool := decide (0 < idN (idKind s)) && decide (s.length = 1 + idN (idKind s))
def idNone : List UInt8 := List.replicate 33 0
theorem idPad_len {s : List UInt8} (h : s.length ≤ 33) : (idPad s).length = 33 := by unfold idPad; rw [List.length_append, List.length_replicate]; omega
theorem idPad_nil : idPad [] = idNone := rfl
theorem idText_len {b : List UInt8} (h : b.length = 33) : (idText b).length ≤ 33 := by
  unfold idText
  split
  · rw [List.length_take]; omega
  · simp
/-- A name that can be is its text, and noughts. -/
theorem idPad_text {b : List UInt8} (h : b.length = 33) (hg : idGood b = true) : idPad (idText b) = b := by
  unfold idText
  rw [if_pos hg]
  unfold idGood at hg
  rw [Bool.and_eq_true] at hg
  obtain ⟨_, hz⟩ := hg
  have hl := idN_le (idKind b)
  unfold idPad
  rw [List.length_take, h, Nat.min_eq_left (by omega)]
  conv => rhs; rw [← List.take_append_drop (1 + idN (idKind b)) b]
  congr 1
  apply List.ext_getElem
  · rw [List.length_replicate, List.length_drop, h]
  · intro i h1 h2
    rw [List.getElem_replicate]
    have := List.all_eq_true.1 hz _ (List.getElem_mem h2)
    simpa using (beq_iff_eq.1 this).symm
theorem idText_can {b : List UInt8} (h : b.length = 33) (hg : idGood b = true) : idCan (idText b) = true := by
  have hg' := hg
  unfold idGood at hg'
  rw [Bool.and_eq_true, decide_eq_true_eq] at hg'
  have hl := idN_le (idKind b)
  have hk : idKind (idText b) = idKind b := by
    unfold idText
    rw [if_pos hg]
    unfold idKind
    rw [List.getD_eq_getElem?_getD, List.getD_eq_getElem?_getD, List.getElem?_take, if_pos (by omega)]
  unfold idCan
  rw [hk]
  have : (idText b).length = 1 + idN (idKind b) := by
    unfold idText
    rw [if_pos hg, List.length_take]; omega
  rw [this]
  simp [hg'.1]
theorem idCan_kind {s : List UInt8} (h : idCan s = true) : 0 < idN (idKind s) ∧ s.length = 1 + idN (idKind s) := by
  unfold idCan at h
  rwa [Bool.and_eq_true, decide_eq_true_eq, decide_eq_true_eq] at h
theorem idCan_le {s : List UInt8} (h : idCan s = true) : s.length ≤ 33 := by
  have := (idCan_kind h).2
  have := idN_le (idKind s)
  omega
/-- A text that can be is its name's. -/
theorem idCan_pad {s : List UInt8} (h : idCan s = true) : idGood (idPad s) = true ∧ idText (idPad s) = s := by
  obtain ⟨h1, h2⟩ := idCan_kind h
  have hk : idKind (idPad s) = idKind s := by
    unfold idKind idPad
    rw [List.getD_eq_getElem?_getD, List.getD_eq_getElem?_getD, List.getElem?_append_left (by omega)]
  have hg : idGood (idPad s) = true := by
    unfold idGood
    rw [hk, Bool.and_eq_true, decide_eq_true_eq]
    refine ⟨h1, ?_⟩
    unfold idPad
    rw [← h2, List.drop_left, List.all_eq_true]
    intro x hx
    rw [List.eq_of_mem_replicate hx]
    rfl
  refine ⟨hg, ?_⟩
  unfold idText
  rw [if_pos hg, hk, ← h2]
  unfold idPad
  rw [List.take_left]
/-- The text of bytes' name. -/
def idName (k : UInt8) (bs : List UInt8) : List UInt8 := if k = 1 then 1 :: bytes8 (fnv bs) else if k = 2 then 2 :: sha bs else []
theorem idName_can {k : UInt8} (bs : List UInt8) (h : 0 < idN k) : idCan (idName k bs) = true := by
  unfold idName
  by_cases h1 : k = 1
  · subst h1; rfl
  · rw [if_neg h1]
    by_cases h2 : k = 2
    · subst h2
      rw [if_pos rfl]
      unfold idCan
      have : idKind (2 :: sha bs) = 2 := rfl
      rw [this, List.length_cons, sha_len]
      rfl
    · rw [idN_other h1 h2] at h; omega
theorem idName_none {k : UInt8} (bs : List UInt8) (h : idN k = 0) : idName k bs = [] := by
  unfold idName
  by_cases h1 : k = 1
  · subst h1; cases h
  · by_cases h2 : k = 2
    · subst h2; cases h
    · rw [if_neg h1, if_neg h2]
theorem idName_len (k : UInt8) (bs : List UInt8) : (idName k bs).length ≤ 33 := by
  by_cases h : 0 < idN k
  · exact idCan_le (idName_can bs h)
  · rw [idName_none bs (by omega)]; simp
end Go.Proofs.YtcnhbodemabbdaaDoor

/- The walk of the reference's Numbers. -/
import Derived.Test.YtcnhbodemabbdaaDoorQ18
import Derived.Test.YtcnhbodemabbdaaDoorQ09
namespace Go.Proofs.YtcnhbodemabbdaaDoor
open Go.RowKit
set_option linter.unusedVariables false

theorem ktv_lit : ktv = #[.int .u32 1116352408, .int .u32 1899447441, .int .u32 3049323471, .int .u32 3921009573, .int .u32 961987163, .int .u32 1508970993, .int .u32 2453635748, .int .u32 2870763221, .int .u32 3624381080, .int .u32 310598401, .int .u32 607225278, .int .u32 1426881987, .int .u32 1925078388, .int .u32 2162078206, .int .u32 2614888103, .int .u32 3248222580, .int .u32 3835390401, .int .u32 4022224774, .int .u32 264347078, .int .u32 604807628, .int .u32 770255983, .int .u32 1249150122, .int .u32 1555081692, .int .u32 1996064986, .int .u32 2554220882, .int .u32 2821834349, .int .u32 2952996808, .int .u32 3210313671, .int .u32 3336571891, .int .u32 3584528711, .int .u32 113926993, .int .u32 338241895, .int .u32 666307205, .int .u32 773529912, .int .u32 1294757372, .int .u32 1396182291, .int .u32 1695183700, .int .u32 1986661051, .int .u32 2177026350, .int .u32 2456956037, .int .u32 2730485921, .int .u32 2820302411, .int .u32 3259730800, .int .u32 3345764771, .int .u32 3516065817, .int .u32 3600352804, .int .u32 4094571909, .int .u32 275423344, .int .u32 430227734, .int .u32 506948616, .int .u32 659060556, .int .u32 883997877, .int .u32 958139571, .int .u32 1322822218, .int .u32 1537002063, .int .u32 1747873779, .int .u32 1955562222, .int .u32 2024104815, .int .u32 2227730452, .int .u32 2361852424, .int .u32 2428436474, .int .u32 2756734187, .int .u32 3204031479, .int .u32 3329325298] := by kernel_rfl

set_option maxRecDepth 100000 in
set_option maxHeartbeats 4000000 in
theorem numbers_calls (w : World) : Calls Tryd.prog 117 #[] w fun e w' => e = .returned (.agg ktv) ∧ Ext w w' := by
  go_enter Tryd.func117, Tryd.ntmps117
  go_wp2_with (refine wpList_store_blk rfl 174 (.tmp 0) (.tmp 1) rfl rfl w.heap.size _ rfl rfl _ _ (Blk.new w _ _) rfl (by kernel_rfl) ?_ ?_; (rw [← ktv_lit, ktv, List.toList_toArray]; intro v hv; obtain ⟨i, _, rfl⟩ := List.mem_map.1 hv; rfl); intro w3 hb3 hg3; rw [← ktv_lit] at hb3)
  exact bodyPost_ret (results_cell_row (P := Tryd.prog) (fn := Tryd.f117) rfl _ _ _ _ ktv _ _ rfl hb3 Tryd.underlying174 rfl (by kernel_rfl)) rfl ⟨rfl, ((Ext.refl _).alloc _).grown_ hg3 (by simp)⟩

end Go.Proofs.YtcnhbodemabbdaaDoor
/- The walk of the reference's Padded. -/
namespace Go.Proofs.YtcnhbodemabbdaaDoor
open Go.RowKit
set_option linter.unusedVariables false

/-- The bytes behind the message, with z noughts. -/
def mid (bs : List UInt8) (z : Nat) : List UInt8 := bs ++ 0x80 :: List.replicate z 0
theorem mid_len (bs : List UInt8) (z : Nat) : (mid bs z).length = bs.length + 1 + z := by simp [mid]; omega
theorem mid_step (bs : List UInt8) (z : Nat) : mid bs z ++ [0] = mid bs (z + 1) := by
  simp [mid, List.replicate_succ']
theorem mid_all (bs : List UInt8) : mid bs (gap bs.length) ++ be8 bs.length = padded bs := by simp [mid, padded, padding]
theorem gap_min (n z : Nat) (hz : z ≤ gap n) (h : z ≠ gap n) : (n + 1 + z) % 64 ≠ 56 := by unfold gap at hz h; omega

theorem be8_drop (n k : Nat) (hk : k < 8) : (be8 n).drop (7 - k) = UInt8.ofNat (n * 8 / 2 ^ (8 * k)) :: (be8 n).drop (8 - k) := by
  match k, hk with
  | 0, _ => rfl
  | 1, _ => rfl
  | 2, _ => rfl
  | 3, _ => rfl
  | 4, _ => rfl
  | 5, _ => rfl
  | 6, _ => rfl
  | 7, _ => rfl

set_option maxRecDepth 100000 in
set_option maxHeartbeats 4000000 in
theorem padded_calls (A : Option Addr) (n c : Nat) (bs : List UInt8) (w : World) (hb : Cells w A (bv bs)) (hn : bs.length = n) (hl : n ≤ 1048576) :
    Calls Tryd.prog 116 #[.slice A n c] w fun e w' => ∃ v, e = .returned v ∧ Own w.heap.size w' v (padded bs) ∧ Ext w w' := by
  go_enter Tryd.func116, Tryd.ntmps116
  have lit0 : Own w.heap.size (w.alloc (.cells #[] 5)) (.slice (some ⟨w.heap.size, 0, none⟩) 0 0) [] := Own.lit [] #[] rfl (Nat.le_refl _) (by simp [maxLen])
  go_wp2_with (first
    | (at_builtin; refine wpList_append_u8 _ rfl (.tmp 7) (.tmp 8) rfl w.heap.size (.slice (some ⟨w.heap.size, 0, none⟩) 0 0) [] rfl lit0 A n c bs rfl hn (hb.ext ((Ext.refl _).alloc _)) (by simp; omega) (by simp) ?_; intro v1 w1 own1 hg1 _; have hx1 : Ext w w1 := lit0.grows ((Ext.refl _).alloc _) hg1; rw [List.nil_append] at own1; clear hg1)
    | (at_builtin; refine wpList_append_u8 _ rfl (.tmp 9) (.tmp 10) rfl w.heap.size v1 bs rfl (own1.ext ((Ext.refl _).alloc _)) (some ⟨w1.heap.size, 0, none⟩) 1 1 [128] rfl rfl (Cells.lit rfl [.int .u8 128] _ _) (by rw [hn]; omega) (hx1.alloc _).size ?_; intro v2 w2 own2 hg2 _; have hx2 : Ext w w2 := (own1.ext ((Ext.refl _).alloc _)).grows (hx1.alloc _) hg2; clear hg2))
  go_loopg [3] (gap n) (fun gk v wr => ∃ z : Nat, z + gk = gap n ∧ Aside (Own w.heap.size wr v (mid bs z)) ∧ Ext w wr)
  case atStart => exact ⟨0, by omega, own2, hx2⟩
  case round =>
    clear own1 own2 hx1 hx2
    obtain ⟨z, hz, own, hx⟩ := hrel
    obtain ⟨w5, hw5⟩ : ∃ x, x = wr := ⟨_, rfl⟩
    subst hw5
    obtain ⟨A3, c3, rfl, hl3, hm3, hc3⟩ := Own.form_at (n := n + 1 + z) own (by rw [mid_len, hn])
    have hgl := gap_lt n
    by_cases h56 : gk = 0
    · subst h56
      have hr := gap_mod n
      obtain rfl : z = gap n := by omega
      have hcast : ((gap n : Nat) : Int) = ((gap n : Nat) : Int) := rfl
      go_wp2
      go_loopg [4, 5, 6] 8 (fun gk m v i wq => ∃ k : Nat, k + gk = 8 ∧ i = .int .i64 k ∧ m = .int .i64 ((if k = 0 then n else n * 8 / 2 ^ (8 * k) : Nat) : Int) ∧ Aside (Own w5.heap.size wq v ((be8 n).drop (8 - k))) ∧ Ext w5 wq)
      case atStart => exact ⟨0, by omega, rfl, rfl, Own.nil _ _, Ext.refl _⟩
      case round =>
        obtain ⟨k, hk, rfl, rfl, ownt, hxt⟩ := hrel
        have hlen : ((be8 n).drop (8 - k)).length = k := by rw [List.length_drop, be8_len]; omega
        obtain ⟨A4, c4, rfl, hl4, hm4, hc4⟩ := Own.form_at (n := k) ownt hlen
        clear hl3 hc3 hr hgl hcast
        rcases Nat.lt_or_ge k 8 with hlt | hge
        · obtain ⟨j, rfl⟩ : ∃ j, gk = j + 1 := ⟨gk - 1, by omega⟩
          by_cases h0 : k = 0
          · subst h0
            obtain ⟨b0, hb0⟩ : ∃ b : UInt8, b = UInt8.ofNat (n * 8 / 2 ^ (8 * 0)) := ⟨_, rfl⟩
            have hE : ((n : Int) % 32 * 8) = (b0.toNat : Int) := by rw [hb0, UInt8.toNat_ofNat']; simp; omega
            have Hb := Lib.hid hb0
            clear hb0
            have litk : Own w5.heap.size (wr.alloc (.cells #[.int .u8 (b0.toNat : Int)] 5)) (.slice (some ⟨wr.heap.size, 0, none⟩) 1 1) [b0] := Own.lit [b0] _ rfl hxt.size (by simp [maxLen])
            go_wp2_with (at_builtin; refine wpList_append_u8 _ rfl (.tmp 31) (.tmp 32) rfl w5.heap.size (.slice (some ⟨wr.heap.size, 0, none⟩) 1 1) [b0] rfl litk A4 0 c4 ((be8 n).drop (8 - 0)) rfl hlen (hc4.ext ((Ext.refl _).alloc _)) (by simp) (hxt.alloc _).size ?_; intro v6 w6 own6 hg6 _; have hx6 : Ext w5 w6 := litk.grows (hxt.alloc _) hg6; rw [List.singleton_append] at own6; clear hg6)
            go_roundg j
            case measure => omega
            case rel =>
              refine ⟨1, by omega, rfl, ?_, ?_, hx6⟩
              · rw [if_neg (by decide)]
                congr 1
                omega
              · have e := be8_drop n 0 (by omega)
                rw [Hb.out, ← e] at own6
                exact own6
          · obtain ⟨q, hq⟩ : ∃ q, q = n * 8 / 2 ^ (8 * k) := ⟨_, rfl⟩
            have hq2 : q ≤ 8388608 := by rw [hq]; exact Nat.le_trans (Nat.div_le_self _ _) (by omega)
            rw [if_neg h0, ← hq]
            have Hq := Lib.hid hq
            clear hq
            obtain ⟨b0, hb0⟩ : ∃ b : UInt8, b = UInt8.ofNat q := ⟨_, rfl⟩
            have hE : ((q : Int) % 256) = (b0.toNat : Int) := by rw [hb0, UInt8.toNat_ofNat']; omega
            have Hb := Lib.hid hb0
            clear hb0
            have litk : Own w5.heap.size (wr.alloc (.cells #[.int .u8 (b0.toNat : Int)] 5)) (.slice (some ⟨wr.heap.size, 0, none⟩) 1 1) [b0] := Own.lit [b0] _ rfl hxt.size (by simp [maxLen])
            go_wp2_with (at_builtin; refine wpList_append_u8 _ rfl (.tmp 39) (.tmp 40) rfl w5.heap.size (.slice (some ⟨wr.heap.size, 0, none⟩) 1 1) [b0] rfl litk A4 k c4 ((be8 n).drop (8 - k)) rfl hlen (hc4.ext ((Ext.refl _).alloc _)) (by simp; omega) (hxt.alloc _).size ?_; intro v6 w6 own6 hg6 _; have hx6 : Ext w5 w6 := litk.grows (hxt.alloc _) hg6; rw [List.singleton_append] at own6; clear hg6)
            go_roundg j
            case measure => omega
            case rel =>
              refine ⟨k + 1, by omega, by go_num, ?_, ?_, hx6⟩
              · have e8 : 8 * (k + 1) = 8 * k + 8 := by omega
                rw [if_neg (by omega), e8, Nat.pow_add, ← Nat.div_div_eq_div_mul, ← Hq.out]
                rfl
              · have e := be8_drop n k hlt
                rw [Hb.out, Hq.out, ← e, show 7 - k = 8 - (k + 1) by omega] at own6
                exact own6
        · obtain rfl : k = 8 := by omega
          have own' : Own w.heap.size wr (.slice A3 (n + 1 + gap n) c3) (mid bs (gap n)) := Own.ext own hxt
          have hgl := gap_lt n
          go_wp2_with (at_builtin; refine wpList_append_u8 _ rfl (.tmp 44) (.tmp 45) rfl w.heap.size (.slice A3 (n + 1 + gap n) c3) (mid bs (gap n)) rfl own' A4 8 c4 (be8 n) rfl (be8_len n) hc4 (by rw [mid_len, hn]; omega) (hx.trans hxt).size ?_; intro v6 w6 own6 hg6 _; have hx6 : Ext w w6 := own'.grows (hx.trans hxt) hg6; clear hg6)
          go_ret
          refine ⟨v6, rfl, ?_, hx6⟩
          have e := mid_all bs
          rw [hn] at e
          rw [← e]
          exact own6
    · obtain ⟨j, rfl⟩ : ∃ j, gk = j + 1 := ⟨gk - 1, by omega⟩
      have hr := gap_min n z (by omega) (by omega)
      go_wp2_with (at_builtin; refine wpList_append_u8 _ rfl (.tmp 16) (.tmp 17) rfl w.heap.size (.slice A3 (n + 1 + z) c3) (mid bs z) rfl (own.ext ((Ext.refl _).alloc _)) (some ⟨w5.heap.size, 0, none⟩) 1 1 [0] rfl rfl (Cells.lit rfl [.int .u8 0] _ _) (by rw [mid_len, hn]; omega) (hx.alloc _).size ?_; intro v4 w4 own4 hg4 _; have hx4 : Ext w w4 := (own.ext ((Ext.refl _).alloc _)).grows (hx.alloc _) hg4; rw [mid_step] at own4; clear hg4)
      go_roundg j
      case measure => omega
      case rel => exact ⟨z + 1, by omega, own4, hx4⟩
end Go.Proofs.YtcnhbodemabbdaaDoor

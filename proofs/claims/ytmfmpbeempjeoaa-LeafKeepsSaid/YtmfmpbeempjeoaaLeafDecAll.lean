/- leaf.Decode of any bytes. -/
import Derived.Test.YtmfmpbeempjeoaaLeafDec
namespace Go.Proofs.Ytmfmpbeempjeoaa
open Go.RowKit
set_option linter.unusedVariables false

theorem uint_bad (bs : List UInt8) (h : (PR.mk bs false).uint.2.bad = true) : (PR.mk bs false).uint = (0, PR.fail) := by
  unfold PR.uint at h ⊢
  split
  · rename_i n q hq
    rw [hq] at h
    cases h
  · rfl

set_option maxRecDepth 50000 in
set_option maxHeartbeats 4000000 in
theorem decode_bad (A : Option Addr) (n c : Nat) (bs : List UInt8) (w : World) (hb : Cells w A (bv bs)) (hn : Hid (bs.length = n)) (hl : n ≤ 140737488351232)
    (Hu : Hid ((PR.mk bs false).uint = (0, PR.fail))) :
    Calls Try.prog 15 #[.slice A n c] w fun e w' => DecPost none w e w' := by
  have e0 : bits .and .u64 ((0 : Nat) : Int) 1 = 0 := by decide
  go_enter Try.func15, Try.ntmps15
  go_wp2_with (first
    | (go_at_call 23; ((with_reducible refine (read_calls A n c bs _ (hb.ext ((Ext.refl _).alloc _)) hn.out hl).mono ?_); rintro e w1 ⟨gR, rfl, hgR, hR1, hx1⟩))
    | (go_at_call 24; ((with_reducible refine (ruint_calls gR _ _ hR1).mono ?_); rintro e w2 ⟨rfl, hR2, ht2⟩; rw [Hu.out]; rw [Hu.out] at hR2))
    | (refine wpList_store_blk rfl 25 (.tmp 6) (.tmp 16) rfl rfl w2.heap.size #[.bool false, .slice none 0 0, .slice none 0 0, .slice none 0 0] rfl rfl _ _ (Blk.new_at rfl _ _) rfl (by kernel_rfl) (by simp [Value.oneCell']) ?_; intro w3 hN3 hg3; have hx23 : Ext w2 w3 := ((Ext.refl _).alloc _).grown_ hg3 (by simp); have hR3 := hR2.ext hx23; obtain ⟨hS, hl2R, hlRN', hlNB'⟩ := dec_start false hgR hR1 hx1 hR2 ht2 hx23 hN3)
    | (go_at_call 25; (have hgd := rgood_calls gR _ w3 hR3; (with_reducible refine hgd.mono ?_); rintro e w' ⟨rfl, rfl⟩))
    | (refine wpList_store_blk rfl 25 (.tmp 2) (.tmp 27) rfl rfl w.heap.size ndZ rfl rfl _ _ hS.rd.2 rfl (by kernel_rfl) (by simp [Value.oneCell']) ?_; intro w5 hb5 hg5))
  refine bodyPost_ret (results_row_tmp (P := Try.prog) (fn := Try.f15) rfl _ _ w.heap.size 25 ndZ _ rfl hb5 Try.underlying25 rfl (by kernel_rfl)) rfl ?_
  exact decPost_none (hS.ext.grown_ hg5 (by intro k hk; cases hk; exact Nat.le_refl _)) rfl

set_option maxRecDepth 50000 in
set_option maxHeartbeats 4000000 in
theorem decode_far (l : Bool) (A : Option Addr) (n c h : Nat) (bs : List UInt8) (r0 : PR) (w : World) (hb : Cells w A (bv bs)) (hn : Hid (bs.length = n)) (hl : n ≤ 140737488351232)
    (Hu : Hid ((PR.mk bs false).uint = (h, r0))) (e1 : (bits .and .u64 (h : Int) 1 == 1) = l) (hb0 : r0.bad = false) (m : Nat) (e2 : (h : Int) / 2 = m) (hm : 512 < m) (e3 : wrap64 (m : Int) = m) (e4 : IntKind.i64.wrap (m : Int) = m) :
    Calls Try.prog 15 #[.slice A n c] w fun e w' => DecPost none w e w' := by
  go_enter Try.func15, Try.ntmps15
  go_wp2_with (first
    | (go_at_call 23; ((with_reducible refine (read_calls A n c bs _ (hb.ext ((Ext.refl _).alloc _)) hn.out hl).mono ?_); rintro e w1 ⟨gR, rfl, hgR, hR1, hx1⟩))
    | (go_at_call 24; ((with_reducible refine (ruint_calls gR _ _ hR1).mono ?_); rintro e w2 ⟨rfl, hR2, ht2⟩; rw [Hu.out]; rw [Hu.out] at hR2))
    | (refine wpList_store_blk rfl 25 (.tmp 6) (.tmp 16) rfl rfl w2.heap.size #[.bool l, .slice none 0 0, .slice none 0 0, .slice none 0 0] rfl rfl _ _ (Blk.new_at rfl _ _) rfl (by kernel_rfl) (by simp [Value.oneCell']) ?_; intro w3 hN3 hg3; have hx23 : Ext w2 w3 := ((Ext.refl _).alloc _).grown_ hg3 (by simp); have hR3 := hR2.ext hx23; obtain ⟨hS, hl2R, hlRN', hlNB'⟩ := dec_start l hgR hR1 hx1 hR2 ht2 hx23 hN3)
    | (go_at_call 25; (have hgd := rgood_calls gR _ w3 hR3; rw [hb0] at hgd; (with_reducible refine hgd.mono ?_); rintro e w' ⟨rfl, rfl⟩))
    | (refine wpList_store_blk rfl 25 (.tmp 2) (.tmp 27) rfl rfl w.heap.size ndZ rfl rfl _ _ hS.rd.2 rfl (by kernel_rfl) (by simp [Value.oneCell']) ?_; intro w5 hb5 hg5))
  all_goals (refine bodyPost_ret (results_row_tmp (P := Try.prog) (fn := Try.f15) rfl _ _ w.heap.size 25 ndZ _ rfl hb5 Try.underlying25 rfl (by kernel_rfl)) rfl ?_)
  all_goals exact decPost_none (hS.ext.grown_ hg5 (by intro k hk; cases hk; exact Nat.le_refl _)) rfl

/-- Decode: the node that bytes begin with. -/
theorem decode_calls (A : Option Addr) (n c : Nat) (bs : List UInt8) (w : World) (hb : Cells w A (bv bs)) (hn : bs.length = n) (hl : n ≤ 140737488351232) :
    Calls Try.prog 15 #[.slice A n c] w fun e w' => DecPost (dec bs) w e w' := by
  obtain ⟨h, r0, hu⟩ : ∃ h r0, (PR.mk bs false).uint = (h, r0) := ⟨_, _, rfl⟩
  have hlt := (PR.mk bs false).uint_lt
  have hrest := uint_rest (PR.mk bs false)
  rw [hu] at hlt hrest
  have hd : dec bs = if r0.bad || decide (512 < h / 2) then none else decTail (h % 2 == 1) (h / 2) r0 := by
    unfold dec
    rw [hu]
  rw [hd]
  have h1 := bits_and1 h hlt
  cases hbad : r0.bad with
  | true =>
    have := uint_bad bs (by rw [hu]; exact hbad)
    exact decode_bad A n c bs w hb (Lib.hid hn) hl (Lib.hid this)
  | false =>
    by_cases hm : 512 < h / 2
    · rw [decide_eq_true hm]
      have hlt' : h < 18446744073709551616 := hlt
      exact decode_far _ A n c h bs r0 w hb (Lib.hid hn) hl (Lib.hid hu) rfl hbad (h / 2) (by omega) hm (by unfold wrap64; omega) (by rw [wrap_i64]; unfold wrap64; omega)
    · rw [decide_eq_false hm]
      have hrl : r0.b.length ≤ 140737488351232 := by
        have h2 : r0.b.length ≤ bs.length := hrest
        omega
      by_cases hp : h % 2 = 1
      · rw [hp] at h1
        rw [beq_iff_eq.2 hp]
        exact decode_leaf A n c h (h / 2) bs r0 w hb (Lib.hid hn) hl (Lib.hid hu) h1 hbad (by omega) (by omega) hrl
      · have h0 : h % 2 = 0 := by omega
        rw [h0] at h1
        rw [beq_eq_false_iff_ne.2 hp]
        exact decode_inner A n c h (h / 2) bs r0 w hb (Lib.hid hn) hl (Lib.hid hu) h1 hbad (by omega) (by omega) hrl
end Go.Proofs.Ytmfmpbeempjeoaa

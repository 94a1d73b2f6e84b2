/- LeafDecodes: Decode answers what the document says, of any bytes: the walk of the law. -/
import Derived.Test.YtmfmpbeempjeoaaLeafRDec
import Derived.Test.YtmfmpbeempjeoaaLeafSame
namespace Go.Proofs.Ytmfmpbeempjeoaa
open Go.RowKit
set_option linter.unusedVariables false

set_option maxRecDepth 50000 in
set_option maxHeartbeats 4000000 in
theorem decodes_way (A : Option Addr) (n c : Nat) (bs : List UInt8) (w : World) (nd : Nd) (l b : Bool) (C : Int) (hb : Cells w A (bv bs)) (hn : Hid (bs.length = n)) (hc : n ≤ c) (hl : n ≤ 140737488351232) (hC : (C = 0 ∧ b = true) ∨ (C = 4 ∧ b = false))
    (hdec : ∀ w', Cells w' A (bv bs) → Calls Try.prog 15 #[.slice A n c] w' fun e w'' => ∃ (ka va da : Option Addr) (K V D kc vc dc : Nat), e = .returned (.tuple #[nda l ka K kc va V vc da D dc, .int .i64 C]) ∧ NdAt w'' nd ka va da K V D kc vc dc ∧ Ext w' w'')
    (hrdec : ∀ w', Calls Try.prog 16 #[.string (bstr bs)] w' fun e w'' => ∃ (ka va da : Option Addr) (K V D kc vc dc : Nat), e = .returned (.tuple #[nda l ka K kc va V vc da D dc, .bool b]) ∧ NdAt w'' nd ka va da K V D kc vc dc ∧ Ext w' w'') :
    Calls Try.prog 5 #[.slice A n c] w fun e w' => e = .returned (.bool true) ∧ Ext w w' := by
  by_cases hbig : 4096 < n
  · go_enter Try.func5, Try.ntmps5
    go_wp2_with (go_at_call 8; refine (leaf_alive _).mono ?_; rintro e w1 ⟨rfl, hx1⟩)
    go_ret
    exact ⟨rfl, hx1⟩
  rcases hC with ⟨rfl, rfl⟩ | ⟨rfl, rfl⟩
  all_goals
    go_enter Try.func5, Try.ntmps5
    go_wp2_with (first
      | (go_at_call 8; ((with_reducible refine (leaf_alive _).mono ?_); rintro e w1 ⟨rfl, hx1⟩))
      | (go_at_call 15; ((with_reducible refine (hdec _ (hb.ext hx1)).mono ?_); rintro e w2 ⟨ka, va, da, K, V, D, kc, vc, dc, rfl, hN2, hx2⟩; have hx02 := hx1.trans hx2))
      | (refine wpList_store_blk rfl 25 (.tmp 3) (.tmp 15) rfl rfl w2.heap.size #[.bool l, .slice ka K kc, .slice va V vc, .slice da D dc] rfl rfl _ _ (Blk.new_at rfl _ _) rfl (by kernel_rfl) (by simp [Value.oneCell']) ?_; intro w3 hb3 hg3; have hx23 : Ext w2 w3 := ((Ext.refl _).alloc _).grown_ hg3 (by simp); have hx03 := hx02.trans hx23; have hcv := conv_str (P := Try.prog) Try.underlying28 Try.underlying5 Try.underlying9 (c := c) hn.out (hb.ext hx03))
      | (go_at_call 16; ((with_reducible refine (hrdec _).mono ?_); rintro e w4 ⟨ka', va', da', K', V', D', kc', vc', dc', rfl, hN4, hx4⟩; have hx04 := hx03.trans hx4; obtain rfl : K' = K := hN4.hk.symm.trans hN2.hk; obtain rfl : V' = V := hN4.hv.symm.trans hN2.hv; obtain rfl : D' = D := hN4.hd.symm.trans hN2.hd))
      | (refine wpList_store_blk rfl 25 (.tmp 5) (.tmp 21) rfl rfl w4.heap.size #[.bool l, .slice ka' K' kc', .slice va' V' vc', .slice da' D' dc'] rfl rfl _ _ (Blk.new_at rfl _ _) rfl (by kernel_rfl) (by simp [Value.oneCell']) ?_; intro w5 hb5 hg5; have hx45 : Ext w4 w5 := ((Ext.refl _).alloc _).grown_ hg5 (by simp); have hx05 := hx04.trans hx45; obtain ⟨b0, b1, b2, b3⟩ := node_cells ((hb3.ext hx4).ext hx45); obtain ⟨c0, c1, c2, c3⟩ := node_cells hb5; have hN2' := ((hN2.ext hx23).ext hx4).ext hx45; have hN4' := hN4.ext hx45)
      | (go_at_call 17; ((with_reducible refine (nsame_eq nd l ka va da ka' va' da' K' V' D' kc vc dc kc' vc' dc' _ hN2' hN4').mono ?_); rintro e w6 ⟨rfl, hx6⟩; have hx06 := hx05.trans hx6)))
    go_ret
    exact ⟨rfl, hx06⟩
theorem leafDecodes_calls (A : Option Addr) (n c : Nat) (bs : List UInt8) (w : World) (hb : Cells w A (bv bs)) (hn : bs.length = n) (hc : n ≤ c) (hl : n ≤ 140737488351232) :
    Calls Try.prog 5 #[.slice A n c] w fun e w' => e = .returned (.bool true) ∧ Ext w w' := by
  refine decodes_way A n c bs w ((dec bs).getD ⟨false, [], [], []⟩) ((dec bs).getD ⟨false, [], [], []⟩).leaf (dec bs).isSome (if (dec bs).isSome then 0 else 4) hb (Lib.hid hn) hc hl ?_ (fun w' h => ?_) (fun w' => ?_)
  · cases (dec bs).isSome
    · exact .inr ⟨rfl, rfl⟩
    · exact .inl ⟨rfl, rfl⟩
  · refine (decode_calls A n c bs w' h hn hl).mono ?_
    rintro e w'' ⟨ka, va, da, K, V, D, kc, vc, dc, h1, h2, h3, _⟩
    exact ⟨ka, va, da, K, V, D, kc, vc, dc, h1, h2, h3⟩
  · refine (rdecode_calls bs w' (by omega)).mono ?_
    rintro e w'' ⟨ka, va, da, K, V, D, kc, vc, dc, h1, h2, h3⟩
    exact ⟨ka, va, da, K, V, D, kc, vc, dc, h1, h2, h3⟩
end Go.Proofs.Ytmfmpbeempjeoaa

/- LeafBack: what is encoded is decoded, whatever stands behind it; cut, it isn't: the walk of the law. Printed by wip/mkleafback.py. -/
import Derived.Test.YtmfmpbeempjeoaaLeafBackPure
import Derived.Test.YtmfmpbeempjeoaaLeafSame
namespace Go.Proofs.Ytmfmpbeempjeoaa
open Go.RowKit
set_option linter.unusedVariables false

theorem bv_tk (bs : List UInt8) (k : Nat) : bv (bs.take k) = (bv bs).take k := by simp [bv]
set_option maxRecDepth 50000 in
set_option maxHeartbeats 4000000 in
theorem back_great (n : Nd) (l : Bool) (hl : n.leaf = l) (ka va da : Option Addr) (K V D kc vc dc : Nat) (B : Option Addr) (m d : Nat) (qs : List UInt8) (w : World) (h : NdAt w n ka va da K V D kc vc dc) (hb : Cells w B (bv qs)) (hm : Hid (qs.length = m)) (hd : m ≤ d) (hml : m ≤ 140737488351232) (hg : 4096 < n.tot) :
    Calls Try.prog 6 #[nda l ka K kc va V vc da D dc, .slice B m d] w fun e w' => e = .returned (.bool true) ∧ Ext w w' := by
  have htot : decide (4096 < n.tot) = true := decide_eq_true hg
  have Hh := Lib.hid h
  clear h
  go_enter Try.func6, Try.ntmps6
  have hbox : Blk (w.alloc (.cells #[.bool l, .slice ka K kc, .slice va V vc, .slice da D dc] 25)) w.heap.size 25 #[.bool l, .slice ka K kc, .slice va V vc, .slice da D dc] := Blk.new w _ _
  have hx0 : Ext w (w.alloc (.cells #[.bool l, .slice ka K kc, .slice va V vc, .slice da D dc] 25)) := (Ext.refl _).alloc _
  have Hbox := Lib.hid hbox
  clear hbox
  go_wp2_with (first
    | (go_at_call 8; ((with_reducible refine (leaf_alive _).mono ?_); rintro e w1 ⟨rfl, hx1⟩; have hy1 := hx1; obtain ⟨c0, c1, c2, c3⟩ := node_cells (Hbox.out.ext hy1)))
    | (go_at_call 9; ((with_reducible refine (great_calls n l 4096 4096 rfl ka va da K V D kc vc dc _ (Hh.out.ext (hx0.trans hy1)) (by decide)).mono ?_); rintro e w2 ⟨rfl, hx2⟩; have hy2 := hy1.trans hx2; clear c0 c1 c2 c3; obtain ⟨c0, c1, c2, c3⟩ := node_cells (Hbox.out.ext hy2); rw [htot])))
  go_ret
  exact ⟨rfl, hx0.trans hy2⟩

set_option maxRecDepth 50000 in
set_option maxHeartbeats 4000000 in
theorem back_far (n : Nd) (l : Bool) (hl : n.leaf = l) (ka va da : Option Addr) (K V D kc vc dc : Nat) (B : Option Addr) (m d : Nat) (qs : List UInt8) (w : World) (h : NdAt w n ka va da K V D kc vc dc) (hb : Cells w B (bv qs)) (hm : Hid (qs.length = m)) (hd : m ≤ d) (hml : m ≤ 140737488351232) (hg : n.tot ≤ 4096) (hbig : 1024 < m) :
    Calls Try.prog 6 #[nda l ka K kc va V vc da D dc, .slice B m d] w fun e w' => e = .returned (.bool true) ∧ Ext w w' := by
  have htot : decide (4096 < n.tot) = false := decide_eq_false (by omega)
  have Hh := Lib.hid h
  clear h
  go_enter Try.func6, Try.ntmps6
  have hbox : Blk (w.alloc (.cells #[.bool l, .slice ka K kc, .slice va V vc, .slice da D dc] 25)) w.heap.size 25 #[.bool l, .slice ka K kc, .slice va V vc, .slice da D dc] := Blk.new w _ _
  have hx0 : Ext w (w.alloc (.cells #[.bool l, .slice ka K kc, .slice va V vc, .slice da D dc] 25)) := (Ext.refl _).alloc _
  have Hbox := Lib.hid hbox
  clear hbox
  go_wp2_with (first
    | (go_at_call 8; ((with_reducible refine (leaf_alive _).mono ?_); rintro e w1 ⟨rfl, hx1⟩; have hy1 := hx1; obtain ⟨c0, c1, c2, c3⟩ := node_cells (Hbox.out.ext hy1)))
    | (go_at_call 9; ((with_reducible refine (great_calls n l 4096 4096 rfl ka va da K V D kc vc dc _ (Hh.out.ext (hx0.trans hy1)) (by decide)).mono ?_); rintro e w2 ⟨rfl, hx2⟩; have hy2 := hy1.trans hx2; clear c0 c1 c2 c3; obtain ⟨c0, c1, c2, c3⟩ := node_cells (Hbox.out.ext hy2); rw [htot])))
  go_ret
  exact ⟨rfl, hx0.trans hy2⟩

set_option maxRecDepth 50000 in
set_option maxHeartbeats 4000000 in
theorem back_bad (n : Nd) (l : Bool) (hl : n.leaf = l) (ka va da : Option Addr) (K V D kc vc dc : Nat) (B : Option Addr) (m d : Nat) (qs : List UInt8) (w : World) (h : NdAt w n ka va da K V D kc vc dc) (hb : Cells w B (bv qs)) (hm : Hid (qs.length = m)) (hd : m ≤ d) (hml : m ≤ 140737488351232) (hg : n.tot ≤ 4096) (hbig : ¬ 1024 < m) (hgood : n.good = false) :
    Calls Try.prog 6 #[nda l ka K kc va V vc da D dc, .slice B m d] w fun e w' => e = .returned (.bool true) ∧ Ext w w' := by
  have htot : decide (4096 < n.tot) = false := decide_eq_false (by omega)
  have Hh := Lib.hid h
  clear h
  go_enter Try.func6, Try.ntmps6
  have hbox : Blk (w.alloc (.cells #[.bool l, .slice ka K kc, .slice va V vc, .slice da D dc] 25)) w.heap.size 25 #[.bool l, .slice ka K kc, .slice va V vc, .slice da D dc] := Blk.new w _ _
  have hx0 : Ext w (w.alloc (.cells #[.bool l, .slice ka K kc, .slice va V vc, .slice da D dc] 25)) := (Ext.refl _).alloc _
  have Hbox := Lib.hid hbox
  clear hbox
  go_wp2_with (first
    | (go_at_call 8; ((with_reducible refine (leaf_alive _).mono ?_); rintro e w1 ⟨rfl, hx1⟩; have hy1 := hx1; obtain ⟨c0, c1, c2, c3⟩ := node_cells (Hbox.out.ext hy1)))
    | (go_at_call 9; ((with_reducible refine (great_calls n l 4096 4096 rfl ka va da K V D kc vc dc _ (Hh.out.ext (hx0.trans hy1)) (by decide)).mono ?_); rintro e w2 ⟨rfl, hx2⟩; have hy2 := hy1.trans hx2; clear c0 c1 c2 c3; obtain ⟨c0, c1, c2, c3⟩ := node_cells (Hbox.out.ext hy2); rw [htot]))
    | (go_at_call 10; ((with_reducible refine (encode_bad n l ka va da K V D kc vc dc _ (Hh.out.ext (hx0.trans hy2)) hl hgood).mono ?_); rintro e w3 ⟨rfl, hx3⟩; have hy3 := hy2.trans hx3)))
  go_ret
  exact ⟨rfl, hx0.trans hy3⟩

set_option maxRecDepth 50000 in
set_option maxHeartbeats 4000000 in
theorem back_long (n : Nd) (l : Bool) (hl : n.leaf = l) (ka va da : Option Addr) (K V D kc vc dc : Nat) (B : Option Addr) (m d : Nat) (qs : List UInt8) (w : World) (h : NdAt w n ka va da K V D kc vc dc) (hb : Cells w B (bv qs)) (hm : Hid (qs.length = m)) (hd : m ≤ d) (hml : m ≤ 140737488351232) (hg : n.tot ≤ 4096) (hbig : ¬ 1024 < m) (hgood : n.good = true) (hlong : 512 < n.bytes.length) :
    Calls Try.prog 6 #[nda l ka K kc va V vc da D dc, .slice B m d] w fun e w' => e = .returned (.bool true) ∧ Ext w w' := by
  have htot : decide (4096 < n.tot) = false := decide_eq_false (by omega)
  have hB := bytes_bound h (by omega)
  have Hh := Lib.hid h
  clear h
  go_enter Try.func6, Try.ntmps6
  have hbox : Blk (w.alloc (.cells #[.bool l, .slice ka K kc, .slice va V vc, .slice da D dc] 25)) w.heap.size 25 #[.bool l, .slice ka K kc, .slice va V vc, .slice da D dc] := Blk.new w _ _
  have hx0 : Ext w (w.alloc (.cells #[.bool l, .slice ka K kc, .slice va V vc, .slice da D dc] 25)) := (Ext.refl _).alloc _
  have Hbox := Lib.hid hbox
  clear hbox
  go_wp2_with (first
    | (go_at_call 8; ((with_reducible refine (leaf_alive _).mono ?_); rintro e w1 ⟨rfl, hx1⟩; have hy1 := hx1; obtain ⟨c0, c1, c2, c3⟩ := node_cells (Hbox.out.ext hy1)))
    | (go_at_call 9; ((with_reducible refine (great_calls n l 4096 4096 rfl ka va da K V D kc vc dc _ (Hh.out.ext (hx0.trans hy1)) (by decide)).mono ?_); rintro e w2 ⟨rfl, hx2⟩; have hy2 := hy1.trans hx2; clear c0 c1 c2 c3; obtain ⟨c0, c1, c2, c3⟩ := node_cells (Hbox.out.ext hy2); rw [htot]))
    | (go_at_call 10; ((with_reducible refine (encode_long n l ka va da K V D kc vc dc _ (Hh.out.ext (hx0.trans hy2)) hl hgood hB hlong).mono ?_); rintro e w3 ⟨rfl, hx3⟩; have hy3 := hy2.trans hx3)))
  go_ret
  exact ⟨rfl, hx0.trans hy3⟩

set_option maxRecDepth 50000 in
set_option maxHeartbeats 4000000 in
theorem back_ok (n : Nd) (l : Bool) (hl : n.leaf = l) (ka va da : Option Addr) (K V D kc vc dc : Nat) (B : Option Addr) (m d : Nat) (qs : List UInt8) (w : World) (h : NdAt w n ka va da K V D kc vc dc) (hb : Cells w B (bv qs)) (hm : Hid (qs.length = m)) (hd : m ≤ d) (hml : m ≤ 140737488351232) (L L1 : Nat) (hg : n.tot ≤ 4096) (hbig : ¬ 1024 < m) (hgood : n.good = true) (hB : n.bytes.length ≤ 1048576) (hlong : ¬ 512 < n.bytes.length) (hL : Hid (n.bytes.length = L)) (hLL : L ≤ 512) (eL1 : (L : Int) - 1 = (L1 : Int)) (hL1 : L1 < L)
    (hdec1 : ∀ A c w', Cells w' A (bv (n.bytes ++ qs)) → Calls Try.prog 15 #[.slice A (L + m) c] w' fun e w'' => ∃ (ka va da : Option Addr) (K V D kc vc dc : Nat), e = .returned (.tuple #[nda l ka K kc va V vc da D dc, .int .i64 0]) ∧ NdAt w'' n ka va da K V D kc vc dc ∧ Ext w' w'')
    (hdec2 : ∀ A c w', Cells w' A (bv (n.bytes.take L1)) → Calls Try.prog 15 #[.slice A L1 c] w' fun e w'' => ∃ (ka va da : Option Addr) (K V D kc vc dc : Nat), e = .returned (.tuple #[nda false ka K kc va V vc da D dc, .int .i64 4]) ∧ NdAt w'' ⟨false, [], [], []⟩ ka va da K V D kc vc dc ∧ Ext w' w'') :
    Calls Try.prog 6 #[nda l ka K kc va V vc da D dc, .slice B m d] w fun e w' => e = .returned (.bool true) ∧ Ext w w' := by
  have htot : decide (4096 < n.tot) = false := decide_eq_false (by omega)
  have Hh := Lib.hid h
  clear h
  go_enter Try.func6, Try.ntmps6
  have hbox : Blk (w.alloc (.cells #[.bool l, .slice ka K kc, .slice va V vc, .slice da D dc] 25)) w.heap.size 25 #[.bool l, .slice ka K kc, .slice va V vc, .slice da D dc] := Blk.new w _ _
  have hx0 : Ext w (w.alloc (.cells #[.bool l, .slice ka K kc, .slice va V vc, .slice da D dc] 25)) := (Ext.refl _).alloc _
  have Hbox := Lib.hid hbox
  clear hbox
  go_wp2_with (first
    | (go_at_call 8; ((with_reducible refine (leaf_alive _).mono ?_); rintro e w1 ⟨rfl, hx1⟩; have hy1 := hx1; obtain ⟨c0, c1, c2, c3⟩ := node_cells (Hbox.out.ext hy1)))
    | (go_at_call 9; ((with_reducible refine (great_calls n l 4096 4096 rfl ka va da K V D kc vc dc _ (Hh.out.ext (hx0.trans hy1)) (by decide)).mono ?_); rintro e w2 ⟨rfl, hx2⟩; have hy2 := hy1.trans hx2; clear c0 c1 c2 c3; obtain ⟨c0, c1, c2, c3⟩ := node_cells (Hbox.out.ext hy2); rw [htot]))
    | (go_at_call 10; ((with_reducible refine (encode_ok n l ka va da K V D kc vc dc _ (Hh.out.ext (hx0.trans hy2)) hl hgood hB hlong).mono ?_); rintro e w3 ⟨⟨v, rfl, own3⟩, hx3⟩; have hy3 := hy2.trans hx3; obtain ⟨A3, cp3, hv3, hl3, hm3, hc3⟩ := Own.form_at own3 hL.out; subst hv3; have hy03 := hx0.trans hy3; have lit0 : Own w3.heap.size (w3.alloc (.cells #[] 5)) (.slice (some ⟨w3.heap.size, 0, none⟩) 0 0) [] := Own.lit [] #[] rfl (Nat.le_refl _) (by simp [maxLen])))
    | (at_builtin; refine wpList_append_u8 _ rfl (.tmp 28) (.tmp 29) rfl w3.heap.size (.slice (some ⟨w3.heap.size, 0, none⟩) 0 0) [] rfl lit0 A3 L cp3 n.bytes rfl hL.out (hc3.ext ((Ext.refl _).alloc _)) (by simp; omega) (by simp) ?_; intro v4 w4 own4 hg4 _; have hx4 : Ext w3 w4 := lit0.grows ((Ext.refl _).alloc _) hg4; rw [List.nil_append] at own4; have hy04 := hy03.trans hx4; clear hg4)
    | (at_builtin; refine wpList_append_u8 _ rfl (.tmp 30) (.tmp 31) rfl w3.heap.size v4 n.bytes rfl own4 B m d qs rfl hm.out (hb.ext hy04) (by rw [hL.out]; omega) hx4.size ?_; intro v5 w5 own5 hg5 _; have hx5 : Ext w3 w5 := own4.grows hx4 hg5; have hy05 := hy03.trans hx5; obtain ⟨A5, cp5, hv5, hl5, hm5, hc5⟩ := Own.form_at own5 (show _ = L + m by rw [List.length_append, hL.out, hm.out]); subst hv5; clear hg5)
    | (go_at_call 15; first
      | ((with_reducible refine (hdec1 A5 cp5 _ hc5).mono ?_); rintro e w6 ⟨ka', va', da', K', V', D', kc', vc', dc', rfl, hN6, hx6⟩; have hy06 := hy05.trans hx6; obtain rfl : K' = K := hN6.hk.symm.trans Hh.out.hk; obtain rfl : V' = V := hN6.hv.symm.trans Hh.out.hv; obtain rfl : D' = D := hN6.hd.symm.trans Hh.out.hd)
      | ((with_reducible refine (hdec2 A3 cp3 _ (by have q := hc3.take L1; rw [← bv_tk] at q; exact ((q.ext hx5).ext hx6).ext hx67)).mono ?_); rintro e w8 ⟨ka9, va9, da9, K9, V9, D9, kc9, vc9, dc9, rfl, hN8, hx8⟩; have hy08 := hy07.trans hx8))
    | (refine wpList_store_blk rfl 25 (.tmp 7) (.tmp 34) rfl rfl w6.heap.size #[.bool l, .slice ka' K' kc', .slice va' V' vc', .slice da' D' dc'] rfl rfl _ _ (Blk.new_at rfl _ _) rfl (by kernel_rfl) (by simp [Value.oneCell']) ?_; intro w7 hb7 hg7; have hx67 : Ext w6 w7 := ((Ext.refl _).alloc _).grown_ hg7 (by simp); have hy07 := hy06.trans hx67; clear hg7)
    | (refine wpList_store_blk rfl 25 (.tmp 9) (.tmp 43) rfl rfl w8.heap.size #[.bool false, .slice ka9 K9 kc9, .slice va9 V9 vc9, .slice da9 D9 dc9] rfl rfl _ _ (Blk.new_at rfl _ _) rfl (by kernel_rfl) (by simp [Value.oneCell']) ?_; intro w9 hb9 hg9; have hx89 : Ext w8 w9 := ((Ext.refl _).alloc _).grown_ hg9 (by simp); have hy09 := hy08.trans hx89; clear hg9; clear c0 c1 c2 c3; obtain ⟨c0, c1, c2, c3⟩ := node_cells ((((((Hbox.out.ext hy3).ext hx5).ext hx6).ext hx67).ext hx8).ext hx89); obtain ⟨b0, b1, b2, b3⟩ := node_cells ((hb7.ext hx8).ext hx89))
    | (go_at_call 17; ((with_reducible refine (nsame_eq n l ka va da ka' va' da' K' V' D' kc vc dc kc' vc' dc' _ (Hh.out.ext hy09) (((hN6.ext hx67).ext hx8).ext hx89)).mono ?_); rintro e w10 ⟨rfl, hx10⟩; have hy10 := hy09.trans hx10)))
  all_goals (first | (go_ret; exact ⟨rfl, hy10⟩) | (trace_state; sorry))

theorem leafBack_calls (n : Nd) (ka va da : Option Addr) (K V D kc vc dc : Nat) (B : Option Addr) (m d : Nat) (qs : List UInt8) (w : World) (h : NdAt w n ka va da K V D kc vc dc) (hb : Cells w B (bv qs)) (hm : qs.length = m) (hd : m ≤ d) (hml : m ≤ 140737488351232) :
    Calls Try.prog 6 #[nda n.leaf ka K kc va V vc da D dc, .slice B m d] w fun e w' => e = .returned (.bool true) ∧ Ext w w' := by
  have Hm := Lib.hid hm
  by_cases h1 : 4096 < n.tot
  · exact back_great n n.leaf rfl ka va da K V D kc vc dc B m d qs w h hb Hm hd hml h1
  have h1' : n.tot ≤ 4096 := by omega
  by_cases h2 : 1024 < m
  · exact back_far n n.leaf rfl ka va da K V D kc vc dc B m d qs w h hb Hm hd hml h1' h2
  cases hg : n.good with
  | false => exact back_bad n n.leaf rfl ka va da K V D kc vc dc B m d qs w h hb Hm hd hml h1' h2 hg
  | true =>
    by_cases h3 : 512 < n.bytes.length
    · exact back_long n n.leaf rfl ka va da K V D kc vc dc B m d qs w h hb Hm hd hml h1' h2 hg h3
    have hpos : 0 < n.bytes.length := by
      unfold Nd.bytes
      rw [List.length_append, List.length_append]
      have := uintB_pos n.headN
      omega
    refine back_ok n n.leaf rfl ka va da K V D kc vc dc B m d qs w h hb Hm hd hml n.bytes.length (n.bytes.length - 1) h1' h2 hg (bytes_bound h (by omega)) h3 (Lib.hid rfl) (by omega) (by omega) (by omega) (fun A c w' hc => ?_) (fun A c w' hc => ?_)
    · have hdc := decode_calls A (n.bytes.length + m) c (n.bytes ++ qs) w' hc (by rw [List.length_append, hm]) (by omega)
      rw [dec_of hg (by omega)] at hdc
      refine hdc.mono ?_
      rintro e w'' ⟨ka, va, da, K, V, D, kc, vc, dc, h1, h2, h3, _⟩
      exact ⟨ka, va, da, K, V, D, kc, vc, dc, h1, h2, h3⟩
    · have hdc := decode_calls A (n.bytes.length - 1) c (n.bytes.take (n.bytes.length - 1)) w' hc (by rw [List.length_take]; omega) (by omega)
      rw [dec_cut hg (by omega) (by omega)] at hdc
      refine hdc.mono ?_
      rintro e w'' ⟨ka, va, da, K, V, D, kc, vc, dc, h1, h2, h3, _⟩
      exact ⟨ka, va, da, K, V, D, kc, vc, dc, h1, h2, h3⟩
end Go.Proofs.Ytmfmpbeempjeoaa

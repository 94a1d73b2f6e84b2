/- The walks of Same: of lists of strings, of nodes: what is the same is told so. -/
import Derived.Test.YtmfmpbeempjeoaaLeafLaw
namespace Go.Proofs.Ytmfmpbeempjeoaa
open Go.RowKit
set_option linter.unusedVariables false

theorem str_self (s : ByteArray) : (s.toList == s.toList) = true := by simp

set_option maxRecDepth 50000 in
set_option maxHeartbeats 1000000 in
theorem fsame_eq (a b : Option Addr) (n c d : Nat) (xs : List ByteArray) (w : World) (ha : Cells w a (sv xs)) (hb : Cells w b (sv xs)) (hn : Hid (xs.length = n)) (hl : n ≤ 140737488351232) :
    Calls Try.prog 30 #[.slice a n c, .slice b n d] w fun e w' => e = .returned (.bool true) ∧ Ext w w' := by
  go_enter Try.func30, Try.ntmps30
  go_wp2
  go_loopw [13] (fun i wr => ∃ k : Nat, k ≤ n ∧ i = .int .i64 k ∧ Ext w wr) (fun i _ => n - (intOf i).toNat)
  case atStart => exact ⟨0, Nat.zero_le _, rfl, Ext.refl _⟩
  case round =>
    obtain ⟨k, hk, rfl, hx⟩ := hrel
    by_cases hlt : k < n
    · have hkl : k < xs.length := by rw [hn.out]; exact hlt
      obtain ⟨x, rfl, cx⟩ := (ha.ext hx) k _ (sv_get hkl)
      obtain ⟨y, rfl, cy⟩ := (hb.ext hx) k _ (sv_get hkl)
      generalize xs[k] = s at cx cy
      have hst := str_self s
      go_wp2
      go_region
      go_wp2
      go_roundw
      case rel => exact ⟨k + 1, by omega, by go_num, hx.drewN 1⟩
      case measure => simp [intOf]; omega
    · obtain rfl : k = n := by omega
      go_wp2
      go_ret
      exact ⟨rfl, hx⟩

set_option maxRecDepth 50000 in
set_option maxHeartbeats 2000000 in
theorem nsame_t (n : Nd) (ka va da ka' va' da' : Option Addr) (K V D kc vc dc kc' vc' dc' : Nat) (w : World) (h1 : NdAt w n ka va da K V D kc vc dc) (h2 : NdAt w n ka' va' da' K V D kc' vc' dc') :
    Calls Try.prog 17 #[nda true ka K kc va V vc da D dc, nda true ka' K kc' va' V vc' da' D dc'] w fun e w' => e = .returned (.bool true) ∧ Ext w w' := by
  have Hk := Lib.hid h1.hk
  have Hv := Lib.hid h1.hv
  have Hd := Lib.hid h1.hd
  have bK := h1.bk
  have bV := h1.bv_
  have bD := h1.bd_
  have hl1 := h1.ld
  have hl2 := h2.ld
  go_enter Try.func17, Try.ntmps17
  obtain ⟨w0, hw0⟩ : ∃ w0, w0 = ((w.alloc (.cells #[.bool true, .slice ka K kc, .slice va V vc, .slice da D dc] 25)).alloc (.cells #[.bool true, .slice ka' K kc', .slice va' V vc', .slice da' D dc'] 25)) := ⟨_, rfl⟩
  have hB0 : Blk w0 w.heap.size 25 #[.bool true, .slice ka K kc, .slice va V vc, .slice da D dc] := by rw [hw0]; exact (Blk.new w _ _).alloc _
  have hB1 : Blk w0 (w.heap.size + 1) 25 #[.bool true, .slice ka' K kc', .slice va' V vc', .slice da' D dc'] := by rw [hw0]; exact Blk.new_at (by simp) _ _
  have hx0 : Ext w w0 := by rw [hw0]; exact ((Ext.refl w).alloc _).alloc _
  have HB0 := Lib.hid hB0
  have HB1 := Lib.hid hB1
  rw [hw0] at hx0 HB0 HB1
  clear hB0 hB1 hw0
  go_wp2_with (go_at_call 30; first
    | ((with_reducible refine (fsame_eq ka ka' K kc kc' n.keys _ (h1.ck.ext hx0) (h2.ck.ext hx0) Hk bK).mono ?_); rintro e w1 ⟨rfl, hx1⟩; have hx01 := hx0.trans hx1; obtain ⟨b0, b1, b2, b3⟩ := node_cells (HB0.out.ext hx1); obtain ⟨c0, c1, c2, c3⟩ := node_cells (HB1.out.ext hx1))
    | ((with_reducible refine (fsame_eq va va' V vc vc' n.vals _ (h1.cv.ext hx01) (h2.cv.ext hx01) Hv bV).mono ?_); rintro e w2 ⟨rfl, hx2⟩; have hx02 := hx01.trans hx2; clear b0 b1 b2 b3 c0 c1 c2 c3; obtain ⟨b0, b1, b2, b3⟩ := node_cells ((HB0.out.ext hx1).ext hx2); obtain ⟨c0, c1, c2, c3⟩ := node_cells ((HB1.out.ext hx1).ext hx2)))
  have HB0' := Lib.hid ((HB0.out.ext hx1).ext hx2)
  have HB1' := Lib.hid ((HB1.out.ext hx1).ext hx2)
  clear b0 b1 b2 b3 c0 c1 c2 c3 HB0 HB1 hx01 hx0 hx1 hx2
  go_loopw [39] (fun i wr => ∃ k : Nat, k ≤ D ∧ i = .int .i64 k ∧ Ext w2 wr) (fun i _ => D - (intOf i).toNat)
  case atStart => exact ⟨0, Nat.zero_le _, rfl, Ext.refl _⟩
  case round =>
    obtain ⟨k, hk, rfl, hx⟩ := hrel
    by_cases hlt : k < D
    · have hkl : k < n.kids.length := by rw [Hd.out]; exact hlt
      obtain ⟨x, rfl, cx⟩ := ((h1.cd.ext hx02).ext hx) k _ (iv_get hkl)
      obtain ⟨y, rfl, cy⟩ := ((h2.cd.ext hx02).ext hx) k _ (iv_get hkl)
      generalize n.kids[k] = s at cx cy
      obtain ⟨b0, b1, b2, b3⟩ := node_cells (HB0'.out.ext hx)
      obtain ⟨c0, c1, c2, c3⟩ := node_cells (HB1'.out.ext hx)
      have hp0 : (0 : Int) ≤ (k : Int) := by omega
      have hp1 : (k : Int) < (D : Int) := by omega
      go_wp2
      go_quiet (fail)
      go_wp2
      go_roundw
      case rel => exact ⟨k + 1, by omega, by go_num, hx.drewN _⟩
      case measure => simp [intOf]; omega
    · obtain rfl : k = D := by omega
      go_wp2
      go_ret
      exact ⟨rfl, hx02.trans hx⟩

set_option maxRecDepth 50000 in
set_option maxHeartbeats 2000000 in
theorem nsame_f (n : Nd) (ka va da ka' va' da' : Option Addr) (K V D kc vc dc kc' vc' dc' : Nat) (w : World) (h1 : NdAt w n ka va da K V D kc vc dc) (h2 : NdAt w n ka' va' da' K V D kc' vc' dc') :
    Calls Try.prog 17 #[nda false ka K kc va V vc da D dc, nda false ka' K kc' va' V vc' da' D dc'] w fun e w' => e = .returned (.bool true) ∧ Ext w w' := by
  have Hk := Lib.hid h1.hk
  have Hv := Lib.hid h1.hv
  have Hd := Lib.hid h1.hd
  have bK := h1.bk
  have bV := h1.bv_
  have bD := h1.bd_
  have hl1 := h1.ld
  have hl2 := h2.ld
  go_enter Try.func17, Try.ntmps17
  obtain ⟨w0, hw0⟩ : ∃ w0, w0 = ((w.alloc (.cells #[.bool false, .slice ka K kc, .slice va V vc, .slice da D dc] 25)).alloc (.cells #[.bool false, .slice ka' K kc', .slice va' V vc', .slice da' D dc'] 25)) := ⟨_, rfl⟩
  have hB0 : Blk w0 w.heap.size 25 #[.bool false, .slice ka K kc, .slice va V vc, .slice da D dc] := by rw [hw0]; exact (Blk.new w _ _).alloc _
  have hB1 : Blk w0 (w.heap.size + 1) 25 #[.bool false, .slice ka' K kc', .slice va' V vc', .slice da' D dc'] := by rw [hw0]; exact Blk.new_at (by simp) _ _
  have hx0 : Ext w w0 := by rw [hw0]; exact ((Ext.refl w).alloc _).alloc _
  have HB0 := Lib.hid hB0
  have HB1 := Lib.hid hB1
  rw [hw0] at hx0 HB0 HB1
  clear hB0 hB1 hw0
  go_wp2_with (go_at_call 30; first
    | ((with_reducible refine (fsame_eq ka ka' K kc kc' n.keys _ (h1.ck.ext hx0) (h2.ck.ext hx0) Hk bK).mono ?_); rintro e w1 ⟨rfl, hx1⟩; have hx01 := hx0.trans hx1; obtain ⟨b0, b1, b2, b3⟩ := node_cells (HB0.out.ext hx1); obtain ⟨c0, c1, c2, c3⟩ := node_cells (HB1.out.ext hx1))
    | ((with_reducible refine (fsame_eq va va' V vc vc' n.vals _ (h1.cv.ext hx01) (h2.cv.ext hx01) Hv bV).mono ?_); rintro e w2 ⟨rfl, hx2⟩; have hx02 := hx01.trans hx2; clear b0 b1 b2 b3 c0 c1 c2 c3; obtain ⟨b0, b1, b2, b3⟩ := node_cells ((HB0.out.ext hx1).ext hx2); obtain ⟨c0, c1, c2, c3⟩ := node_cells ((HB1.out.ext hx1).ext hx2)))
  have HB0' := Lib.hid ((HB0.out.ext hx1).ext hx2)
  have HB1' := Lib.hid ((HB1.out.ext hx1).ext hx2)
  clear b0 b1 b2 b3 c0 c1 c2 c3 HB0 HB1 hx01 hx0 hx1 hx2
  go_loopw [39] (fun i wr => ∃ k : Nat, k ≤ D ∧ i = .int .i64 k ∧ Ext w2 wr) (fun i _ => D - (intOf i).toNat)
  case atStart => exact ⟨0, Nat.zero_le _, rfl, Ext.refl _⟩
  case round =>
    obtain ⟨k, hk, rfl, hx⟩ := hrel
    by_cases hlt : k < D
    · have hkl : k < n.kids.length := by rw [Hd.out]; exact hlt
      obtain ⟨x, rfl, cx⟩ := ((h1.cd.ext hx02).ext hx) k _ (iv_get hkl)
      obtain ⟨y, rfl, cy⟩ := ((h2.cd.ext hx02).ext hx) k _ (iv_get hkl)
      generalize n.kids[k] = s at cx cy
      obtain ⟨b0, b1, b2, b3⟩ := node_cells (HB0'.out.ext hx)
      obtain ⟨c0, c1, c2, c3⟩ := node_cells (HB1'.out.ext hx)
      have hp0 : (0 : Int) ≤ (k : Int) := by omega
      have hp1 : (k : Int) < (D : Int) := by omega
      go_wp2
      go_quiet (fail)
      go_wp2
      go_roundw
      case rel => exact ⟨k + 1, by omega, by go_num, hx.drewN _⟩
      case measure => simp [intOf]; omega
    · obtain rfl : k = D := by omega
      go_wp2
      go_ret
      exact ⟨rfl, hx02.trans hx⟩

theorem nsame_eq (n : Nd) (l : Bool) (ka va da ka' va' da' : Option Addr) (K V D kc vc dc kc' vc' dc' : Nat) (w : World) (h1 : NdAt w n ka va da K V D kc vc dc) (h2 : NdAt w n ka' va' da' K V D kc' vc' dc') :
    Calls Try.prog 17 #[nda l ka K kc va V vc da D dc, nda l ka' K kc' va' V vc' da' D dc'] w fun e w' => e = .returned (.bool true) ∧ Ext w w' := by
  cases l
  · exact nsame_f n ka va da ka' va' da' K V D kc vc dc kc' vc' dc' w h1 h2
  · exact nsame_t n ka va da ka' va' da' K V D kc vc dc kc' vc' dc' w h1 h2
end Go.Proofs.Ytmfmpbeempjeoaa

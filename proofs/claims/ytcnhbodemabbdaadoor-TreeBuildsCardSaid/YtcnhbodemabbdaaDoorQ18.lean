/- The walk of the reference's Next: the state behind a block. -/
import Derived.Test.YtcnhbodemabbdaaDoorQ05
import Derived.BigRegion
namespace Go.Proofs.YtcnhbodemabbdaaDoor
open Go.RowKit
set_option linter.unusedVariables false

/-- The rounds' numbers as an array. -/
def ktv : Array Value := ((List.range 64).map fun i => wv (kt i)).toArray
theorem ktv_get (k : Nat) (hk : k < 64) : ktv[k]? = some (wv (kt k)) := by simp [ktv, hk]
theorem ktv_size : ktv.size = 64 := by simp [ktv]

theorem turn_lit (x : W) (k : Nat) (z : Int) (hz : z = (k : Int)) (hk : k ≤ 32) (w : World) :
    Calls Tryd.prog 124 #[wv x, .int .u64 z] w fun e w' => e = .returned (wv (tr x k)) ∧ w = w' := by
  subst hz
  exact turn_calls x k hk w
theorem three_lit (x : W) (i j k : Nat) (a b c : Int) (ha : a = (i : Int)) (hb : b = (j : Int)) (hc : c = (k : Int)) (hi : i ≤ 32) (hj : j ≤ 32) (hk : k ≤ 32) (w : World) :
    Calls Tryd.prog 125 #[wv x, .int .u64 a, .int .u64 b, .int .u64 c] w fun e w' => e = .returned (wv (tr x i ^^^ tr x j ^^^ tr x k)) ∧ w = w' := by
  subst ha hb hc
  exact three_calls x i j k hi hj hk w
theorem n7 : (7 : Int) = ((7 : Nat) : Int) := rfl
theorem n18 : (18 : Int) = ((18 : Nat) : Int) := rfl
theorem n17 : (17 : Int) = ((17 : Nat) : Int) := rfl
theorem n19 : (19 : Int) = ((19 : Nat) : Int) := rfl
theorem n6 : (6 : Int) = ((6 : Nat) : Int) := rfl
theorem n11 : (11 : Int) = ((11 : Nat) : Int) := rfl
theorem n25 : (25 : Int) = ((25 : Nat) : Int) := rfl
theorem n2 : (2 : Int) = ((2 : Nat) : Int) := rfl
theorem n13 : (13 : Int) = ((13 : Nat) : Int) := rfl
theorem n22 : (22 : Int) = ((22 : Nat) : Int) := rfl
theorem w4_sum (a b c d : UInt8) : ((a.toNat : Int) % 4294967296 * 16777216 + (b.toNat : Int) % 4294967296 * 65536 + (c.toNat : Int) % 4294967296 * 256 + (d.toNat : Int)) % 4294967296 = ((w4 a b c d).toNat : Int) := by
  have ha := a.toNat_lt
  have hb := b.toNat_lt
  have hc := c.toNat_lt
  have hd := d.toNat_lt
  rw [w4_nat]; omega
/-- Next's memory: the state, the numbers, the result, the words. -/
def NextW (w wr : World) (s : St) (cs : Array Value) : Prop :=
  Ext w wr ∧ Blk wr w.heap.size 148 (stv s) ∧ Blk wr (w.heap.size + 1) 174 ktv ∧ (∃ z : Array Value, z.size = 8 ∧ Blk wr (w.heap.size + 1 + 1) 148 z) ∧ Blk wr (w.heap.size + 1 + 1 + 1) 174 cs
theorem NextW.drewN {w wr : World} {s : St} {cs : Array Value} (h : NextW w wr s cs) (n : Nat) : NextW w (wr.drewN n) s cs :=
  ⟨h.1.drewN n, h.2.1, h.2.2.1, h.2.2.2.1, h.2.2.2.2⟩
theorem NextW.set {w wr : World} {s : St} {cs : Array Value} (h : NextW w wr s cs) (k : Nat) (u : Value) : NextW w (wr.setCell ⟨w.heap.size + 1 + 1 + 1, k, none⟩ u) s (cs.setIfInBounds k u) :=
  ⟨h.1.set (by simp; omega) _, h.2.1.far (by simp; omega) _, h.2.2.1.far (by simp) _, let ⟨z, e, b⟩ := h.2.2.2.1; ⟨z, e, b.far (by simp) _⟩, h.2.2.2.2.set k u⟩

set_option maxRecDepth 100000 in
set_option maxHeartbeats 4000000 in
theorem next_calls (s : St) (x : Addr) (c : Nat) (hc : 64 ≤ c) (bs : List UInt8) (w : World) (h : Cells w (some x) (bv bs)) (hn : bs.length = 64) :
    Calls Tryd.prog 118 #[.agg (stv s), .slice (some x) 64 c, .agg ktv] w fun e w' => e = .returned (.agg (stv (comp s bs))) ∧ Ext w w' := by
  go_enter Tryd.func118, Tryd.ntmps118
  go_wp2
  go_loopw [8] (fun i wr => ∃ k : Nat, k ≤ 16 ∧ i = .int .i64 k ∧ NextW w wr s (wcs bs k)) (fun i _ => 16 - (intOf i).toNat)
  case atStart => exact ⟨0, by omega, rfl, (((((Ext.refl _).alloc _).alloc _).alloc _).alloc _), ((((Blk.new w _ _).alloc _).alloc _).alloc _), (((Blk.new_at (by simp) _ _).alloc _).alloc _), ⟨_, rfl, ((Blk.new_at (by simp) _ _).alloc _)⟩, Blk.new_at (by simp) _ _⟩
  case round =>
    obtain ⟨k, hk, rfl, hN⟩ := hrel
    by_cases hlt : k < 16
    · have hW := hN.2.2.2.2
      have hx := hN.1
      have hfr := hW.frozen k
      have hcell := (hW.cell k).trans (upTo_new (Nat.le_refl k) (show k < 64 by omega))
      have hby := (bytes_from h (4 * k) (by omega)).ext hx
      obtain ⟨_, e, h0⟩ := hby 0 _ rfl
      cases e
      obtain ⟨_, e, h1⟩ := hby 1 _ rfl
      cases e
      obtain ⟨_, e, h2⟩ := hby 2 _ rfl
      cases e
      obtain ⟨_, e, h3⟩ := hby 3 _ rfl
      cases e
      rw [add_add] at h0 h1 h2 h3
      rw [Nat.add_zero] at h0
      clear hby
      have g1 : wr.cell? ⟨x.block, x.off + (4 * k + 1), none⟩ = _ := h1
      have g2 : wr.cell? ⟨x.block, x.off + (4 * k + 2), none⟩ = _ := h2
      have g3 : wr.cell? ⟨x.block, x.off + (4 * k + 3), none⟩ = _ := h3
      go_wp2
      go_region
      go_wp2
      go_roundw
      case rel =>
        refine ⟨k + 1, by omega, by go_num, ?_⟩
        have := hN.set k (wv (sch bs k))
        rw [wcs, upTo_set (by omega)] at this
        rw [w4_sum, ← List.getD_eq_getElem?_getD, ← List.getD_eq_getElem?_getD, ← List.getD_eq_getElem?_getD, ← List.getD_eq_getElem?_getD, ← sch_lt hlt]
        exact this.drewN 1
      case measure => simp [intOf]; omega
    · obtain rfl : k = 16 := by omega
      clear hlt hk
      rw [show ((16 : Nat) : Int) = 16 from rfl]
      go_wp2
      go_loopw [9] (fun i wr => ∃ k : Nat, 16 ≤ k ∧ k ≤ 64 ∧ i = .int .i64 k ∧ NextW w wr s (wcs bs k)) (fun i _ => 64 - (intOf i).toNat)
      case atStart => exact ⟨16, by omega, by omega, rfl, hN⟩
      case round =>
        clear hN
        obtain ⟨k, hk0, hk, rfl, hN⟩ := hrel
        by_cases hlt : k < 64
        · have hW := hN.2.2.2.2
          have hfr := hW.frozen k
          have hcell := (hW.cell k).trans (upTo_new (Nat.le_refl k) hlt)
          have l0 := (hW.cell (k - 16)).trans (upTo_old (show k - 16 < k by omega) (by omega))
          have l1 := (hW.cell (k - 15)).trans (upTo_old (show k - 15 < k by omega) (by omega))
          have l2 := (hW.cell (k - 7)).trans (upTo_old (show k - 7 < k by omega) (by omega))
          have l3 := (hW.cell (k - 2)).trans (upTo_old (show k - 2 < k by omega) (by omega))
          have e0 : (k : Int) - 16 = ((k - 16 : Nat) : Int) := by omega
          have e1 : (k : Int) - 15 = ((k - 15 : Nat) : Int) := by omega
          have e2 : (k : Int) - 7 = ((k - 7 : Nat) : Int) := by omega
          have e3 : (k : Int) - 2 = ((k - 2 : Nat) : Int) := by omega
          go_wp2
          go_quiet (fail)
          go_wp2_with (first | (go_at_call 124; ((with_reducible refine (turn_lit _ 7 _ n7 (by decide) _).mono ?_); rintro e w' ⟨rfl, rfl⟩)) | (go_at_call 124; ((with_reducible refine (turn_lit _ 18 _ n18 (by decide) _).mono ?_); rintro e w' ⟨rfl, rfl⟩)) | (go_at_call 124; ((with_reducible refine (turn_lit _ 17 _ n17 (by decide) _).mono ?_); rintro e w' ⟨rfl, rfl⟩)) | (go_at_call 124; ((with_reducible refine (turn_lit _ 19 _ n19 (by decide) _).mono ?_); rintro e w' ⟨rfl, rfl⟩)))
          go_region
          go_wp2
          go_roundw
          case rel =>
            refine ⟨k + 1, by omega, by omega, by go_num, ?_⟩
            have := hN.set k (wv (sch bs k))
            rw [wcs, upTo_set (by omega)] at this
            rw [sg0_int, sg1_int, sum4_int, ← sch_ge (by omega)]
            exact this.drewN (nq + 1)
          case measure => simp [intOf]; omega
        · obtain rfl : k = 64 := by omega
          clear hk0 hk hlt
          rw [show ((64 : Nat) : Int) = 64 from rfl]
          have hb2 := hN.2.1
          have c0 := hb2.cell 0
          have c1 := hb2.cell 1
          have c2 := hb2.cell 2
          have c3 := hb2.cell 3
          have c4 := hb2.cell 4
          have c5 := hb2.cell 5
          have c6 := hb2.cell 6
          have c7 := hb2.cell 7
          simp [stv] at c0 c1 c2 c3 c4 c5 c6 c7
          go_wp2
          go_quiet (fail)
          have hN1 := hN.drewN nq
          generalize hw1 : wr.drewN nq = w1 at hN1
          clear hw1 hN c0 c1 c2 c3 c4 c5 c6 c7 hb2
          go_wp2
          go_loopw [14, 15, 16, 17, 18, 19, 20, 21, 22] (fun v11 v12 v13 v14 v15 v16 v17 v18 i wr => ∃ (k : Nat) (r : St), k ≤ 64 ∧ i = .int .i64 k ∧ v11 = wv r.a ∧ v12 = wv r.b ∧ v13 = wv r.c ∧ v14 = wv r.d ∧ v15 = wv r.e ∧ v16 = wv r.f ∧ v17 = wv r.g ∧ v18 = wv r.h ∧ Aside (r = rnds bs s k) ∧ NextW w wr s (wcs bs 64)) (fun _ _ _ _ _ _ _ _ i _ => 64 - (intOf i).toNat)
          case atStart => exact ⟨0, s, by omega, rfl, rfl, rfl, rfl, rfl, rfl, rfl, rfl, rfl, rfl, hN1⟩
          case round =>
            clear hN1
            obtain ⟨k, r, hk, rfl, rfl, rfl, rfl, rfl, rfl, rfl, rfl, rfl, hr, hN⟩ := hrel
            by_cases hlt : k < 64
            · have ht := (hN.2.2.1.cell k).trans (ktv_get k hlt)
              have hi := (hN.2.2.2.2.cell k).trans (upTo_old (n := 64) hlt (by omega))
              have hlt' : (k : Int) < 64 := by omega
              go_wp2
              go_quiet ((go_at_call 125; refine Calls.quiet_of_same ((three_lit _ 6 11 25 _ _ _ n6 n11 n25 (by decide) (by decide) (by decide) _).mono (fun e w' h => ⟨h.1, h.2.symm⟩))))
              go_wp2_with (go_at_call 125; ((with_reducible refine (three_lit _ 2 13 22 _ _ _ n2 n13 n22 (by decide) (by decide) (by decide) _).mono ?_); rintro e w' ⟨rfl, rfl⟩))
              go_roundw
              case rel =>
                simp only [← BitVec.toNat_xor]
                simp only [ifs32, u32_not, u32_and, u32_xor, sum5_int, sum2_int]
                have hr' : r = rnds bs s k := hr
                exact ⟨k + 1, rnd (kt k) (sch bs k) r, by omega, by go_num, rfl, rfl, rfl, rfl, rfl, rfl, rfl, rfl, by rw [hr']; rfl, hN.drewN nq⟩
              case measure => simp [intOf]; omega
            · obtain rfl : k = 64 := by omega
              clear hk hlt
              rw [show ((64 : Nat) : Int) = 64 from rfl]
              obtain ⟨hx1, B0, B1, ⟨z, hz, B2⟩, B3⟩ := hN
              have c0 := B0.cell 0
              have c1 := B0.cell 1
              have c2 := B0.cell 2
              have c3 := B0.cell 3
              have c4 := B0.cell 4
              have c5 := B0.cell 5
              have c6 := B0.cell 6
              have c7 := B0.cell 7
              simp [stv] at c0 c1 c2 c3 c4 c5 c6 c7
              go_wp2_with (refine wpList_store_blk rfl 148 (.tmp 6) (.tmp 206) rfl rfl (w.heap.size + 1 + 1) _ rfl rfl _ _ B2 (by rw [hz]; rfl) (by rw [hz]; kernel_rfl) ?_ ?_; (intro v hv; simp at hv; rcases hv with rfl | rfl | rfl | rfl | rfl | rfl | rfl | rfl <;> rfl); intro w3 hb3 hg3)
              simp only [sum2_int] at hb3
              have hr' : r = rnds bs s 64 := hr
              have e : (#[.int .u32 ((s.a + r.a).toNat : Int), .int .u32 ((s.b + r.b).toNat : Int), .int .u32 ((s.c + r.c).toNat : Int), .int .u32 ((s.d + r.d).toNat : Int), .int .u32 ((s.e + r.e).toNat : Int), .int .u32 ((s.f + r.f).toNat : Int), .int .u32 ((s.g + r.g).toNat : Int), .int .u32 ((s.h + r.h).toNat : Int)] : Array Value) = stv (comp s bs) := by rw [hr']; rfl
              rw [e] at hb3
              exact bodyPost_ret (results_cell_row (P := Tryd.prog) (fn := Tryd.f118) rfl _ _ _ _ (stv (comp s bs)) _ _ rfl hb3 Tryd.underlying148 rfl (by kernel_rfl)) rfl ⟨rfl, hx1.grown_ hg3 (by simp; omega)⟩
end Go.Proofs.YtcnhbodemabbdaaDoor

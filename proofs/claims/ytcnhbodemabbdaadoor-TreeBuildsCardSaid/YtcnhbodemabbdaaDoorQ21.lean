/- The walk of the reference's Of: the digest of bytes. -/
import Derived.Test.YtcnhbodemabbdaaDoorQ19
import Derived.Test.YtcnhbodemabbdaaDoorQ20
import Derived.StillTailTactics
namespace Go.Proofs.YtcnhbodemabbdaaDoor
open Go.RowKit
set_option linter.unusedVariables false

section
variable {P : Program} {ops : Array Oper} {w : World} {Q : Act → Prop} {a : Act} {o : Oper} {rest : List Oper}
/-- A load of a whole array in a region whose head is still. -/
theorem still_load_blk (hgd : o.guard = none) (ty : TypeId) (x : Operand) (ho : o.op = .load ty x) (g : Nat) (hx : a.eval x = .pointer (some ⟨g, 0, none⟩)) (t : TypeId) (cs : Array Value) (d : TypeDesc) (h : Blk w g t cs)
    (hu : P.underlying ty = some d) (hd : (match d with | .struct _ | .array _ _ => true | _ => false) = true) (hi : (P.info? ty).map (·.size) = some cs.size)
    (hk : wpStill P ops w Q rest (a.put o.dst (.agg cs))) : wpStill P ops w Q (o :: rest) a := by
  refine wpStill_step fun K hK => ?_
  have hw : Region.wanted o (yielded ops a.tmps) = true := by simp [Region.wanted, hgd]
  rw [if_pos hw]
  unfold Oper.still execOp
  simp only [ho, hx, Sem.run_bind, run_load_blk h hu hd hi, Result.andThen_ok, Sem.run_pure, Oper.stillUpon]
  exact ⟨trivial, hK _ hk⟩
end
/-- Of's memory: the result, the state, the numbers, the padded bytes. -/
structure OfW (w wr : World) (B K : Nat) (v : Value) (ps : List UInt8) (S : St) : Prop where
  ext : Ext w wr
  res : ∃ z : Array Value, z.size = 32 ∧ Blk wr w.heap.size 25 z
  st : Blk wr (w.heap.size + 1) 148 (stv S)
  num : Blk wr K 174 ktv
  own : Own B wr v ps
  below : w.heap.size + 1 < B ∧ B ≤ K
theorem OfW.ext' {w wr w' : World} {B K : Nat} {v : Value} {ps : List UInt8} {S : St} (h : OfW w wr B K v ps S) (k : Ext wr w') : OfW w w' B K v ps S :=
  ⟨h.ext.trans k, let ⟨z, e, b⟩ := h.res; ⟨z, e, b.ext k⟩, h.st.ext k, h.num.ext k, h.own.ext k, h.below⟩
theorem OfW.turn {w wr w' : World} {B K : Nat} {v : Value} {ps : List UInt8} {S S' : St} (h : OfW w wr B K v ps S) (hg : wr.grownBy w' (some (w.heap.size + 1))) (hb : Blk w' (w.heap.size + 1) 148 (stv S')) : OfW w w' B K v ps S' := by
  have hbe := h.below
  refine ⟨h.ext.grown_ hg (by simp), let ⟨z, e, b⟩ := h.res; ⟨z, e, b.grown hg (by simp)⟩, hb, h.num.grown hg (by simp; omega), h.own.other hg ?_, h.below⟩
  cases hv : v.ownBlock with
  | none => exact .inl rfl
  | some k =>
    have := (h.own.lt hv).1
    exact .inr (by simp; omega)

theorem drop_cells {w : World} {g : Nat} {bs : List UInt8} (h : Cells w (some ⟨g, 0, none⟩) (bv bs)) (k : Nat) : Cells w (some ⟨g, k, none⟩) (bv ((bs.drop k).take 64)) := by
  have := (h.drop k).take 64
  simp only [Option.map_some, add_new] at this
  simpa [bv] using this

set_option maxRecDepth 100000 in
set_option maxHeartbeats 4000000 in
theorem refOf_calls (A : Option Addr) (n c : Nat) (bs : List UInt8) (w : World) (hb : Cells w A (bv bs)) (hn : bs.length = n) (hl : n ≤ 1048576) :
    Calls Tryd.prog 96 #[.slice A n c] w fun e w' => e = .returned (.agg (dgv bs)) ∧ Ext w w' := by
  go_enter Tryd.func96, Tryd.ntmps96
  go_wp2_with (first
    | (refine wpList_store_blk rfl 148 (.tmp 3) (.tmp 11) rfl rfl (w.heap.size + 1) (stv st0) rfl rfl _ _ (Blk.new_at (by simp) _ _) rfl (by kernel_rfl) ?_ ?_; (intro v hv; simp [stv] at hv; rcases hv with rfl | rfl | rfl | rfl | rfl | rfl | rfl | rfl <;> rfl); intro w1 hb1 hg1; have hx1 : Ext w w1 := (((Ext.refl _).alloc _).alloc _).grown_ hg1 (by simp); have hR := ((Blk.new w _ _).alloc _).grown hg1 (by simp); clear hg1)
    | (go_at_call 116; ((with_reducible refine (padded_calls A n c bs _ (hb.ext hx1) hn hl).mono ?_); rintro e w2 ⟨v, rfl, own, hx2⟩))
    | (go_at_call 117; ((with_reducible refine (numbers_calls _).mono ?_); rintro e w3 ⟨rfl, hx3⟩))
    | (refine wpList_store_blk rfl 174 (.tmp 5) (.tmp 14) rfl rfl (w3.heap.size) ktv rfl rfl _ _ (Blk.new_at (by simp) _ _) rfl (by kernel_rfl) ?_ ?_; (rw [ktv, List.toList_toArray]; intro v hv; obtain ⟨i, _, rfl⟩ := List.mem_map.1 hv; rfl); intro w4 hb4 hg4; have hx4 : Ext w3 w4 := ((Ext.refl _).alloc _).grown_ hg4 (by simp); clear hg4))
  have hX : OfW w w4 w1.heap.size w3.heap.size v (padded bs) st0 :=
    ⟨((hx1.trans hx2).trans hx3).trans hx4, ⟨_, rfl, ((hR.ext hx2).ext hx3).ext hx4⟩, ((hb1.ext hx2).ext hx3).ext hx4, hb4, ((own.ext hx3).ext hx4), hb1.lt, Nat.le_trans hx2.size hx3.size⟩
  obtain ⟨N, hN⟩ : ∃ N, N = nblocks n := ⟨_, rfl⟩
  have hL : (padded bs).length = 64 * N := by rw [padded_len, hn, hN, nblocks_mul]
  have hN2 : N ≤ 16386 := by have := nblocks_mul n; have := gap_lt n; omega
  have hNp : 0 < N := by have := nblocks_mul n; omega
  obtain ⟨g5, c5, rfl, hg5, _, hc5⟩ := own.some_ (by rw [hL]; omega)
  rw [hL] at hX hc5 ⊢
  have HL := Lib.hid hL
  have HN := Lib.hid hN
  clear hN hL own hb1 hR hb4
  go_loopg [6] N (fun gk i wr => ∃ k : Nat, k + gk = N ∧ i = .int .i64 ((64 * k : Nat) : Int) ∧ OfW w wr w1.heap.size w3.heap.size (.slice (some ⟨g5, 0, none⟩) (64 * N) c5) (padded bs) (blks st0 (padded bs) k))
  case atStart => exact ⟨0, by omega, rfl, hX⟩
  case round =>
    clear hX
    obtain ⟨k, hk, rfl, hX⟩ := hrel
    cases gk with
    | succ j =>
      have kl : 64 * k + 64 ≤ 64 * N := by omega
      have kc : 64 * k + 64 ≤ c5 := by omega
      obtain ⟨lo, hlo⟩ : ∃ lo, lo = 64 * k := ⟨_, rfl⟩
      obtain ⟨hi, hhi⟩ : ∃ hi, hi = lo + 64 := ⟨_, rfl⟩
      rw [← hlo]
      have e1 : IntKind.i64.wrap ((lo : Int) + 64) = (hi : Int) := by rw [IntKind.wrap_i64]; omega
      have e2 : hi ≤ c5 := by omega
      have e3 : lo ≤ hi := by omega
      have e4 : ¬ c5 = lo := by omega
      have e5 : hi - lo = 64 := by omega
      have e6 : lo < 64 * N := by omega
      have hblk := drop_cells hX.own.cells lo
      have hc64 : 64 ≤ c5 - lo := by omega
      have hl64 : (((padded bs).drop lo).take 64).length = 64 := by rw [List.length_take, List.length_drop, HL.out]; omega
      have Hlo := Lib.hid hlo
      have Hhi := Lib.hid hhi
      clear hlo hhi kl kc
      go_wp2
      refine wp_region_still_tail 7 (by kernel_rfl) (by kernel_rfl) ?_
      simp only [List.take_succ_cons, List.take_zero, List.drop_succ_cons, List.drop_zero]
      refine still_load_blk rfl 148 (.tmp 3) rfl (w.heap.size + 1) rfl _ _ _ hX.st.drew Tryd.underlying148 rfl (by kernel_rfl) ?_
      repeat still_step
      refine still_load_blk rfl 174 (.tmp 5) rfl w3.heap.size rfl _ _ _ hX.num.drew Tryd.underlying174 rfl (by kernel_rfl) ?_
      refine wpStill_nil ?_
      change wpList _ _ _ _ _ wr.drew
      go_wp2_with (first
        | (go_at_call 118; ((with_reducible refine (next_calls _ _ _ hc64 _ _ (hblk.ext ((Ext.refl _).drew)) hl64).mono ?_); rintro e w6 ⟨rfl, hx6⟩; have hX6 := hX.ext' (((Ext.refl _).drew).trans hx6)))
        | (refine wpList_store_blk rfl 148 (.tmp 3) (.tmp 28) rfl rfl (w.heap.size + 1) _ rfl rfl _ _ hX6.st ((stv_size _).trans (stv_size _).symm) (by rw [stv_size]; kernel_rfl) ?_ ?_; exact stv_one _; intro w7 hb7 hg7; have hX7 := hX6.turn hg7 hb7; clear hg7 hb7 hX6))
      go_roundg j
      case measure => omega
      case rel =>
        have e := Hlo.out
        subst e
        refine ⟨k + 1, by omega, by go_num, ?_⟩
        rw [blks_succ]
        exact hX7
    | zero =>
      obtain rfl : k = N := by omega
      clear hk
      go_wp2_with (first
        | (refine wpList_load_blk rfl 148 (.tmp 3) rfl (w.heap.size + 1) rfl _ _ _ (hX.st.alloc _) Tryd.underlying148 rfl (by kernel_rfl) ?_))
      have hS : blks st0 (padded bs) k = final bs := by rw [HN.out, ← hn]; rfl
      have hD : DW w (wr.alloc (.cells ((List.range 32).map fun _ => Value.int .u8 0).toArray 25)) wr.heap.size (blks st0 (padded bs) k) 0 :=
        ⟨hX.ext.alloc _, let ⟨z, e, b⟩ := hX.res; ⟨z, e, b.alloc _⟩, by rw [dcs, upTo_none]; exact Blk.new wr _ _, by have := hX.st.lt; omega⟩
      obtain ⟨S, hS2⟩ : ∃ S, S = blks st0 (padded bs) k := ⟨_, rfl⟩
      rw [← hS2] at hD hS ⊢
      obtain ⟨D, hD2⟩ : ∃ D, D = wr.heap.size := ⟨_, rfl⟩
      rw [← hD2] at hD ⊢
      clear hS2 hX hD2
      have HS := Lib.hid hS
      clear hS
      go_loopw [30] (fun i wq => ∃ a : Nat, a ≤ 8 ∧ i = .int .i64 a ∧ DW w wq D S (4 * a)) (fun i _ => 8 - (intOf i).toNat)
      case atStart => exact ⟨0, by omega, rfl, hD⟩
      case round =>
        clear hD
        obtain ⟨a, ha, rfl, hD⟩ := hrel
        by_cases hlt : a < 8
        · have hi := fun w9 => run_index_arr (P := Tryd.prog) (w := w9) (cs := stv S) Tryd.underlying148 (by kernel_rfl) (stv_get S a hlt) hlt Tryd.underlying147
          go_wp2
          go_loopw [10] (fun j wq => ∃ b : Nat, b ≤ 4 ∧ j = .int .i64 b ∧ DW w wq D S (4 * a + b)) (fun j _ => 4 - (intOf j).toNat)
          case atStart => exact ⟨0, by omega, rfl, hD⟩
          case round =>
            clear hD
            obtain ⟨b, hb4, rfl, hD⟩ := hrel
            by_cases hlt2 : b < 4
            · have hfr := hD.out.frozen (4 * a + b)
              have hcell := (hD.out.cell (4 * a + b)).trans (upTo_new (Nat.le_refl (4 * a + b)) (show 4 * a + b < 32 by omega))
              go_wp2
              go_roundw
              case rel =>
                rw [dby_int S a b hlt2]
                exact ⟨b + 1, by omega, by go_num, hD.step (by omega)⟩
              case measure => simp [intOf]; omega
            · obtain rfl : b = 4 := by omega
              go_wp2
              go_roundw
              case rel => exact ⟨a + 1, by omega, by go_num, hD⟩
              case measure => simp [intOf]; omega
        · obtain rfl : a = 8 := by omega
          obtain ⟨hx9, ⟨z, hz, hR⟩, hO, _⟩ := hD
          go_wp2_with (first
            | (refine wpList_load_blk rfl 25 (.tmp 7) rfl D rfl _ _ _ hO Tryd.underlying25 rfl (by kernel_rfl) ?_)
            | (refine wpList_store_blk rfl 25 (.tmp 2) (.tmp 51) rfl rfl w.heap.size _ rfl rfl _ _ hR (by rw [hz]; exact upTo_size) (by rw [hz]; kernel_rfl) ?_ ?_; (rw [show (4 * 8) = 32 from rfl, dcs_all]; exact bv_one _); intro w9 hb9 hg9))
          rw [show (4 * 8) = 32 from rfl, dcs_all, HS.out] at hb9
          exact bodyPost_ret (results_cell_row (P := Tryd.prog) (fn := Tryd.f96) rfl _ _ _ _ (dgv bs) _ _ rfl hb9 Tryd.underlying25 rfl (by kernel_rfl)) rfl ⟨rfl, hx9.grown_ hg9 (by simp)⟩
end Go.Proofs.YtcnhbodemabbdaaDoor

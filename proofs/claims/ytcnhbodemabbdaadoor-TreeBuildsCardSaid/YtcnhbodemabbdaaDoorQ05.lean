/- The walk of sha's block: one block of 64 bytes taken into the state. -/
import Derived.Test.YtcnhbodemabbdaaDoorQ01
import Derived.Test.YtcnhbodemabbdaaDoorQ02
import Derived.Test.YtcnhbodemabbdaaDoorQ03
import Derived.Test.YtcnhbodemabbdaaDoorQ04
namespace Go.Proofs.YtcnhbodemabbdaaDoor
open Go.RowKit
set_option linter.unusedVariables false

/-- The state's cells. -/
def stv (s : St) : Array Value := #[wv s.a, wv s.b, wv s.c, wv s.d, wv s.e, wv s.f, wv s.g, wv s.h]
/-- The words' cells, the first k known. -/
def wcs (bs : List UInt8) (k : Nat) : Array Value := upTo 64 k (fun j => wv (sch bs j)) (fun _ => .int .u32 0)
/-- The state's cells, the first k added. -/
def mixv (s r : St) (k : Nat) : Array Value := upTo 8 k (fun j => wv (s.at j + r.at j)) (fun j => wv (s.at j))
theorem mixv_none (s r : St) : mixv s r 0 = stv s := rfl
theorem mixv_all (s r : St) : mixv s r 8 = stv (s.add r) := rfl
/-- The rounds' numbers lie in the first block. -/
def Tab (w : World) : Prop := 0 < w.heap.size ∧ ∀ i, i < 64 → w.cell? ⟨0, i, none⟩ = some (wv (kt i))
theorem Tab.ext {w w' : World} (h : Tab w) (k : Ext w w') : Tab w' := ⟨Nat.lt_of_lt_of_le h.1 k.size, fun i hi => k.cell (h.2 i hi)⟩

theorem Ext.to_grown {w w1 w2 : World} {g : Nat} (h : Ext w w1) (hg : w1.grownBy w2 (some g)) : w.grownBy w2 (some g) :=
  ⟨hg.os.trans h.os, hg.tape.trans h.tape, hg.output.trans h.output, Nat.le_trans h.size hg.size, fun k hk hne => (hg.block k (Nat.lt_of_lt_of_le hk h.size) hne).trans (h.block k hk)⟩
theorem grown_step {w w1 w2 : World} {g : Nat} (h : w.grownBy w1 (some g)) (k : w1.grownBy w2 (some g)) : w.grownBy w2 (some g) :=
  ⟨k.os.trans h.os, k.tape.trans h.tape, k.output.trans h.output, Nat.le_trans h.size k.size, fun j hj hne => (k.block j (Nat.lt_of_lt_of_le hj h.size) hne).trans (h.block j hj hne)⟩
theorem grown_drewN {w w1 : World} {g : Nat} (h : w.grownBy w1 (some g)) (n : Nat) : w.grownBy (w1.drewN n) (some g) := ⟨h.os, h.tape, h.output, h.size, h.block⟩

theorem stv_get (r : St) (k : Nat) (hk : k < 8) : (stv r)[k]? = some (wv (r.at k)) := by
  match k, hk with
  | 0, _ => rfl
  | 1, _ => rfl
  | 2, _ => rfl
  | 3, _ => rfl
  | 4, _ => rfl
  | 5, _ => rfl
  | 6, _ => rfl
  | 7, _ => rfl

theorem getD_of {α : Type} (l : List α) (d : α) {i : Nat} (h : i < l.length) : l.getD i d = l[i] := by
  rw [List.getD_eq_getElem?_getD, List.getElem?_eq_getElem h]; rfl

theorem bytes_from {w : World} {x : Addr} {bs : List UInt8} (h : Cells w (some x) (bv bs)) (i : Nat) (hi : i + 4 ≤ bs.length) :
    Cells w (some (x.add i)) (bv (bs.getD i 0 :: bs.getD (i + 1) 0 :: bs.getD (i + 2) 0 :: bs.getD (i + 3) 0 :: bs.drop (i + 4))) := by
  have e : bs.getD i 0 :: bs.getD (i + 1) 0 :: bs.getD (i + 2) 0 :: bs.getD (i + 3) 0 :: bs.drop (i + 4) = bs.drop i := by
    rw [getD_of _ _ (by omega), getD_of _ _ (by omega), getD_of _ _ (by omega), getD_of _ _ (by omega)]
    rw [List.drop_eq_getElem_cons (show i < bs.length by omega), List.drop_eq_getElem_cons (show i + 1 < bs.length by omega), List.drop_eq_getElem_cons (show i + 2 < bs.length by omega), List.drop_eq_getElem_cons (show i + 3 < bs.length by omega)]
  rw [e]
  have := h.drop i
  simpa [bv] using this

theorem sg0_int (x : W) : Go.bits .xor .u32 (Go.bits .xor .u32 ((tr x 7).toNat : Int) ((tr x 18).toNat : Int)) ((x.toNat : Int) / 8) = ((sg0 x).toNat : Int) := by
  have e := u32_shr x 3
  rw [show ((2 : Int) ^ 3) = 8 by decide] at e
  rw [e, u32_xor, u32_xor]; rfl
theorem sg1_int (x : W) : Go.bits .xor .u32 (Go.bits .xor .u32 ((tr x 17).toNat : Int) ((tr x 19).toNat : Int)) ((x.toNat : Int) / 1024) = ((sg1 x).toNat : Int) := by
  have e := u32_shr x 10
  rw [show ((2 : Int) ^ 10) = 1024 by decide] at e
  rw [e, u32_xor, u32_xor]; rfl
theorem sum4_int (a b c d : W) : ((a.toNat : Int) + (b.toNat : Int) + (c.toNat : Int) + (d.toNat : Int)) % 4294967296 = ((a + b + c + d).toNat : Int) := by
  rw [BitVec.toNat_add, BitVec.toNat_add, BitVec.toNat_add]; omega
theorem sum5_int (a b c d e : W) : ((a.toNat : Int) + (b.toNat : Int) + (c.toNat : Int) + (d.toNat : Int) + (e.toNat : Int)) % 4294967296 = ((a + b + c + d + e).toNat : Int) := by
  rw [BitVec.toNat_add, BitVec.toNat_add, BitVec.toNat_add, BitVec.toNat_add]; omega
theorem ifs32 : (if IntKind.u32.signed = true then (-1 : Int) else IntKind.u32.max) = 4294967295 := by decide
theorem sum2_int (a b : W) : ((a.toNat : Int) + (b.toNat : Int)) % 4294967296 = ((a + b).toNat : Int) := by
  rw [BitVec.toNat_add]; omega
theorem rot6 : Go.bits .and .u64 (IntKind.u64.wrap (-6)) 31 = ((26 : Nat) : Int) := by decide
theorem rot11 : Go.bits .and .u64 (IntKind.u64.wrap (-11)) 31 = ((21 : Nat) : Int) := by decide
theorem rot25 : Go.bits .and .u64 (IntKind.u64.wrap (-25)) 31 = ((7 : Nat) : Int) := by decide
theorem rot2 : Go.bits .and .u64 (IntKind.u64.wrap (-2)) 31 = ((30 : Nat) : Int) := by decide
theorem rot13 : Go.bits .and .u64 (IntKind.u64.wrap (-13)) 31 = ((19 : Nat) : Int) := by decide
theorem rot22 : Go.bits .and .u64 (IntKind.u64.wrap (-22)) 31 = ((10 : Nat) : Int) := by decide
theorem rot7 : Go.bits .and .u64 (IntKind.u64.wrap (-7)) 31 = ((25 : Nat) : Int) := by decide
theorem rot18 : Go.bits .and .u64 (IntKind.u64.wrap (-18)) 31 = ((14 : Nat) : Int) := by decide
theorem rot17 : Go.bits .and .u64 (IntKind.u64.wrap (-17)) 31 = ((15 : Nat) : Int) := by decide
theorem rot19 : Go.bits .and .u64 (IntKind.u64.wrap (-19)) 31 = ((13 : Nat) : Int) := by decide

set_option maxRecDepth 100000 in
set_option maxHeartbeats 4000000 in
theorem block_calls (s : St) (g : Nat) (x : Addr) (c : Nat) (hc : 64 ≤ c) (bs : List UInt8) (w : World) (hb : Blk w g 149 (stv s)) (h : Cells w (some x) (bv bs)) (hn : bs.length = 64) (hT : Tab w) :
    Calls Tryd.prog 89 #[.pointer (some ⟨g, 0, none⟩), .slice (some x) 64 c] w fun e w' => e = .returned (.tuple #[]) ∧ w.grownBy w' (some g) ∧ Blk w' g 149 (stv (comp s bs)) := by
  go_enter Tryd.func89, Tryd.ntmps89
  go_wp2
  go_loopw [26] (fun i wr => ∃ k : Nat, k ≤ 16 ∧ i = .int .i64 k ∧ Ext w wr ∧ Blk wr w.heap.size 174 (wcs bs k)) (fun i _ => 16 - (intOf i).toNat)
  case atStart => exact ⟨0, by omega, rfl, (Ext.refl _).alloc _, Blk.new w _ _⟩
  case round =>
    obtain ⟨k, hk, rfl, hx, hW⟩ := hrel
    by_cases hlt : k < 16
    · have hcell := hW.cell_ (i := k) (by rw [wcs, upTo_size]; omega)
      have hfr := hW.frozen k
      have hby := (bytes_from h (4 * k) (by omega)).ext hx
      have hsz := hx.size
      go_wp2_with (go_at_call 113; ((with_reducible refine (word_calls _ _ _ _ _ _ _ _ _ hby ?h1 ?h2).mono ?_); (case h1 => rw [List.length_drop]; omega); (case h2 => unfold maxLen; omega); rintro e w' ⟨rfl, nn, rfl⟩; rw [← sch_lt hlt]))
      go_roundw
      case rel =>
        refine ⟨k + 1, by omega, by go_num, (hx.drewN _).set (by simp) _, ?_⟩
        have := (hW.drewN nn).set k (wv (sch bs k))
        rw [wcs, upTo_set (by omega)] at this
        exact this
      case measure => simp [intOf]; omega
    · obtain rfl : k = 16 := by omega
      clear hlt hk
      rw [show ((16 : Nat) : Int) = 16 from rfl]
      go_wp2
      go_loopw [6] (fun i wr => ∃ k : Nat, 16 ≤ k ∧ k ≤ 64 ∧ i = .int .i64 k ∧ Ext w wr ∧ Blk wr w.heap.size 174 (wcs bs k)) (fun i _ => 64 - (intOf i).toNat)
      case atStart => exact ⟨16, by omega, by omega, rfl, hx, hW⟩
      case round =>
        clear hx hW
        obtain ⟨k, hk0, hk, rfl, hx, hW⟩ := hrel
        by_cases hlt : k < 64
        · have hfr := hW.frozen k
          have hcell := (hW.cell k).trans (upTo_new (Nat.le_refl k) hlt)
          have l0 := (hW.cell (k - 16)).trans (upTo_old (show k - 16 < k by omega) (by omega))
          have l1 := (hW.cell (k - 15)).trans (upTo_old (show k - 15 < k by omega) (by omega))
          have l2 := (hW.cell (k - 7)).trans (upTo_old (show k - 7 < k by omega) (by omega))
          have l3 := (hW.cell (k - 2)).trans (upTo_old (show k - 2 < k by omega) (by omega))
          have e0 : (k : Int) - 16 = ((k - 16 : Nat) : Int) := by omega
          have e1 : (k : Int) - 15 = ((k - 15 : Nat) : Int) := by omega
          have e2 : (k : Int) - 7 = ((k - 7 : Nat) : Int) := by omega
          have e3 : (k : Int) - 2 = ((k - 2 : Nat) : Int) := by omega
          go_wp2
          go_quiet (fail)
          go_wp2_with (first | (go_at_call 114; ((with_reducible refine (rot_calls _ 7 25 _ rot7 (by decide) _).mono ?_); rintro e w' ⟨rfl, rfl⟩)) | (go_at_call 114; ((with_reducible refine (rot_calls _ 18 14 _ rot18 (by decide) _).mono ?_); rintro e w' ⟨rfl, rfl⟩)) | (go_at_call 114; ((with_reducible refine (rot_calls _ 17 15 _ rot17 (by decide) _).mono ?_); rintro e w' ⟨rfl, rfl⟩)) | (go_at_call 114; ((with_reducible refine (rot_calls _ 19 13 _ rot19 (by decide) _).mono ?_); rintro e w' ⟨rfl, rfl⟩)))
          go_region
          go_wp2
          go_roundw
          case rel =>
            refine ⟨k + 1, by omega, by omega, by go_num, (hx.drewN _).set (by simp) _, ?_⟩
            have := (hW.drewN (nq + 1)).set k (wv (sch bs k))
            rw [wcs, upTo_set (by omega)] at this
            rw [sg0_int, sg1_int, sum4_int, ← sch_ge (by omega)]
            exact this
          case measure => simp [intOf]; omega
        · obtain rfl : k = 64 := by omega
          clear hk0 hk hlt
          rw [show ((64 : Nat) : Int) = 64 from rfl]
          have hb2 := hb.ext hx
          have c0 := hb2.cell 0
          have c1 := hb2.cell 1
          have c2 := hb2.cell 2
          have c3 := hb2.cell 3
          have c4 := hb2.cell 4
          have c5 := hb2.cell 5
          have c6 := hb2.cell 6
          have c7 := hb2.cell 7
          simp [stv] at c0 c1 c2 c3 c4 c5 c6 c7
          go_wp2
          go_quiet (fail)
          go_wp2_with (refine wpList_load_blk rfl 174 (.tmp 4) rfl (w.heap.size) rfl _ _ _ (hW.drewN _) Tryd.underlying174 rfl (by kernel_rfl) ?_)
          have hx1 : Ext w (wr.drewN nq) := hx.drewN nq
          generalize hw1 : wr.drewN nq = w1 at hx1
          have hW1 : Blk w1 w.heap.size 174 (wcs bs 64) := by rw [← hw1]; exact hW.drewN nq
          clear hw1 hW hx c0 c1 c2 c3 c4 c5 c6 c7 hb2
          obtain ⟨hT0, hT1⟩ := hT.ext hx1
          go_loopw [11, 12, 13, 14, 15, 16, 17, 18, 113] (fun v11 v12 v13 v14 v15 v16 v17 v18 i wr => ∃ (k : Nat) (r : St), k ≤ 64 ∧ i = .int .i64 k ∧ v11 = wv r.a ∧ v12 = wv r.b ∧ v13 = wv r.c ∧ v14 = wv r.d ∧ v15 = wv r.e ∧ v16 = wv r.f ∧ v17 = wv r.g ∧ v18 = wv r.h ∧ Aside (r = rnds bs s k) ∧ wr = w1) (fun _ _ _ _ _ _ _ _ i _ => 64 - (intOf i).toNat)
          case atStart => exact ⟨0, s, by omega, rfl, rfl, rfl, rfl, rfl, rfl, rfl, rfl, rfl, rfl, rfl⟩
          case round =>
            obtain ⟨k, r, hk, rfl, rfl, rfl, rfl, rfl, rfl, rfl, rfl, rfl, hr, hwe⟩ := hrel
            replace hwe := hwe.symm
            subst hwe
            by_cases hlt : k < 64
            · have ht := hT1 k hlt
              have hi := run_index_arr (P := Tryd.prog) (w := w1) Tryd.underlying174 (by kernel_rfl) (upTo_old (n := 64) (f := fun j => wv (sch bs j)) (z := fun _ => .int .u32 0) hlt (by omega)) hlt Tryd.underlying147
              rw [show upTo 64 64 (fun j => wv (sch bs j)) (fun _ => .int .u32 0) = wcs bs 64 from rfl] at hi
              go_wp2_with (first | (go_at_call 114; ((with_reducible refine (rot_calls _ 6 26 _ rot6 (by decide) _).mono ?_); rintro e w' ⟨rfl, rfl⟩)) | (go_at_call 114; ((with_reducible refine (rot_calls _ 11 21 _ rot11 (by decide) _).mono ?_); rintro e w' ⟨rfl, rfl⟩)) | (go_at_call 114; ((with_reducible refine (rot_calls _ 25 7 _ rot25 (by decide) _).mono ?_); rintro e w' ⟨rfl, rfl⟩)) | (go_at_call 114; ((with_reducible refine (rot_calls _ 2 30 _ rot2 (by decide) _).mono ?_); rintro e w' ⟨rfl, rfl⟩)) | (go_at_call 114; ((with_reducible refine (rot_calls _ 13 19 _ rot13 (by decide) _).mono ?_); rintro e w' ⟨rfl, rfl⟩)) | (go_at_call 114; ((with_reducible refine (rot_calls _ 22 10 _ rot22 (by decide) _).mono ?_); rintro e w' ⟨rfl, rfl⟩)))
              go_roundw
              case rel =>
                simp only [ifs32, u32_not, u32_and, u32_xor, sum5_int, sum2_int]
                have hr' : r = rnds bs s k := hr
                exact ⟨k + 1, rnd (kt k) (sch bs k) r, by omega, by go_num, rfl, rfl, rfl, rfl, rfl, rfl, rfl, rfl, by rw [hr']; rfl, trivial⟩
              case measure => simp [intOf]; omega
            · obtain rfl : k = 64 := by omega
              clear hk hlt hT1
              rw [show ((64 : Nat) : Int) = 64 from rfl]
              go_wp2
              have hb1 := hb.ext hx1
              have hx2 : w1.grownBy w1 (some g) := ⟨rfl, rfl, rfl, Nat.le_refl _, fun _ _ _ => rfl⟩
              go_loopw [186] (fun i wr => ∃ k : Nat, k ≤ 8 ∧ i = .int .i64 k ∧ w1.grownBy wr (some g) ∧ Blk wr g 149 (mixv s r k)) (fun i _ => 8 - (intOf i).toNat)
              case atStart => exact ⟨0, by omega, rfl, hx2, hb1⟩
              case round =>
                obtain ⟨k, hk, rfl, hgr, hM⟩ := hrel
                by_cases hlt : k < 8
                · have hfr := hM.frozen k
                  have hcell := (hM.cell k).trans (upTo_new (Nat.le_refl k) hlt)
                  have hi := run_index_arr (P := Tryd.prog) (w := wr) (cs := stv r) Tryd.underlying148 (by kernel_rfl) (stv_get r k hlt) hlt Tryd.underlying147
                  unfold stv at hi
                  go_wp2
                  go_region
                  go_wp2
                  go_roundw
                  case rel =>
                    rw [sum2_int]
                    refine ⟨k + 1, by omega, by go_num, grown_drewN (grown_step hgr (grown_set wr g k _)) 1, ?_⟩
                    have := hM.set k (wv (s.at k + r.at k))
                    rw [mixv, upTo_set hlt] at this
                    exact this.drew
                  case measure => simp [intOf]; omega
                · obtain rfl : k = 8 := by omega
                  have hr' : r = rnds bs s 64 := hr
                  go_wp2
                  go_end0
                  refine ⟨rfl, hx1.to_grown hgr, ?_⟩
                  rw [mixv_all, hr'] at hM
                  exact hM
end Go.Proofs.YtcnhbodemabbdaaDoor

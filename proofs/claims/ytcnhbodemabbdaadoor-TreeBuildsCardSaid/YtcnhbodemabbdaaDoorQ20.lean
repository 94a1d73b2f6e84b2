/- A digest's memory: 32 bytes that are filled one by one. -/
import Derived.Test.YtcnhbodemabbdaaDoorQ05
namespace Go.Proofs.YtcnhbodemabbdaaDoor
open Go.RowKit
set_option linter.unusedVariables false

/-- A digest as an array's cells. -/
def dgv (bs : List UInt8) : Array Value := (bv (sha bs)).toArray

theorem stv_size (s : St) : (stv s).size = 8 := rfl
theorem stv_one (s : St) : ∀ v ∈ (stv s).toList, v.oneCell' = true := by
  intro v hv
  simp [stv] at hv
  rcases hv with rfl | rfl | rfl | rfl | rfl | rfl | rfl | rfl <;> rfl
/-- A digest's byte. -/
def dby (s : St) (t : Nat) : UInt8 := UInt8.ofNat ((s.at (t / 4)).toNat / 2 ^ (24 - 8 * (t % 4)))
def dcs (s : St) (t : Nat) : Array Value := upTo 32 t (fun i => .int .u8 (dby s i).toNat) (fun _ => .int .u8 0)
theorem dcs_all (s : St) : dcs s 32 = (bv (dig s)).toArray := by
  rw [dcs, upTo_all, dig, bv, List.map_map]; rfl
theorem dcs_set (s : St) (t : Nat) (h : t < 32) : (dcs s t).setIfInBounds t (.int .u8 (dby s t).toNat) = dcs s (t + 1) := upTo_set (f := fun i => .int .u8 (dby s i).toNat) h
theorem dby_int (s : St) (a b : Nat) (hb : b < 4) : ((s.at a).toNat : Int) / 2 ^ (24 - 8 * b) % 256 = ((dby s (4 * a + b)).toNat : Int) := by
  unfold dby
  rw [UInt8.toNat_ofNat', show (4 * a + b) / 4 = a by omega, show (4 * a + b) % 4 = b by omega]
  rfl
/-- The digest's memory. -/
structure DW (w wr : World) (D : Nat) (s : St) (t : Nat) : Prop where
  ext : Ext w wr
  res : ∃ z : Array Value, z.size = 32 ∧ Blk wr w.heap.size 25 z
  out : Blk wr D 25 (dcs s t)
  ne : w.heap.size < D
theorem DW.step {w wr : World} {D : Nat} {s : St} {t : Nat} (h : DW w wr D s t) (ht : t < 32) : DW w (wr.setCell ⟨D, t, none⟩ (.int .u8 (dby s t).toNat)) D s (t + 1) := by
  have hn := h.ne
  refine ⟨h.ext.set (by simp; omega) _, let ⟨z, e, b⟩ := h.res; ⟨z, e, b.far (by simp; omega) _⟩, ?_, h.ne⟩
  have := h.out.set t (.int .u8 (dby s t).toNat)
  rw [dcs_set s t ht] at this
  exact this

end Go.Proofs.YtcnhbodemabbdaaDoor

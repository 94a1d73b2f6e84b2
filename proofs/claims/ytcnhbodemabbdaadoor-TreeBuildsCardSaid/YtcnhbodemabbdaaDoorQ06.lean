/- The listed table: from the row's condition to the rounds' numbers in the first block; the door's own heap meets the condition. -/
import Derived.Test.YtcnhbodemabbdaaDoorRows
import Derived.Test.YtcnhbodemabbdaaDoorQ05
import Derived.ProofKit
import Derived.LaidMore
import Derived.OpenShut
namespace Go.Proofs.YtcnhbodemabbdaaDoor
open Go.ChangeShapes Go.WideShapes Go.ChangeAt Go.RowKit
set_option linter.unusedVariables false

abbrev laidL : List (String × DataW Unit) := [("rootstock/sha.table", Rows.laid_rootstock_sha_table)]
set_option maxRecDepth 100000 in
theorem laid_kts : (Rows.laid_rootstock_sha_table : DataW Unit) = .agg (kts.map fun (k : Nat) => .lit (.int .u32 (Int.ofNat k))) := by kernel_rfl
theorem kt_nat : ∀ i, i < 64 → (kt i).toNat = kts.getD i 0 := by decide
theorem kts_len : kts.length = 64 := by decide
theorem gTable : Tryd.prog.globalNamed "rootstock/sha.table" = some 0 := by kernel_rfl
theorem tTable : (Tryd.prog.globals[0]?).map (·.type) = some 174 := by kernel_rfl

theorem door_met (os : Os) (args : Array Value) : laidMetH Tryd.prog laidL ((World.doorLaid Tryd.prog 400 os).forCall (fun _ _ => 0) ⟨#[], args, []⟩).memory :=
  laidMetH_of_parts3 (fuel := 8) (laidMet_of_run' 8 (by kernel_rfl) (by kernel_rfl)) (by kernel_rfl) (by kernel_rfl)

set_option maxRecDepth 100000 in
theorem tab_of {W : World} (h : laidMetH Tryd.prog laidL W) : Tab W := by
  rw [MakeChecks.laidMetH_plain _ _ _ (by kernel_rfl)] at h
  obtain ⟨ps, ⟨g0, t0, cs0, f0, p0, q0, hg0, ht0, hv0, hd0, _, _⟩, _, _⟩ := h
  obtain rfl := Option.some.inj (gTable.symm.trans hg0)
  obtain rfl := Option.some.inj (tTable.symm.trans ht0)
  obtain ⟨xs, m1, rfl, hx1, hlen, hn3, hel⟩ := DataW.trod_array Tryd.underlying174 hd0
  have c3 : Tryd.prog.cellsOf 147 = 1 := by kernel_rfl
  have key : ∀ i, i < 64 → W.cell? ⟨0, i, none⟩ = some (wv (kt i)) := by
    intro i hi
    have h0 := hel i hi
    rw [laid_kts] at hx1
    simp only [Prod.mk.injEq, DataW.agg.injEq] at hx1
    have hxi : i < xs.length := by omega
    rw [List.getElem?_eq_getElem hxi] at h0
    obtain ⟨k, e1, e2, _⟩ := DataW.trod_int Tryd.underlying147 h0
    have e3 := congrArg (fun l => l[i]?) hx1.1
    simp only [List.getElem?_map, List.getElem?_eq_getElem hxi, List.getElem?_eq_getElem (show i < kts.length by rw [kts_len]; exact hi), Option.map_some] at e3
    rw [e2] at e3
    have hk : k = (kts[i]'(by rw [kts_len]; exact hi) : Int) := by
      have := Option.some.inj e3
      simp only [DataW.lit.injEq, Lit.int.injEq] at this
      exact this.2.symm
    have hc := World.var?_cell hg0 hv0 i
    rw [hc]
    rw [c3, Nat.mul_one] at e1
    have e4 : cs0.toList[i]? = some (.int .u32 k) := by
      have := congrArg (fun l => l[0]?) e1
      simpa using this
    rw [Array.getElem?_toList] at e4
    rw [e4, hk]
    congr 2
    rw [kt_nat i hi, List.getD_eq_getElem?_getD, List.getElem?_eq_getElem (show i < kts.length by rw [kts_len]; exact hi)]
    rfl
  exact ⟨World.block_lt_of_cell? W ⟨0, 0, none⟩ (key 0 (by decide)), key⟩
end Go.Proofs.YtcnhbodemabbdaaDoor

/- net.Net.Ask: what it answers, in every case. -/
import Derived.Test.YthleaofgodkehaaAskQ
import Derived.Test.YthleaofgodkehaaAskT
namespace Go.Proofs.Ythleaofgodkehaa
open Go.RowKit
set_option linter.unusedVariables false

theorem ask_calls (B n : Nat) (q : Option Nat) (fs : List UInt8) (ls : List ByteArray) (k : Nat) (w : World) (h : NetAt B w n q fs ls k) (hk : k < 1000000) (hB : B ≤ w.heap.size) (hls : ls.length ≤ 100000) (gp b : Nat) (L : List Ent1) (hp : PoolAt w gp b L) (x : List UInt8) (hx : x.length = 33) :
    AskC B n q fs ls k w gp x (askP fs ls (at1 x L)).1 (askP fs ls (at1 x L)).2.1 (askP fs ls (at1 x L)).2.2 := by
  by_cases h1 : (fs.headD 0).toNat % 2 = 1
  · have e : askP fs ls (at1 x L) = (fs.tail, ls, none) := if_pos h1
    rw [e]
    exact ask_odd B n q fs ls k w h hk hB gp b L hp x hx h1
  have e : askP fs ls (at1 x L) = (match at1 x L with | none => (fs.tail, ls, none) | some s => goP fs.tail ls s) := if_neg h1
  rw [e]
  cases hr : at1 x L with
  | none => exact ask_none B n q fs ls k w h hk hB gp b L hp x hx h1 hr
  | some s =>
    show AskC B n q fs ls k w gp x (goP fs.tail ls s).1 (goP fs.tail ls s).2.1 (goP fs.tail ls s).2.2
    have h6 : (fs.tail.headD 0).toNat % 6 < 6 := Nat.mod_lt _ (by omega)
    have hc : (fs.tail.headD 0).toNat % 6 = 0 ∨ (fs.tail.headD 0).toNat % 6 = 1 ∨ (fs.tail.headD 0).toNat % 6 = 2 ∨ (fs.tail.headD 0).toNat % 6 = 3 ∨ (fs.tail.headD 0).toNat % 6 = 4 ∨ (fs.tail.headD 0).toNat % 6 = 5 := by omega
    rcases hc with h2 | h2 | h2 | h2 | h2 | h2
    · have e : goP fs.tail ls s = (fs.tail.tail, ls, some s) := by unfold goP; rw [if_neg (by omega), if_neg (by omega), if_neg (by omega), if_neg (by omega), if_neg (by omega)]
      rw [e]
      exact ask_plain B n q fs ls k w h hk hB gp b L hp x hx h1 s hr h2
    · have e : goP fs.tail ls s = (fs.tail.tail, ls, none) := by unfold goP; rw [if_pos h2]
      rw [e]
      exact ask_lost B n q fs ls k w h hk hB gp b L hp x hx h1 s hr h2
    · by_cases hs : s.size = 0
      · have e : goP fs.tail ls s = (fs.tail.tail, ls, none) := by unfold goP; rw [if_neg (by omega), if_pos h2, if_pos hs]
        rw [e]
        exact ask_turn0 B n q fs ls k w h hk hB gp b L hp x hx h1 s hr h2 hs
      · have e : goP fs.tail ls s = (fs.tail.tail, ls, some (turnB s (fs.tail.headD 0))) := by unfold goP; rw [if_neg (by omega), if_pos h2, if_neg hs]
        rw [e]
        exact ask_turn B n q fs ls k w h hk hB gp b L hp x hx h1 s hr h2 hs
    · have e : goP fs.tail ls s = (fs.tail.tail, ls ++ [s], none) := by unfold goP; rw [if_neg (by omega), if_neg (by omega), if_pos h2]
      rw [e]
      exact ask_late B n q fs ls k w h hk hB gp b L hp x hx h1 s hr h2 hls
    · have e : goP fs.tail ls s = (fs.tail.tail, (ls ++ [s]).tail, (ls ++ [s]).head?) := by unfold goP; rw [if_neg (by omega), if_neg (by omega), if_neg (by omega), if_pos h2]
      rw [e]
      exact ask_elder B n q fs ls k w h hk hB gp b L hp x hx h1 s hr h2 hls
    · have e : goP fs.tail ls s = (fs.tail.tail, ls ++ [s], some s) := by unfold goP; rw [if_neg (by omega), if_neg (by omega), if_neg (by omega), if_neg (by omega), if_pos h2]
      rw [e]
      exact ask_twice B n q fs ls k w h hk hB gp b L hp x hx h1 s hr h2 hls
set_option maxRecDepth 50000 in
theorem ask_nil (p : Value) (x : List UInt8) (w : World) : Calls Try.prog 13 #[.pointer none, p, .agg (bv x).toArray] w fun e w' => e = .returned (outV none) ∧ Ext w w' := by
  go_enter Try.func13, Try.ntmps13
  go_wp2
  go_ret2
  exact ⟨rfl, (Ext.refl _).alloc _⟩
set_option maxRecDepth 50000 in
theorem ask_nopeer (n : Nat) (x : List UInt8) (w : World) : Calls Try.prog 13 #[.pointer (some ⟨n, 0, none⟩), .nilIface, .agg (bv x).toArray] w fun e w' => e = .returned (outV none) ∧ Ext w w' := by
  go_enter Try.func13, Try.ntmps13
  go_wp2
  go_ret2
  exact ⟨rfl, (Ext.refl _).alloc _⟩
end Go.Proofs.Ythleaofgodkehaa

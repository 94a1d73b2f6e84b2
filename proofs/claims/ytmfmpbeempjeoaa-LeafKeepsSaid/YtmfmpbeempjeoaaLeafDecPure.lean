/- Layer 7 in plain Lean: what a page's bytes begin with. -/
import Derived.Test.YtmfmpbeempjeoaaLeafPure
import Derived.Test.YtmfmpbeempjeoaaBase
namespace Go.Proofs.Ytmfmpbeempjeoaa
set_option linter.unusedVariables false

/-- Pairs read so far, and what is left. -/
structure DSt where
  ks : List ByteArray
  vs : List ByteArray
  r : PR
def dstep (l : Bool) (s : DSt) : DSt :=
  if l then ⟨s.ks ++ [bstr (s.r.text 48).1], s.vs ++ [bstr ((s.r.text 48).2.text 160).1], ((s.r.text 48).2.text 160).2⟩ else ⟨s.ks ++ [bstr (s.r.text 48).1], s.vs, (s.r.text 48).2⟩
def dpairs (l : Bool) (r : PR) : Nat → DSt
  | 0 => ⟨[], [], r⟩
  | k + 1 => dstep l (dpairs l r k)
structure KSt where
  ds : List Int
  r : PR
def kstep (s : KSt) : KSt := ⟨s.ds ++ [((min s.r.uint.1 4096 : Nat) : Int)], s.r.uint.2⟩
def dkids (r : PR) : Nat → KSt
  | 0 => ⟨[], r⟩
  | k + 1 => kstep (dkids r k)
/-- What stands behind a head. -/
def decTail (l : Bool) (cnt : Nat) (r : PR) : Option Nd :=
  let p := dpairs l r cnt
  let q : KSt := if l then ⟨[], p.r⟩ else dkids p.r (cnt + 1)
  if q.r.bad || !(Nd.good ⟨l, p.ks, p.vs, q.ds⟩) then none else some ⟨l, p.ks, p.vs, q.ds⟩
/-- The node of bytes. -/
def dec (bs : List UInt8) : Option Nd :=
  let u := (PR.mk bs false).uint
  if u.2.bad || decide (512 < u.1 / 2) then none else decTail (u.1 % 2 == 1) (u.1 / 2) u.2
def decN (bs : List UInt8) : Nd := (dec bs).getD ⟨false, [], [], []⟩
theorem dpairs_ks (l : Bool) (r : PR) (k : Nat) : (dpairs l r k).ks.length = k := by
  induction k with
  | zero => rfl
  | succ k ih => cases l <;> simp [dpairs, dstep, ih]
theorem dpairs_vs (r : PR) (k : Nat) : (dpairs true r k).vs.length = k := by
  induction k with
  | zero => rfl
  | succ k ih => simp [dpairs, dstep, ih]
theorem dpairs_vs0 (r : PR) (k : Nat) : (dpairs false r k).vs = [] := by
  induction k with
  | zero => rfl
  | succ k ih => simp [dpairs, dstep, ih]
theorem dkids_ds (r : PR) (k : Nat) : (dkids r k).ds.length = k := by
  induction k with
  | zero => rfl
  | succ k ih => simp [dkids, kstep, ih]
end Go.Proofs.Ytmfmpbeempjeoaa

/- TableMerges: the state of its loop. -/
import Derived.Test.YtdhbnfhmcnacoaaTabRows
import Derived.Test.YtdhbnfhmcnacoaaTabLook
import Derived.Test.YtdhbnfhmcnacoaaRowFacts
namespace Go.Proofs.Ytdhbnfhmcnacoaa
open Go.RowKit Go.Shelf
set_option linter.unusedVariables false

theorem own_own_ne {w : World} {B1 B2 : Nat} {e1 e2 : TypeId} {s1 s2 n1 n2 : Nat} {v1 v2 : Value} {x1 x2 : List Value} (h1 : w.ownsRow B1 e1 s1 v1 n1 x1) (h2 : w.ownsRow B2 e2 s2 v2 n2 x2) (hne : e1 ≠ e2) : v1.ownBlock = none ∨ v1.ownBlock ≠ v2.ownBlock := by
  rcases h1.2 with ⟨rfl, _⟩ | ⟨g1, cap, cur, rfl, _, hgg, _⟩
  · exact .inl rfl
  · refine .inr fun e => ?_
    rcases h2.2 with ⟨rfl, _⟩ | ⟨g2, cap2, cur2, rfl, _, hg2, _⟩
    · cases e
    · simp only [Value.ownBlock, Option.some.injEq] at e
      subst e
      exact Blk.ne (show Blk w g1 e1 cur from hgg) (show Blk w g1 e2 cur2 from hg2) hne rfl
theorem TabAt.past2 {B p : Nat} {w w' : World} {l : List W3} (h : TabAt B w p l) {row : Option Nat} (hg : w.grownBy w' row) (hr : ∀ j, row = some j → j < B) (hp : B ≤ p) : TabAt B w' p l := by
  obtain ⟨A, c, h1, h2⟩ := h
  refine ⟨A, c, h1.grown hg (fun e => ?_), own_past h2 hg hr⟩
  have := hr p e.symm
  omega
theorem TabAt.byRow {B B2 p sz n : Nat} {e : TypeId} {v : Value} {xs : List Value} {w w' : World} {l : List W3} (h : TabAt B w p l) (hv : w.ownsRow B2 e sz v n xs) (h1 : e ≠ 70) (h2 : e ≠ 46) (hg : w.grownBy w' v.ownBlock) : TabAt B w' p l := by
  obtain ⟨A, c, hb, ho⟩ := h
  refine ⟨A, c, hb.grown hg (fun e => ?_), World.ownsRow.kept ho hg (own_own_ne ho hv h2.symm)⟩
  rcases own_ne_blk hv hb h1 with h | h
  · rw [h] at e
    cases e
  · exact h e.symm
structure MgSt (B g : Nat) (u : World) (vt : Value) (qs : List (Nat × List W3)) (vp : Value) (ps : List (Value × List W3)) (r : W3) : Prop where
  tabs : u.ownsRow B 29 1 vt qs.length (qs.map fun t => tptr t.1)
  tAt : ∀ t ∈ qs, TabAt B u t.1 t.2 ∧ B ≤ t.1
  plain : u.ownsRow B 22 1 vp ps.length (ps.map (·.1))
  pAt : ∀ p ∈ ps, OwnW B u p.1 p.2
  box : Blk u g 46 (wC r).toArray
section
variable {B g : Nat} {u u' : World} {vt vp : Value} {qs : List (Nat × List W3)} {ps : List (Value × List W3)} {r : W3}
theorem MgSt.ext (h : MgSt B g u vt qs vp ps r) (k : Ext u u') : MgSt B g u' vt qs vp ps r :=
  ⟨own_ext h.tabs k, fun t ht => ⟨(h.tAt t ht).1.ext k, (h.tAt t ht).2⟩, own_ext h.plain k, fun p hp => (h.pAt p hp).ext k, h.box.ext k⟩
theorem MgSt.pushT (h : MgSt B g u vt qs vp ps r) {t : Nat × List W3} {vt' : Value} (ho : u'.ownsRow B 29 1 vt' (qs.length + 1) ((qs.map fun t => tptr t.1) ++ [tptr t.1])) (hg : u.grownBy u' vt.ownBlock) (ht : TabAt B u t.1 t.2) (hB : B ≤ t.1) : MgSt B g u' vt' (qs ++ [t]) vp ps r := by
  refine ⟨?_, fun s hs => ?_, ?_, fun p hp => ?_, ?_⟩
  · rw [List.length_append, List.map_append]
    exact ho
  · rcases List.mem_append.1 hs with hs | hs
    · exact ⟨(h.tAt s hs).1.byRow h.tabs (by decide) (by decide) hg, (h.tAt s hs).2⟩
    · rw [List.mem_singleton] at hs
      subst hs
      exact ⟨ht.byRow h.tabs (by decide) (by decide) hg, hB⟩
  · exact World.ownsRow.kept h.plain hg (own_own_ne h.plain h.tabs (by decide))
  · exact World.ownsRow.kept (h.pAt p hp) hg (own_own_ne (h.pAt p hp) h.tabs (by decide))
  · refine h.box.grown hg (fun e => ?_)
    rcases own_ne_blk h.tabs h.box (by decide) with h2 | h2
    · rw [h2] at e
      cases e
    · exact h2 e.symm
theorem MgSt.pushP (h : MgSt B g u vt qs vp ps r) {p : Value × List W3} {vp' : Value} (ho : u'.ownsRow B 22 1 vp' (ps.length + 1) (ps.map (·.1) ++ [p.1])) (hg : u.grownBy u' vp.ownBlock) (hp : OwnW B u p.1 p.2) : MgSt B g u' vt qs vp' (ps ++ [p]) r := by
  refine ⟨?_, fun s hs => ?_, ?_, fun q hq => ?_, ?_⟩
  · exact World.ownsRow.kept h.tabs hg (own_own_ne h.tabs h.plain (by decide))
  · exact ⟨(h.tAt s hs).1.byRow h.plain (by decide) (by decide) hg, (h.tAt s hs).2⟩
  · rw [List.length_append, List.map_append]
    exact ho
  · rcases List.mem_append.1 hq with hq | hq
    · exact World.ownsRow.kept (h.pAt q hq) hg (own_own_ne (h.pAt q hq) h.plain (by decide))
    · rw [List.mem_singleton] at hq
      subst hq
      exact World.ownsRow.kept hp hg (own_own_ne hp h.plain (by decide))
  · refine h.box.grown hg (fun e => ?_)
    rcases own_ne_blk h.plain h.box (by decide) with h2 | h2
    · rw [h2] at e
      cases e
    · exact h2 e.symm
theorem MgSt.setBox (h : MgSt B g u vt qs vp ps r) (hgB : g < B) {r' : W3} (hb : Blk u' g 46 (wC r').toArray) (hg : u.grownBy u' (some g)) : MgSt B g u' vt qs vp ps r' := by
  have hj : ∀ j, some g = some j → j < B := fun j e => by cases e; exact hgB
  exact ⟨own_past h.tabs hg hj, fun t ht => ⟨(h.tAt t ht).1.past2 hg hj (h.tAt t ht).2, (h.tAt t ht).2⟩, own_past h.plain hg hj, fun p hp => own_past (h.pAt p hp) hg hj, hb⟩
theorem MgSt.wss (h : MgSt B g u vt qs vp ps r) {A : Option Addr} {n c : Nat} (hv : vp = .slice A n c) : WSs u A (ps.map (·.2)) := by
  intro i l hi
  rw [List.getElem?_map] at hi
  obtain ⟨p, hp, rfl⟩ : ∃ p, ps[i]? = some p ∧ p.2 = l := by
    cases hpi : ps[i]? with
    | none => rw [hpi] at hi; cases hi
    | some p => rw [hpi] at hi; exact ⟨p, rfl, Option.some.inj hi⟩
  obtain ⟨A', c', e, _, _, hc⟩ := own_form h.plain (by decide)
  rw [hv] at e
  cases e
  obtain ⟨x, e, hcc⟩ := hc i p.1 (by rw [List.getElem?_map, hp]; rfl)
  obtain ⟨A2, c2, e2, _, _, hc2⟩ := (h.pAt p (List.mem_of_getElem? hp)).form
  exact ⟨x, p.1, e, hcc, A2, c2, e2, row_of_cells hc2⟩
end
theorem flat_lenW {m : Nat} : ∀ (L : List (List W3)), (∀ x ∈ L, x.length ≤ m) → L.flatten.length ≤ L.length * m
  | [], _ => Nat.zero_le _
  | a :: t, h => by
    have h1 := flat_lenW t fun x hx => h x (List.mem_cons_of_mem _ hx)
    have h2 := h a (List.mem_cons_self ..)
    rw [List.flatten_cons, List.length_append, List.length_cons, Nat.succ_mul]
    omega
theorem ptr_info : (Try.prog.info? 29).map (fun i => (i.zero, i.size, i.bytes)) = some (some (.pointer none), 1, 8) := by kernel_rfl
theorem sl_info : (Try.prog.info? 22).map (fun i => (i.zero, i.size, i.bytes)) = some (some (.slice none 0 0), 1, 24) := by kernel_rfl
end Go.Proofs.Ytdhbnfhmcnacoaa

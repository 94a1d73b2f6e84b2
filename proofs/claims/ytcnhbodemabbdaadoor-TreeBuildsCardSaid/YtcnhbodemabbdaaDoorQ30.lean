/- tree.Build: rows of objects and of kids that grow; the state of the regions that draw their order. -/
import Derived.Test.YtcnhbodemabbdaaDoorQ12
import Derived.Test.YtcnhbodemabbdaaDoorQ24
import Derived.Test.YtcnhbodemabbdaaDoorQ28
import Derived.Test.YtcnhbodemabbdaaDoorQ29
import Derived.Test.YtcnhbodemabbdaaDoorQ27
namespace Go.Proofs.YtcnhbodemabbdaaDoor
open Go.RowKit
set_option linter.unusedVariables false

theorem obI : (Tryd.prog.info? 35).map (fun i => (i.zero, i.size, i.bytes)) = some (some (.agg (bv idNone ++ [Value.string ByteArray.empty]).toArray), 34, 56) := by kernel_rfl
theorem kdI : (Tryd.prog.info? 77).map (fun i => (i.zero, i.size, i.bytes)) = some (some (.agg (.string ByteArray.empty :: bv idNone).toArray), 34, 56) := by kernel_rfl
theorem lit1_obj (w : World) (o : Ent2) (hx : o.1.length = 33) : (Instr.buildSlice 28 1 #[(0, .agg (obC o).toArray)]).run Tryd.prog w = .ok (.slice (some ⟨w.heap.size, 0, none⟩) 1 1) (w.alloc (.cells (obC o).toArray 35)) := by
  obtain ⟨x, s⟩ := o
  obtain ⟨b0, b1, b2, b3, b4, b5, b6, b7, b8, b9, b10, b11, b12, b13, b14, b15, b16, b17, b18, b19, b20, b21, b22, b23, b24, b25, b26, b27, b28, b29, b30, b31, b32, rfl⟩ := list33 hx
  exact run_lit1 w 28 35 _ _ 34 (.agg (bv idNone ++ [Value.string ByteArray.empty]).toArray) Tryd.underlying28 (by kernel_rfl) (by decide) (by decide) (by kernel_rfl)
theorem build_obj (w : World) (x : List UInt8) (s : ByteArray) (hx : x.length = 33) : (Instr.build 35 #[(0, .agg (bv x).toArray), (1, .string s)]).run Tryd.prog w = .ok (.agg (obC (x, s)).toArray) w := by
  obtain ⟨b0, b1, b2, b3, b4, b5, b6, b7, b8, b9, b10, b11, b12, b13, b14, b15, b16, b17, b18, b19, b20, b21, b22, b23, b24, b25, b26, b27, b28, b29, b30, b31, b32, rfl⟩ := list33 hx
  exact run_build w 35 _ _ (by kernel_rfl)
theorem own_own_ne2 {w : World} {B1 B2 : Nat} {e1 e2 : TypeId} {s1 s2 n1 n2 : Nat} {v1 v2 : Value} {x1 x2 : List Value} (h1 : w.ownsRow B1 e1 s1 v1 n1 x1) (h2 : w.ownsRow B2 e2 s2 v2 n2 x2) (hne : e1 ≠ e2) : v1.ownBlock = none ∨ v1.ownBlock ≠ v2.ownBlock := by
  rcases h1.2 with ⟨rfl, _⟩ | ⟨g1, cap, cur, rfl, _, hgg, _⟩
  · exact .inl rfl
  · refine .inr fun e => ?_
    rcases h2.2 with ⟨rfl, _⟩ | ⟨g2, cap2, cur2, rfl, _, hg2, _⟩
    · cases e
    · simp only [Value.ownBlock, Option.some.injEq] at e
      subst e
      exact Blk.ne (show Blk w g1 e1 cur from hgg) (show Blk w g1 e2 cur2 from hg2) hne rfl
/-- A row of objects, of kids, of the call's own. -/
def OwnO (B : Nat) (w : World) (v : Value) (l : List Ent2) : Prop := w.ownsRow B 35 34 v l.length (l.map obC).flatten
def OwnK (B : Nat) (w : World) (v : Value) (l : List Kd) : Prop := w.ownsRow B 77 34 v l.length (l.map kdC).flatten
theorem OwnO.nil (B : Nat) (w : World) : OwnO B w (.slice none 0 0) [] := World.ownsRow_nil w B _ 34
theorem OwnK.nil (B : Nat) (w : World) : OwnK B w (.slice none 0 0) [] := World.ownsRow_nil w B _ 34
theorem OwnO.ext {B : Nat} {w w' : World} {v : Value} {l : List Ent2} (h : OwnO B w v l) (k : Ext w w') : OwnO B w' v l := own_ext h k
theorem OwnK.ext {B : Nat} {w w' : World} {v : Value} {l : List Kd} (h : OwnK B w v l) (k : Ext w w') : OwnK B w' v l := own_ext h k
theorem OwnO.form {B : Nat} {w : World} {v : Value} {l : List Ent2} (h : OwnO B w v l) : ∃ A c, v = .slice A l.length c ∧ l.length ≤ c ∧ c ≤ maxLen ∧ Cells w A (l.map obC).flatten := own_form h (by decide)
theorem OwnK.form {B : Nat} {w : World} {v : Value} {l : List Kd} (h : OwnK B w v l) : ∃ A c, v = .slice A l.length c ∧ l.length ≤ c ∧ c ≤ maxLen ∧ Cells w A (l.map kdC).flatten := own_form h (by decide)
theorem OwnK.row {B : Nat} {w : World} {A : Option Addr} {n c : Nat} {l : List Kd} (h : OwnK B w (.slice A n c) l) (hl : ∀ x ∈ l, x.2.length = 33) : Row w A 34 (l.map kdC) := by
  obtain ⟨A', c', e, _, _, hc⟩ := h.form
  cases e
  exact Cells.row hc (fun cs hcs => by obtain ⟨x, hx, rfl⟩ := List.mem_map.1 hcs; exact kdC_len (hl x hx)) (by decide)
theorem OwnO.row {B : Nat} {w : World} {A : Option Addr} {n c : Nat} {l : List Ent2} (h : OwnO B w (.slice A n c) l) (hl : ∀ x ∈ l, x.1.length = 33) : Row w A 34 (l.map obC) := by
  obtain ⟨A', c', e, _, _, hc⟩ := h.form
  cases e
  exact Cells.row hc (fun cs hcs => by obtain ⟨x, hx, rfl⟩ := List.mem_map.1 hcs; exact obC_len (hl x hx)) (by decide)
theorem Blk.own_past {w w' : World} {B g : Nat} {e T : TypeId} {sz n : Nat} {v : Value} {xs : List Value} {cs : Array Value} (hb : Blk w g T cs) (h : w.ownsRow B e sz v n xs) (hne : e ≠ T) (hg : w.grownBy w' v.ownBlock) : Blk w' g T cs := by
  refine hb.grown hg (fun e1 => ?_)
  rcases own_ne_blk h hb hne with h2 | h2
  · rw [h2] at e1
    cases e1
  · exact h2 e1.symm
/-- How far an object has been put behind the objects (l1: its literal stands; a1: it is put), and a kid behind the kids (l2, a2). -/
structure JT (w : World) (B Bk g : Nat) (o : Ent2) (outs : List Ent2) (vo : Value) (k : Kd) (ks : List Kd) (vk : Value) (l1 a1 l2 a2 : Bool) (e1 e2 e3 e4 : Value) (u : World) : Prop where
  ext : Ext w u
  hB : B ≤ u.heap.size
  hBk : Bk ≤ u.heap.size
  box : Blk u g 35 (obC o).toArray
  lit1 : l1 = true → a1 = false → ∃ q, e1 = .slice (some ⟨q, 0, none⟩) 1 1 ∧ Blk u q 35 (obC o).toArray
  lit2 : l2 = true → a2 = false → ∃ q, e3 = .slice (some ⟨q, 0, none⟩) 1 1 ∧ Blk u q 77 (kdC k).toArray
  out0 : a1 = false → OwnO B u vo outs
  out1 : a1 = true → OwnO B u e2 (outs ++ [o])
  row0 : a2 = false → OwnK Bk u vk ks
  row1 : a2 = true → OwnK Bk u e4 (ks ++ [k])
section
variable {w u u' : World} {B Bk g : Nat} {o : Ent2} {outs : List Ent2} {vo : Value} {k : Kd} {ks : List Kd} {vk : Value} {l1 a1 l2 a2 : Bool} {e1 e2 e3 e4 : Value}
theorem JT.start (hx : Ext w u) (hB : B ≤ u.heap.size) (hBk : Bk ≤ u.heap.size) (hb : Blk u g 35 (obC o).toArray) (ho : OwnO B u vo outs) (hk : OwnK Bk u vk ks) : JT w B Bk g o outs vo k ks vk false false false false e1 e2 e3 e4 u :=
  ⟨hx, hB, hBk, hb, fun h => (by cases h), fun h => (by cases h), fun _ => ho, fun h => (by cases h), fun _ => hk, fun h => (by cases h)⟩
theorem JT.doLit1 (h : JT w B Bk g o outs vo k ks vk false false l2 a2 e1 e2 e3 e4 u) : JT w B Bk g o outs vo k ks vk true false l2 a2 (.slice (some ⟨u.heap.size, 0, none⟩) 1 1) e2 e3 e4 (u.alloc (.cells (obC o).toArray 35)) := by
  have kx : Ext u (u.alloc (.cells (obC o).toArray 35)) := (Ext.refl _).alloc _
  exact ⟨h.ext.trans kx, Nat.le_trans h.hB kx.size, Nat.le_trans h.hBk kx.size, h.box.ext kx, fun _ _ => ⟨_, rfl, Blk.new u _ _⟩, fun h1 h2 => let ⟨q, e, hq⟩ := h.lit2 h1 h2; ⟨q, e, hq.ext kx⟩, fun h1 => (h.out0 h1).ext kx, fun h1 => (by cases h1), fun h1 => (h.row0 h1).ext kx, fun h1 => (h.row1 h1).ext kx⟩
theorem JT.doLit2 (h : JT w B Bk g o outs vo k ks vk l1 a1 false false e1 e2 e3 e4 u) : JT w B Bk g o outs vo k ks vk l1 a1 true false e1 e2 (.slice (some ⟨u.heap.size, 0, none⟩) 1 1) e4 (u.alloc (.cells (kdC k).toArray 77)) := by
  have kx : Ext u (u.alloc (.cells (kdC k).toArray 77)) := (Ext.refl _).alloc _
  exact ⟨h.ext.trans kx, Nat.le_trans h.hB kx.size, Nat.le_trans h.hBk kx.size, h.box.ext kx, fun h1 h2 => let ⟨q, e, hq⟩ := h.lit1 h1 h2; ⟨q, e, hq.ext kx⟩, fun _ _ => ⟨_, rfl, Blk.new u _ _⟩, fun h1 => (h.out0 h1).ext kx, fun h1 => (h.out1 h1).ext kx, fun h1 => (h.row0 h1).ext kx, fun h1 => (by cases h1)⟩
theorem JT.doApp1 (h : JT w B Bk g o outs vo k ks vk true false l2 a2 e1 e2 e3 e4 u) (hw : w.heap.size ≤ B) (hgne : ∀ j, vo.ownBlock = some j → j ≠ g) {v' : Value} (ho : OwnO B u' v' (outs ++ [o])) (hg : u.grownBy u' vo.ownBlock) : JT w B Bk g o outs vo k ks vk true true l2 a2 e1 v' e3 e4 u' := by
  have h0 := h.out0 rfl
  refine ⟨h.ext.grown_ hg (fun j e => Nat.le_trans hw (own_lt h0 e).1), Nat.le_trans h.hB hg.size, Nat.le_trans h.hBk hg.size, h.box.grown hg (fun e => hgne g e.symm rfl), fun _ h1 => (by cases h1), fun h1 h2 => ?_, fun h1 => (by cases h1), fun _ => ho, fun h1 => ?_, fun h1 => ?_⟩
  · obtain ⟨q, e, hq⟩ := h.lit2 h1 h2
    exact ⟨q, e, hq.own_past h0 (by decide) hg⟩
  · exact World.ownsRow.kept (h.row0 h1) hg (own_own_ne2 (h.row0 h1) h0 (by decide))
  · exact World.ownsRow.kept (h.row1 h1) hg (own_own_ne2 (h.row1 h1) h0 (by decide))
theorem JT.doApp2 (h : JT w B Bk g o outs vo k ks vk l1 a1 true false e1 e2 e3 e4 u) (hw : w.heap.size ≤ Bk) {v' : Value} (ho : OwnK Bk u' v' (ks ++ [k])) (hg : u.grownBy u' vk.ownBlock) : JT w B Bk g o outs vo k ks vk l1 a1 true true e1 e2 e3 v' u' := by
  have h0 := h.row0 rfl
  refine ⟨h.ext.grown_ hg (fun j e => Nat.le_trans hw (own_lt h0 e).1), Nat.le_trans h.hB hg.size, Nat.le_trans h.hBk hg.size, h.box.own_past h0 (by decide) hg, fun h1 h2 => ?_, fun _ h1 => (by cases h1), fun h1 => ?_, fun h1 => ?_, fun h1 => (by cases h1), fun _ => ho⟩
  · obtain ⟨q, e, hq⟩ := h.lit1 h1 h2
    exact ⟨q, e, hq.own_past h0 (by decide) hg⟩
  · exact World.ownsRow.kept (h.out0 h1) hg (own_own_ne2 (h.out0 h1) h0 (by decide))
  · exact World.ownsRow.kept (h.out1 h1) hg (own_own_ne2 (h.out1 h1) h0 (by decide))
end
section
variable {w u u' : World} {B Bk g : Nat} {o : Ent2} {outs : List Ent2} {vo : Value} {k : Kd} {ks : List Kd} {vk : Value} {l1 a1 l2 a2 l1' a1' l2' a2' : Bool} {e1 e2 e3 e4 : Value}
theorem JT.lit1' (h : JT w B Bk g o outs vo k ks vk l1 a1 l2 a2 e1 e2 e3 e4 u) (h1 : l1 = false) (h2 : a1 = false) (h3 : l1' = true) (h4 : a1' = a1) : JT w B Bk g o outs vo k ks vk l1' a1' l2 a2 (.slice (some ⟨u.heap.size, 0, none⟩) 1 1) e2 e3 e4 (u.alloc (.cells (obC o).toArray 35)) := by
  subst h1 h3 h4 h2
  exact h.doLit1
theorem JT.lit2' (h : JT w B Bk g o outs vo k ks vk l1 a1 l2 a2 e1 e2 e3 e4 u) (h1 : l2 = false) (h2 : a2 = false) (h3 : l2' = true) (h4 : a2' = a2) : JT w B Bk g o outs vo k ks vk l1 a1 l2' a2' e1 e2 (.slice (some ⟨u.heap.size, 0, none⟩) 1 1) e4 (u.alloc (.cells (kdC k).toArray 77)) := by
  subst h1 h3 h4 h2
  exact h.doLit2
theorem JT.app1' (h : JT w B Bk g o outs vo k ks vk l1 a1 l2 a2 e1 e2 e3 e4 u) (h1 : l1 = true) (h2 : a1 = false) (h3 : l1' = l1) (h4 : a1' = true) (hw : w.heap.size ≤ B) (hgne : ∀ j, vo.ownBlock = some j → j ≠ g) {v' : Value} (ho : OwnO B u' v' (outs ++ [o])) (hg : u.grownBy u' vo.ownBlock) : JT w B Bk g o outs vo k ks vk l1' a1' l2 a2 e1 v' e3 e4 u' := by
  subst h3 h1 h4 h2
  exact h.doApp1 hw hgne ho hg
theorem JT.app2' (h : JT w B Bk g o outs vo k ks vk l1 a1 l2 a2 e1 e2 e3 e4 u) (h1 : l2 = true) (h2 : a2 = false) (h3 : l2' = l2) (h4 : a2' = true) (hw : w.heap.size ≤ Bk) {v' : Value} (ho : OwnK Bk u' v' (ks ++ [k])) (hg : u.grownBy u' vk.ownBlock) : JT w B Bk g o outs vo k ks vk l1 a1 l2' a2' e1 e2 e3 v' u' := by
  subst h3 h1 h4 h2
  exact h.doApp2 hw ho hg
end
theorem ob_one (l : List Ent2) : ∀ u ∈ (l.map obC).flatten, u.oneCell' = true := by
  intro u hu
  obtain ⟨cs, hcs, h⟩ := List.mem_flatten.1 hu
  obtain ⟨x, _, rfl⟩ := List.mem_map.1 hcs
  exact obC_one x u h
end Go.Proofs.YtcnhbodemabbdaaDoor
/- x[lo:hi] of a slice; a result in a cell and two in slots. -/
namespace Go.Proofs.YtcnhbodemabbdaaDoor
open Go.RowKit
set_option linter.unusedVariables false

theorem run_slice_lh {P : Program} {w : World} (t e : TypeId) (ht : P.underlying t = some (.slice e)) (sz : Nat) (hs : (P.info? e).map (·.size) = some sz) (A : Option Addr) (n c lo hi : Nat) (hlo : lo ≤ hi) (hhi : hi ≤ c) (k1 k2 : IntKind) :
    (Instr.sliceAt t (.slice A n c) (some (.int k1 lo)) (some (.int k2 hi)) none).run P w = .ok (.slice (if c = lo then A else A.map (·.add (lo * sz))) (hi - lo) (c - lo)) w := by
  cases hq : P.info? e with
  | none => simp [hq] at hs
  | some i =>
    have hi' : i.size = sz := by simpa [hq] using hs
    have h0 : (0 : Int) ≤ (lo : Int) ∧ (lo : Int) ≤ (hi : Int) := by omega
    have h1 : (0 : Int) ≤ (hi : Int) ∧ (hi : Int) ≤ (c : Int) := by omega
    simp [Instr.sliceAt, Instr.slice, Instr.sliceBounds, Instr.sliceBound, asIntOf, run_underlying ht, sizeOf, typeInfo, hq, hi', h0, h1, hlo, hhi]
theorem wpList_slice_lh {P : Program} {ops : Array Oper} {rest : List Oper} {o : Oper} {a : Act} {w : World} {Q : Exit → Act → World → Prop} (hgd : o.guard = none) (t e : TypeId) (x y z : Operand) (ho : o.op = .slice t x (some y) (some z) none) (ht : P.underlying t = some (.slice e)) (sz : Nat) (hs : (P.info? e).map (·.size) = some sz)
    (A : Option Addr) (n c lo hi : Nat) (k1 k2 : IntKind) (hx : a.eval x = .slice A n c) (hy : a.eval y = .int k1 lo) (hz : a.eval z = .int k2 hi) (hlo : lo ≤ hi) (hhi : hi ≤ n) (hc : n ≤ c) {cs : List Value} (h : Cells w A cs) (hcs : cs.length = n * sz)
    (hK : ∀ A', Cells w A' (cs.drop (lo * sz)) → Same A A' → wpList P ops Q rest (a.put o.dst (.slice A' (hi - lo) (c - lo))) w) : wpList P ops Q (o :: rest) a w :=
  wpList_plain hgd fun _ hk' => by
    have hr := run_slice_lh (P := P) (w := w) t e ht sz hs A n c lo hi hlo (by omega) k1 k2
    obtain ⟨h1, h2⟩ := cut_cells (c := c) (k := lo) h hcs (by omega) hc
    unfold Oper.wp execOp
    simp only [ho, hx, hy, hz, Option.map_some, Option.map_none, Sem.run_bind, hr, Result.andThen_ok, Sem.run_pure]
    exact hk' _ _ (hK _ h1 h2)
theorem results_row_tmp2 {P : Program} {fn : Func} {p u v : Tmp} {ty : TypeId} (h : fn.results = #[.cell p ty, .tmp u, .tmp v]) (tmps : Array Value) (w : World) (g : Nat) (t : TypeId) (cs : Array Value) (d : TypeDesc)
    (hp : tmps.getD p undef = .pointer (some ⟨g, 0, none⟩)) (hg : Blk w g t cs)
    (hu : P.underlying ty = some d) (hd : (match d with | .struct _ | .array _ _ => true | _ => false) = true) (hi : (P.info? ty).map (·.size) = some cs.size) :
    (results fn tmps).run P w = .ok (.tuple #[.agg cs, tmps.getD u undef, tmps.getD v undef]) w := by
  have hp' : tmps[p]?.getD undef = .pointer (some ⟨g, 0, none⟩) := by simpa using hp
  simp only [results, h]
  simp [Sem.run_bind, Result.andThen, hp', asAddr, run_loadVar_row w g t ty cs (0, 0) d hg hu hd hi]
theorem Cells.sub {w : World} {A : Option Addr} {sz : Nat} {css : List (List Value)} (lo k : Nat) (h : Cells w A (css.flatten.drop (lo * sz))) (hs : ∀ cs ∈ css, cs.length = sz) (hp : 0 < sz) : Row w A sz ((css.drop lo).take k) := by
  have e : ∀ (l : List (List Value)) (m : Nat), (∀ cs ∈ l, cs.length = sz) → l.flatten.drop (m * sz) = (l.drop m).flatten := fun l m => by
    induction m generalizing l with
    | zero => intro _; simp
    | succ m ih =>
      intro hl
      cases l with
      | nil => simp
      | cons a t =>
        have ha := hl a (List.mem_cons_self ..)
        rw [List.flatten_cons, Nat.succ_mul, Nat.add_comm, List.drop_append, List.drop_succ_cons]
        rw [List.drop_of_length_le (by omega), List.nil_append, ha, Nat.add_sub_cancel_left]
        exact ih t fun cs h => hl cs (List.mem_cons_of_mem _ h)
  rw [e css lo hs] at h
  have h2 : Cells w A ((css.drop lo).take k).flatten := by
    have hl : (css.drop lo).flatten = ((css.drop lo).take k).flatten ++ ((css.drop lo).drop k).flatten := by rw [← List.flatten_append, List.take_append_drop]
    rw [hl] at h
    have := h.take ((css.drop lo).take k).flatten.length
    rwa [List.take_left] at this
  exact Cells.row h2 (fun cs hcs => hs cs (List.mem_of_mem_drop (List.mem_of_mem_take hcs))) hp
end Go.Proofs.YtcnhbodemabbdaaDoor

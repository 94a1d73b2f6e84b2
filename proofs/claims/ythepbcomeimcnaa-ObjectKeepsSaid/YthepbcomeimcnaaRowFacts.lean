/- Facts on rows of structs in a drawn region: a literal without room, a row appended onto it, a struct's memory; what of them outlives stores elsewhere. -/
import Derived.Test.YthepbcomeimcnaaFacts
import Derived.Test.YthepbcomeimcnaaSeg
import Derived.Test.YthepbcomeimcnaaStructs
namespace Go.Proofs.Ythepbcomeimcnaa
open Go.RowKit
set_option linter.unusedVariables false

def isLit (B : Nat) (e : TypeId) (sz : Nat) : World → Value → Prop := fun w v => ∃ b, v = .slice (some ⟨b, 0, none⟩) 0 0 ∧ w.ownsRow B e sz v 0 []
theorem isLit_mono (B : Nat) (e : TypeId) (sz : Nat) : Mono (isLit B e sz) := fun w w' v ⟨b, hv, ho⟩ k => ⟨b, hv, own_ext ho k⟩
def isRow (B : Nat) (e : TypeId) (sz n : Nat) (xs : List Value) : World → Value → Prop := fun w v => w.ownsRow B e sz v n xs
theorem isRow_mono (B : Nat) (e : TypeId) (sz n : Nat) (xs : List Value) : Mono (isRow B e sz n xs) := fun w w' v ho k => own_ext ho k
def isBox (B : Nat) (T : TypeId) (cs : Array Value) : World → Value → Prop := fun w v => ∃ g, v = .pointer (some ⟨g, 0, none⟩) ∧ B ≤ g ∧ Blk w g T cs
theorem isBox_mono (B : Nat) (T : TypeId) (cs : Array Value) : Mono (isBox B T cs) := fun w w' v ⟨g, hv, hb, ho⟩ k => ⟨g, hv, hb, ho.ext k⟩
def isTwo (B : Nat) (e1 : TypeId) (s1 n1 : Nat) (xs1 : List Value) (e2 : TypeId) (s2 n2 : Nat) (xs2 : List Value) : World → Value → Prop :=
  fun w v => ∃ v1 v2, v = .agg #[v1, v2] ∧ w.ownsRow B e1 s1 v1 n1 xs1 ∧ w.ownsRow B e2 s2 v2 n2 xs2
theorem isTwo_mono (B : Nat) (e1 : TypeId) (s1 n1 : Nat) (xs1 : List Value) (e2 : TypeId) (s2 n2 : Nat) (xs2 : List Value) : Mono (isTwo B e1 s1 n1 xs1 e2 s2 n2 xs2) :=
  fun w w' v ⟨v1, v2, hv, h1, h2⟩ k => ⟨v1, v2, hv, own_ext h1 k, own_ext h2 k⟩

section
variable {P : Program} {ops : Array Oper} {Q : Exit → Act → World → Prop} {D : List Nat} {a0 a : Act} {w0 w : World} {F : List Fa} {f : Nat → Bool} {i : Nat} {o : Oper}
theorem born_any {v : Value} {d : Nat} {dies : Option Nat} {R : World → Value → Prop} {hm : Mono R} (hdl : d < a0.tmps.size) (h : FInv D a0 w0 F f a w) (hv : F.filter (·.born == i) = [⟨i, dies, d, .any R hm⟩]) {w' : World} (ho : R w' v) : ∀ p ∈ F, p.born = i → p.k.R w0.heap.size w' ((a.put (some d) v).eval (.tmp p.slot)) := by
  intro p hp hb
  have hm' : p ∈ F.filter (·.born == i) := List.mem_filter.2 ⟨hp, by simpa using hb⟩
  rw [hv, List.mem_singleton] at hm'
  subst hm'
  show R w' ((a.put (some d) v).eval (.tmp d))
  rw [eval_put_eq (by rw [h.agree.2.1]; exact hdl)]
  exact ho
/-- An operation of a pure kind that yields something that outlives growing memory. -/
theorem FInv.valA (h : FInv D a0 w0 F f a w) (ho : ops[i]? = some o) (hw : Region.wanted o (yielded ops a.tmps) = true) (d : Nat) (hod : o.dst = some d) (hdl : d < a0.tmps.size)
    (ht : faTab D F i (some d) = true) (dies : Option Nat) (R : World → Value → Prop) (hm : Mono R) (hv : F.filter (·.born == i) = [⟨i, dies, d, .any R hm⟩]) {s : Sem Value} {v : Value} {w' : World}
    (hs : execOp a.eval o = (do pure (Next.value (← s)))) (hrun : s.run P w = .ok v w') (hx : Ext w w') (hr : R w' v) : wpOp P ops Q i (FInv D a0 w0 F (upd f i)) a w := by
  refine h.stepG ho hw (some d) hod ht (wp_val hs hrun ?_)
  rw [hod]
  exact ⟨_, rfl, hx, born_any hdl h hv hr⟩
theorem FInv.lit0 (h : FInv D a0 w0 F f a w) (ho : ops[i]? = some o) (hw : Region.wanted o (yielded ops a.tmps) = true) (d : Nat) (hod : o.dst = some d) (hdl : d < a0.tmps.size)
    (ht : faTab D F i (some d) = true) (dies : Option Nat) (e : TypeId) (sz : Nat) (hv : F.filter (·.born == i) = [⟨i, dies, d, .any (isLit w0.heap.size e sz) (isLit_mono _ _ _)⟩]) {s : Sem Value}
    (hs : execOp a.eval o = (do pure (Next.value (← s)))) (hrun : s.run P w = .ok (.slice (some ⟨w.heap.size, 0, none⟩) 0 0) (w.alloc (.cells #[] e))) : wpOp P ops Q i (FInv D a0 w0 F (upd f i)) a w :=
  h.valA ho hw d hod hdl ht dies _ _ hv hs hrun ((Ext.refl _).alloc _) ⟨_, rfl, World.ownsRow_made w #[] 0 h.ext.size (by simp [maxLen]) (by simp)⟩
theorem FInv.appN (h : FInv D a0 w0 F f a w) (ho : ops[i]? = some o) (hw : Region.wanted o (yielded ops a.tmps) = true) (d : Nat) (hod : o.dst = some d) (hdl : d < a0.tmps.size)
    (ht : faTab D F i (some d) = true) (dies : Option Nat) (e : TypeId) (sz n : Nat) (xs : List Value) (hv : F.filter (·.born == i) = [⟨i, dies, d, .any (isRow w0.heap.size e sz n xs) (isRow_mono _ _ _ _ _)⟩])
    (s x : Operand) (t : TypeId) (hop : o.op = .call { callee := .builtin .append, args := #[s, x], argTypes := #[t, t] }) (z : Value) (bytes : Nat)
    (hu : P.underlying t = some (.slice e)) (hi : (P.info? e).map (fun i => (i.zero, i.size, i.bytes)) = some (some z, sz, bytes)) (hz : z.cells.size = sz) (hsz : 0 < sz)
    (hlit : isLit w0.heap.size e sz w (a.eval s)) (A : Option Addr) (c : Nat) (hx : a.eval x = .slice A n c) (hl : xs.length = n * sz) (hr : Cells w A xs) (h1 : ∀ u ∈ xs, u.oneCell' = true)
    (h63 : n ≤ maxLen) (hbytes : n * bytes ≤ 140737488355328) : wpOp P ops Q i (FInv D a0 w0 F (upd f i)) a w := by
  obtain ⟨b, hb, hlo⟩ := hlit
  rw [hb] at hlo
  refine h.stepG ho hw (some d) hod ht (wp_append_new s x t hop w0.heap.size e z sz bytes hu hi hz hsz b hb hlo A n c xs hx hl hr h1 h63 hbytes h.ext.size ?_)
  intro v' w' hown hg
  rw [hod]
  exact ⟨_, rfl, hg, born_any hdl h hv hown⟩
theorem FInv.box (h : FInv D a0 w0 F f a w) (ho : ops[i]? = some o) (hw : Region.wanted o (yielded ops a.tmps) = true) (d : Nat) (hod : o.dst = some d) (hdl : d < a0.tmps.size)
    (ht : faTab D F i (some d) = true) (dies : Option Nat) (T : TypeId) (cs : Array Value) (hv : F.filter (·.born == i) = [⟨i, dies, d, .any (isBox w0.heap.size T cs) (isBox_mono _ _ _)⟩]) {s : Sem Value}
    (hs : execOp a.eval o = (do pure (Next.value (← s)))) (hrun : s.run P w = .ok (.pointer (some ⟨w.heap.size, 0, none⟩)) (w.alloc (.cells cs T))) : wpOp P ops Q i (FInv D a0 w0 F (upd f i)) a w :=
  h.valA ho hw d hod hdl ht dies _ _ hv hs hrun ((Ext.refl _).alloc _) ⟨_, rfl, h.ext.size, Blk.new w _ _⟩
end

theorem wpList_append_new {P : Program} {w : World} {ops : Array Oper} {rest : List Oper} {o : Oper} {a : Act} {Q : Exit → Act → World → Prop} (hgd : o.guard = none) (s x : Operand) (t : TypeId)
    (ho : o.op = .call { callee := .builtin .append, args := #[s, x], argTypes := #[t, t] })
    (base : Nat) (e : TypeId) (z : Value) (size bytes : Nat) (ht : P.underlying t = some (.slice e)) (hi : (P.info? e).map (fun i => (i.zero, i.size, i.bytes)) = some (some z, size, bytes))
    (hzs : z.cells.size = size) (hsz : 0 < size) (b : Nat) (hs : a.eval s = .slice (some ⟨b, 0, none⟩) 0 0) (hlit : w.ownsRow base e size (.slice (some ⟨b, 0, none⟩) 0 0) 0 []) (A : Option Addr) (m c : Nat) (news : List Value) (hx : a.eval x = .slice A m c) (hl : news.length = m * size) (hr : Cells w A news) (h1 : ∀ u ∈ news, u.oneCell' = true)
    (h63 : m ≤ maxLen) (hbytes : m * bytes ≤ 140737488355328) (hbase : base ≤ w.heap.size)
    (h : ∀ v' w', w'.ownsRow base e size v' m news → Ext w w' → wpList P ops Q rest (a.put o.dst v') w') : wpList P ops Q (o :: rest) a w :=
  wpList_plain hgd fun _ hK => wp_append_new s x t ho base e z size bytes ht hi hzs hsz b hs hlit A m c news hx hl hr h1 h63 hbytes hbase fun v' w' h1 h2 => hK _ _ (h v' w' h1 h2)

/-- A guarded load of a struct, in a plain walk. -/
theorem wpList_load_row_g {P : Program} {ops : Array Oper} {rest : List Oper} {op : Oper} {a : Act} {w : World} {Q : Exit → Act → World → Prop} {g d' : Nat} {b : Bool} (hgd : op.guard = some (g, b)) (hd' : (ops[g]?).bind (·.dst) = some d') (hv : a.eval (.tmp d') = .bool b) (ty : TypeId) (x : Operand) (ho : op.op = .load ty x)
    (ad : Addr) (hx : a.eval x = .pointer (some ad)) (cs : List Value) (d : TypeDesc) (hc : ∀ j v, cs[j]? = some v → w.cell? (ad.add j) = some v)
    (hu : P.underlying ty = some d) (hd : d.isRow = true) (hi : (P.info? ty).map (·.size) = some cs.length)
    (h : wpList P ops Q rest (a.put op.dst (.agg cs.toArray)) w) : wpList P ops Q (op :: rest) a w :=
  wpList_step fun K hK => by
    rw [if_pos (wanted_yes hgd hd' hv)]
    exact wp_load_row_ ty x ho ad hx cs d hc hu hd hi (hK _ _ h)
theorem flat_inv {sz : Nat} (hs : 0 < sz) : ∀ (css : List (List Value)), (∀ cs ∈ css, cs.length = sz) → ∀ i v, css.flatten[i]? = some v → ∃ (q r : Nat) (cs : List Value), css[q]? = some cs ∧ cs[r]? = some v ∧ i = q * sz + r
  | [], _, i, v, h => by simp at h
  | c :: css, hl, i, v, h => by
    have hc := hl c (List.mem_cons_self ..)
    rw [List.flatten_cons] at h
    by_cases hi : i < c.length
    · rw [List.getElem?_append_left hi] at h
      exact ⟨0, i, c, rfl, h, by omega⟩
    · rw [List.getElem?_append_right (by omega)] at h
      obtain ⟨q, r, cs, h1, h2, h3⟩ := flat_inv hs css (fun x hx => hl x (List.mem_cons_of_mem _ hx)) _ _ h
      exact ⟨q + 1, r, cs, by simpa using h1, h2, by rw [Nat.succ_mul]; omega⟩
theorem Row.cells {w : World} {a : Option Addr} {sz : Nat} {css : List (List Value)} (h : Row w a sz css) (hs : 0 < sz) : Cells w a css.flatten := by
  intro i v hv
  obtain ⟨q, r, cs, h1, h2, h3⟩ := flat_inv hs css (fun cs hcs => by
    obtain ⟨j, hj, rfl⟩ := List.getElem_of_mem hcs
    exact (h j _ (List.getElem?_eq_getElem hj)).1) i v hv
  obtain ⟨_, x, hx, hc⟩ := h q cs h1
  refine ⟨x, hx, ?_⟩
  rw [h3, ← add_add]
  exact hc r v h2
theorem Row.len {w : World} {a : Option Addr} {sz : Nat} {css : List (List Value)} (h : Row w a sz css) : css.flatten.length = css.length * sz :=
  flat_len css fun cs hcs => by
    obtain ⟨j, hj, rfl⟩ := List.getElem_of_mem hcs
    exact (h j _ (List.getElem?_eq_getElem hj)).1
theorem own_ne_blk {w : World} {B : Nat} {e T : TypeId} {sz n : Nat} {v : Value} {xs : List Value} {g : Nat} {cs : Array Value} (h : w.ownsRow B e sz v n xs) (hb : Blk w g T cs) (hne : e ≠ T) : v.ownBlock = none ∨ v.ownBlock ≠ some g := by
  rcases h.2 with ⟨rfl, _⟩ | ⟨g1, cap, cur, rfl, _, hgg, _⟩
  · exact .inl rfl
  · refine .inr fun e1 => ?_
    simp only [Value.ownBlock, Option.some.injEq] at e1
    subst e1
    exact Blk.ne (show Blk w g1 e cur from hgg) hb hne rfl
/-- A row of one's own: none, or a block of it. -/
theorem own_blk {w : World} {B : Nat} {e : TypeId} {sz n c : Nat} {A : Option Addr} {xs : List Value} (h : w.ownsRow B e sz (.slice A n c) n xs) : ∃ g, (0 < n → A = some ⟨g, 0, none⟩ ∧ ∃ cur, Blk w g e cur ∧ n * sz ≤ cur.size) := by
  rcases h.2 with ⟨e1, h0⟩ | ⟨g1, cap, cur, e1, _, hgg, hn, _, hcs, _⟩
  · exact ⟨0, fun h1 => absurd h1 (by omega)⟩
  · cases e1
    exact ⟨g1, fun _ => ⟨rfl, cur, hgg, by rw [hcs]; exact Nat.mul_le_mul_right _ hn⟩⟩
theorem own_past {w w' : World} {B : Nat} {e : TypeId} {sz n : Nat} {v : Value} {xs : List Value} (h : w.ownsRow B e sz v n xs) {row : Option Nat} (hg : w.grownBy w' row) (hr : ∀ j, row = some j → j < B) : w'.ownsRow B e sz v n xs := by
  refine World.ownsRow.kept h hg ?_
  cases hv : v.ownBlock with
  | none => exact .inl rfl
  | some k => exact .inr fun e => by have := (h.lt _ hv).1; have := hr k e.symm; omega
theorem Own.past {B : Nat} {w w' : World} {v : Value} {bs : List UInt8} (h : Own B w v bs) {row : Option Nat} (hg : w.grownBy w' row) (hr : ∀ j, row = some j → j < B) : Own B w' v bs := by
  refine h.other hg ?_
  cases hv : v.ownBlock with
  | none => exact .inl rfl
  | some k => exact .inr fun e => by have := (h.lt hv).1; have := hr k e.symm; omega
end Go.Proofs.Ythepbcomeimcnaa

/- A part of a row, stored; append onto a literal without room: new memory only. -/
import Derived.Test.YtcnhbodemabbdaaDoorQ09
import Derived.Test.YtcnhbodemabbdaaDoorQ01
import Derived.Test.YtcnhbodemabbdaaDoorQ26
import Derived.Test.YtcnhbodemabbdaaDoorQ13
namespace Go.Proofs.YtcnhbodemabbdaaDoor
open Go.RowKit
set_option linter.unusedVariables false

theorem run_store_part {P : Program} {w : World} {g : Nat} {t ty : TypeId} {cs : Array Value} (h : Blk w g t cs) (o : Nat) {vs : Array Value} (hfit : o + vs.size ≤ cs.size) (hi : (P.info? ty).map (·.size) = some vs.size) (h1 : ∀ v ∈ vs.toList, v.oneCell' = true) :
    (Instr.storeAt ty (.pointer (some ⟨g, o, none⟩)) (.agg vs)).run P w = .ok () (w.setRow g (cs.toList.take o ++ vs.toList ++ cs.toList.drop (o + vs.size)).toArray) := by
  have hst := run_storeCells_at P g o t vs.toList 0 cs w h (by simpa using hfit) h1
  cases hq : P.info? ty with
  | none => simp [hq] at hi
  | some i =>
    have hsz : i.size = vs.size := by simpa [hq] using hi
    simp only [Nat.add_zero, Array.length_toList] at hst
    simp [Instr.storeAt, Instr.sureAddr, storeVar, Value.cells, sizeOf, typeInfo, hq, hsz, hst]
theorem wpList_store_part {P : Program} {ops : Array Oper} {rest : List Oper} {o : Oper} {a : Act} {w : World} {Q : Exit → Act → World → Prop} (hgd : o.guard = none) (ty : TypeId) (x y : Operand) (ho : o.op = .store ty x y) (hod : o.dst = none) (g off : Nat) (vs : Array Value)
    (hx : a.eval x = .pointer (some ⟨g, off, none⟩)) (hy : a.eval y = .agg vs) (t : TypeId) (cs : Array Value) (h : Blk w g t cs) (hfit : off + vs.size ≤ cs.size) (hi : (P.info? ty).map (·.size) = some vs.size) (h1 : ∀ v ∈ vs.toList, v.oneCell' = true)
    (hk : ∀ w' cs', cs'.size = cs.size → Blk w' g t cs' → w.grownBy w' (some g) → wpList P ops Q rest a w') : wpList P ops Q (o :: rest) a w := by
  refine wpList_plain hgd fun _ hK => ?_
  unfold Oper.wp execOp
  simp only [ho, hx, hy, Sem.run_bind, run_store_part h off hfit hi h1, Result.andThen_ok, Sem.run_pure]
  have hsz : (cs.toList.take off ++ vs.toList ++ cs.toList.drop (off + vs.size)).toArray.size = cs.size := by
    simp only [List.size_toArray, List.length_append, List.length_take, List.length_drop, Array.length_toList]
    omega
  have := hK _ _ (hk _ _ hsz (h.row _) ⟨rfl, rfl, rfl, by simp, fun k _ hne => setRow_other w g k _ (fun e => hne (by rw [e]))⟩)
  simpa [Oper.upon, hod, Act.put] using this

section
variable {P : Program} {w : World}
theorem run_append_new (base : Nat) (t e : TypeId) (z : Value) (size bytes : Nat) (ht : P.underlying t = some (.slice e)) (hi : (P.info? e).map (fun i => (i.zero, i.size, i.bytes)) = some (some z, size, bytes))
    (hzs : z.cells.size = size) (hsz : 0 < size) (b : Nat) (hlit : w.ownsRow base e size (.slice (some ⟨b, 0, none⟩) 0 0) 0 []) (A : Option Addr) (m c : Nat) (news : List Value) (hl : news.length = m * size) (hr : Cells w A news) (h1 : ∀ u ∈ news, u.oneCell' = true)
    (h63 : m ≤ maxLen) (hbytes : m * bytes ≤ 140737488355328) (hbase : base ≤ w.heap.size) (ty : TypeId) :
    ∃ v' w', (Builtin.append_ #[t, t] ty #[.slice (some ⟨b, 0, none⟩) 0 0, .slice A m c]).run P w = .ok v' w' ∧ w'.ownsRow base e size v' m news ∧ Ext w w' := by
  obtain ⟨i, hi0, hz, hsize, hby⟩ := info_parts hi
  rcases Nat.eq_zero_or_pos m with h0 | h0
  · subst h0
    have hn : news = [] := List.eq_nil_of_length_eq_zero (by simpa using hl)
    subst hn
    refine ⟨_, w, ?_, hlit, Ext.refl _⟩
    cases A <;> simp [Builtin.append_, run_underlying ht, sizeOf, typeInfo, hi0, Builtin.lenOf, Builtin.firstCells, storeCells, loadCells, loadCellsFrom]
  · have hne : 0 < news.length := by rw [hl]; exact Nat.mul_pos h0 hsz
    obtain ⟨ad, rfl, _⟩ := hr 0 _ (List.getElem?_eq_getElem hne)
    have hfit := growslice_fits (old := 0) (need := m) (bytes := bytes) h0 hbytes
    have hrun := run_append_grow (P := P) w t ty e i z ht hi0 hz ⟨b, 0, none⟩ 0 0 [] (by simp) (by intro j v hj; simp at hj) ad m c news (by rw [hsize]; exact hl)
      (fun j u hu => by obtain ⟨x, hx, hc⟩ := hr j u hu; cases hx; exact hc) (by omega) (by simp only [maxLen] at h63; omega) (by rw [Nat.zero_add, hby]; exact hfit)
    refine ⟨_, _, hrun, ?_, ((Ext.refl w).drew).alloc _⟩
    rw [Nat.zero_add]
    have hge := grownCap_ge w m 0 e
    have hcs : ((([] : List Value).toArray ++ news.toArray ++ Builtin.zeroCells z.cells (grownCap w m 0 e - m)).size) = grownCap w m 0 e * size := by
      simp only [Array.size_append, List.size_toArray, size_zeroCells, hzs, hl, List.length_nil, Nat.zero_add]
      rw [← Nat.add_mul]
      congr 1
      omega
    refine ⟨hl, .inr ⟨w.heap.size, _, _, rfl, hbase, heap_alloc_new w.drew _, hge, grownCap_le_maxLen w m 0 e h63, hcs, ?_⟩⟩
    simp only [Array.toList_append, List.nil_append]
    rw [List.take_append_of_le_length (by simp [hl]), List.take_of_length_le (by simp [hl])]
theorem wp_append_new {o : Oper} {a : Act} {K : Act → World → Prop} {Q : Exit → Act → World → Prop} (s x : Operand) (t : TypeId)
    (ho : o.op = .call { callee := .builtin .append, args := #[s, x], argTypes := #[t, t] })
    (base : Nat) (e : TypeId) (z : Value) (size bytes : Nat) (ht : P.underlying t = some (.slice e)) (hi : (P.info? e).map (fun i => (i.zero, i.size, i.bytes)) = some (some z, size, bytes))
    (hzs : z.cells.size = size) (hsz : 0 < size) (b : Nat) (hs : a.eval s = .slice (some ⟨b, 0, none⟩) 0 0) (hlit : w.ownsRow base e size (.slice (some ⟨b, 0, none⟩) 0 0) 0 []) (A : Option Addr) (m c : Nat) (news : List Value) (hx : a.eval x = .slice A m c) (hl : news.length = m * size) (hr : Cells w A news) (h1 : ∀ u ∈ news, u.oneCell' = true)
    (h63 : m ≤ maxLen) (hbytes : m * bytes ≤ 140737488355328) (hbase : base ≤ w.heap.size)
    (h : ∀ v' w', w'.ownsRow base e size v' m news → Ext w w' → K (a.put o.dst v') w') : o.wp P a w K Q := by
  obtain ⟨v', w', hrun, h2, h3⟩ := run_append_new (P := P) (w := w) base t e z size bytes ht hi hzs hsz b hlit A m c news hl hr h1 h63 hbytes hbase o.type
  unfold Oper.wp execOp
  simp only [ho, resolve, invoke, builtin, Sem.run_bind, Sem.run_pure, Result.andThen_ok, List.map_toArray, List.map_cons, List.map_nil, hs, hx, hrun]
  exact h v' w' h2 h3
end

def isLit (B : Nat) (e : TypeId) (sz : Nat) : World → Value → Prop := fun w v => ∃ b, v = .slice (some ⟨b, 0, none⟩) 0 0 ∧ w.ownsRow B e sz v 0 []
theorem isLit_mono (B : Nat) (e : TypeId) (sz : Nat) : Mono (isLit B e sz) := fun w w' v ⟨b, hv, ho⟩ k => ⟨b, hv, own_ext ho k⟩
def isRow (B : Nat) (e : TypeId) (sz n : Nat) (xs : List Value) : World → Value → Prop := fun w v => w.ownsRow B e sz v n xs
theorem isRow_mono (B : Nat) (e : TypeId) (sz n : Nat) (xs : List Value) : Mono (isRow B e sz n xs) := fun w w' v ho k => own_ext ho k
def isBox (B : Nat) (T : TypeId) (cs : Array Value) : World → Value → Prop := fun w v => ∃ g, v = .pointer (some ⟨g, 0, none⟩) ∧ B ≤ g ∧ Blk w g T cs
theorem isBox_mono (B : Nat) (T : TypeId) (cs : Array Value) : Mono (isBox B T cs) := fun w w' v ⟨g, hv, hb, ho⟩ k => ⟨g, hv, hb, ho.ext k⟩
def isTwo (B : Nat) (e1 : TypeId) (s1 n1 : Nat) (xs1 : List Value) (e2 : TypeId) (s2 n2 : Nat) (xs2 : List Value) : World → Value → Prop :=
  fun w v => ∃ v1 v2, v = .agg #[v1, v2] ∧ w.ownsRow B e1 s1 v1 n1 xs1 ∧ w.ownsRow B e2 s2 v2 n2 xs2
theorem isTwo_mono (B : Nat) (e1 : TypeId) (s1 n1 : Nat) (xs1 : List Value) (e2 : TypeId) (s2 n2 : Nat) (xs2 : List Value) : Mono (isTwo B e1 s1 n1 xs1 e2 s2 n2 xs2) :=
  fun w w' v ⟨v1, v2, hv, h1, h2⟩ k => ⟨v1, v2, hv, own_ext h1 k, own_ext h2 k⟩

section
variable {P : Program} {ops : Array Oper} {Q : Exit → Act → World → Prop} {D : List Nat} {a0 a : Act} {w0 w : World} {F : List Fa} {f : Nat → Bool} {i : Nat} {o : Oper}
theorem born_any {v : Value} {d : Nat} {dies : Option Nat} {R : World → Value → Prop} {hm : Mono R} (hdl : d < a0.tmps.size) (h : FInv D a0 w0 F f a w) (hv : F.filter (·.born == i) = [⟨i, dies, d, .any R hm⟩]) {w' : World} (ho : R w' v) : ∀ p ∈ F, p.born = i → p.k.R w0.heap.size w' ((a.put (some d) v).eval (.tmp p.slot)) := by
  intro p hp hb
  have hm' : p ∈ F.filter (·.born == i) := List.mem_filter.2 ⟨hp, by simpa using hb⟩
  rw [hv, List.mem_singleton] at hm'
  subst hm'
  show R w' ((a.put (some d) v).eval (.tmp d))
  rw [eval_put_eq (by rw [h.agree.2.1]; exact hdl)]
  exact ho
/-- An operation of a pure kind that yields something that outlives growing memory. -/
theorem FInv.valA (h : FInv D a0 w0 F f a w) (ho : ops[i]? = some o) (hw : Region.wanted o (yielded ops a.tmps) = true) (d : Nat) (hod : o.dst = some d) (hdl : d < a0.tmps.size)
    (ht : faTab D F i (some d) = true) (dies : Option Nat) (R : World → Value → Prop) (hm : Mono R) (hv : F.filter (·.born == i) = [⟨i, dies, d, .any R hm⟩]) {s : Sem Value} {v : Value} {w' : World}
    (hs : execOp a.eval o = (do pure (Next.value (← s)))) (hrun : s.run P w = .ok v w') (hx : Ext w w') (hr : R w' v) : wpOp P ops Q i (FInv D a0 w0 F (upd f i)) a w := by
  refine h.stepG ho hw (some d) hod ht (wp_val hs hrun ?_)
  rw [hod]
  exact ⟨_, rfl, hx, born_any hdl h hv hr⟩
theorem FInv.lit0 (h : FInv D a0 w0 F f a w) (ho : ops[i]? = some o) (hw : Region.wanted o (yielded ops a.tmps) = true) (d : Nat) (hod : o.dst = some d) (hdl : d < a0.tmps.size)
    (ht : faTab D F i (some d) = true) (dies : Option Nat) (e : TypeId) (sz : Nat) (hv : F.filter (·.born == i) = [⟨i, dies, d, .any (isLit w0.heap.size e sz) (isLit_mono _ _ _)⟩]) {s : Sem Value}
    (hs : execOp a.eval o = (do pure (Next.value (← s)))) (hrun : s.run P w = .ok (.slice (some ⟨w.heap.size, 0, none⟩) 0 0) (w.alloc (.cells #[] e))) : wpOp P ops Q i (FInv D a0 w0 F (upd f i)) a w :=
  h.valA ho hw d hod hdl ht dies _ _ hv hs hrun ((Ext.refl _).alloc _) ⟨_, rfl, World.ownsRow_made w #[] 0 h.ext.size (by simp [maxLen]) (by simp)⟩
theorem FInv.appN (h : FInv D a0 w0 F f a w) (ho : ops[i]? = some o) (hw : Region.wanted o (yielded ops a.tmps) = true) (d : Nat) (hod : o.dst = some d) (hdl : d < a0.tmps.size)
    (ht : faTab D F i (some d) = true) (dies : Option Nat) (e : TypeId) (sz n : Nat) (xs : List Value) (hv : F.filter (·.born == i) = [⟨i, dies, d, .any (isRow w0.heap.size e sz n xs) (isRow_mono _ _ _ _ _)⟩])
    (s x : Operand) (t : TypeId) (hop : o.op = .call { callee := .builtin .append, args := #[s, x], argTypes := #[t, t] }) (z : Value) (bytes : Nat)
    (hu : P.underlying t = some (.slice e)) (hi : (P.info? e).map (fun i => (i.zero, i.size, i.bytes)) = some (some z, sz, bytes)) (hz : z.cells.size = sz) (hsz : 0 < sz)
    (hlit : isLit w0.heap.size e sz w (a.eval s)) (A : Option Addr) (c : Nat) (hx : a.eval x = .slice A n c) (hl : xs.length = n * sz) (hr : Cells w A xs) (h1 : ∀ u ∈ xs, u.oneCell' = true)
    (h63 : n ≤ maxLen) (hbytes : n * bytes ≤ 140737488355328) : wpOp P ops Q i (FInv D a0 w0 F (upd f i)) a w := by
  obtain ⟨b, hb, hlo⟩ := hlit
  rw [hb] at hlo
  refine h.stepG ho hw (some d) hod ht (wp_append_new s x t hop w0.heap.size e z sz bytes hu hi hz hsz b hb hlo A n c xs hx hl hr h1 h63 hbytes h.ext.size ?_)
  intro v' w' hown hg
  rw [hod]
  exact ⟨_, rfl, hg, born_any hdl h hv hown⟩
theorem FInv.box (h : FInv D a0 w0 F f a w) (ho : ops[i]? = some o) (hw : Region.wanted o (yielded ops a.tmps) = true) (d : Nat) (hod : o.dst = some d) (hdl : d < a0.tmps.size)
    (ht : faTab D F i (some d) = true) (dies : Option Nat) (T : TypeId) (cs : Array Value) (hv : F.filter (·.born == i) = [⟨i, dies, d, .any (isBox w0.heap.size T cs) (isBox_mono _ _ _)⟩]) {s : Sem Value}
    (hs : execOp a.eval o = (do pure (Next.value (← s)))) (hrun : s.run P w = .ok (.pointer (some ⟨w.heap.size, 0, none⟩)) (w.alloc (.cells cs T))) : wpOp P ops Q i (FInv D a0 w0 F (upd f i)) a w :=
  h.valA ho hw d hod hdl ht dies _ _ hv hs hrun ((Ext.refl _).alloc _) ⟨_, rfl, h.ext.size, Blk.new w _ _⟩
end

theorem wpList_append_new {P : Program} {w : World} {ops : Array Oper} {rest : List Oper} {o : Oper} {a : Act} {Q : Exit → Act → World → Prop} (hgd : o.guard = none) (s x : Operand) (t : TypeId)
    (ho : o.op = .call { callee := .builtin .append, args := #[s, x], argTypes := #[t, t] })
    (base : Nat) (e : TypeId) (z : Value) (size bytes : Nat) (ht : P.underlying t = some (.slice e)) (hi : (P.info? e).map (fun i => (i.zero, i.size, i.bytes)) = some (some z, size, bytes))
    (hzs : z.cells.size = size) (hsz : 0 < size) (b : Nat) (hs : a.eval s = .slice (some ⟨b, 0, none⟩) 0 0) (hlit : w.ownsRow base e size (.slice (some ⟨b, 0, none⟩) 0 0) 0 []) (A : Option Addr) (m c : Nat) (news : List Value) (hx : a.eval x = .slice A m c) (hl : news.length = m * size) (hr : Cells w A news) (h1 : ∀ u ∈ news, u.oneCell' = true)
    (h63 : m ≤ maxLen) (hbytes : m * bytes ≤ 140737488355328) (hbase : base ≤ w.heap.size)
    (h : ∀ v' w', w'.ownsRow base e size v' m news → Ext w w' → wpList P ops Q rest (a.put o.dst v') w') : wpList P ops Q (o :: rest) a w :=
  wpList_plain hgd fun _ hK => wp_append_new s x t ho base e z size bytes ht hi hzs hsz b hs hlit A m c news hx hl hr h1 h63 hbytes hbase fun v' w' h1 h2 => hK _ _ (h v' w' h1 h2)

/-- A guarded load of a struct, in a plain walk. -/
theorem wpList_load_row_g {P : Program} {ops : Array Oper} {rest : List Oper} {op : Oper} {a : Act} {w : World} {Q : Exit → Act → World → Prop} {g d' : Nat} {b : Bool} (hgd : op.guard = some (g, b)) (hd' : (ops[g]?).bind (·.dst) = some d') (hv : a.eval (.tmp d') = .bool b) (ty : TypeId) (x : Operand) (ho : op.op = .load ty x)
    (ad : Addr) (hx : a.eval x = .pointer (some ad)) (cs : List Value) (d : TypeDesc) (hc : ∀ j v, cs[j]? = some v → w.cell? (ad.add j) = some v)
    (hu : P.underlying ty = some d) (hd : d.isRow = true) (hi : (P.info? ty).map (·.size) = some cs.length)
    (h : wpList P ops Q rest (a.put op.dst (.agg cs.toArray)) w) : wpList P ops Q (op :: rest) a w :=
  wpList_step fun K hK => by
    rw [if_pos (wanted_yes hgd hd' hv)]
    exact wp_load_row_ ty x ho ad hx cs d hc hu hd hi (hK _ _ h)
theorem flat_inv {sz : Nat} (hs : 0 < sz) : ∀ (css : List (List Value)), (∀ cs ∈ css, cs.length = sz) → ∀ i v, css.flatten[i]? = some v → ∃ (q r : Nat) (cs : List Value), css[q]? = some cs ∧ cs[r]? = some v ∧ i = q * sz + r
  | [], _, i, v, h => by simp at h
  | c :: css, hl, i, v, h => by
    have hc := hl c (List.mem_cons_self ..)
    rw [List.flatten_cons] at h
    by_cases hi : i < c.length
    · rw [List.getElem?_append_left hi] at h
      exact ⟨0, i, c, rfl, h, by omega⟩
    · rw [List.getElem?_append_right (by omega)] at h
      obtain ⟨q, r, cs, h1, h2, h3⟩ := flat_inv hs css (fun x hx => hl x (List.mem_cons_of_mem _ hx)) _ _ h
      exact ⟨q + 1, r, cs, by simpa using h1, h2, by rw [Nat.succ_mul]; omega⟩
theorem Row.cells {w : World} {a : Option Addr} {sz : Nat} {css : List (List Value)} (h : Row w a sz css) (hs : 0 < sz) : Cells w a css.flatten := by
  intro i v hv
  obtain ⟨q, r, cs, h1, h2, h3⟩ := flat_inv hs css (fun cs hcs => by
    obtain ⟨j, hj, rfl⟩ := List.getElem_of_mem hcs
    exact (h j _ (List.getElem?_eq_getElem hj)).1) i v hv
  obtain ⟨_, x, hx, hc⟩ := h q cs h1
  refine ⟨x, hx, ?_⟩
  rw [h3, ← add_add]
  exact hc r v h2
theorem Row.len {w : World} {a : Option Addr} {sz : Nat} {css : List (List Value)} (h : Row w a sz css) : css.flatten.length = css.length * sz :=
  flat_len css fun cs hcs => by
    obtain ⟨j, hj, rfl⟩ := List.getElem_of_mem hcs
    exact (h j _ (List.getElem?_eq_getElem hj)).1
theorem own_ne_blk {w : World} {B : Nat} {e T : TypeId} {sz n : Nat} {v : Value} {xs : List Value} {g : Nat} {cs : Array Value} (h : w.ownsRow B e sz v n xs) (hb : Blk w g T cs) (hne : e ≠ T) : v.ownBlock = none ∨ v.ownBlock ≠ some g := by
  rcases h.2 with ⟨rfl, _⟩ | ⟨g1, cap, cur, rfl, _, hgg, _⟩
  · exact .inl rfl
  · refine .inr fun e1 => ?_
    simp only [Value.ownBlock, Option.some.injEq] at e1
    subst e1
    exact Blk.ne (show Blk w g1 e cur from hgg) hb hne rfl
/-- A row of one's own: none, or a block of it. -/
theorem own_blk {w : World} {B : Nat} {e : TypeId} {sz n c : Nat} {A : Option Addr} {xs : List Value} (h : w.ownsRow B e sz (.slice A n c) n xs) : ∃ g, (0 < n → A = some ⟨g, 0, none⟩ ∧ ∃ cur, Blk w g e cur ∧ n * sz ≤ cur.size) := by
  rcases h.2 with ⟨e1, h0⟩ | ⟨g1, cap, cur, e1, _, hgg, hn, _, hcs, _⟩
  · exact ⟨0, fun h1 => absurd h1 (by omega)⟩
  · cases e1
    exact ⟨g1, fun _ => ⟨rfl, cur, hgg, by rw [hcs]; exact Nat.mul_le_mul_right _ hn⟩⟩
theorem own_past {w w' : World} {B : Nat} {e : TypeId} {sz n : Nat} {v : Value} {xs : List Value} (h : w.ownsRow B e sz v n xs) {row : Option Nat} (hg : w.grownBy w' row) (hr : ∀ j, row = some j → j < B) : w'.ownsRow B e sz v n xs := by
  refine World.ownsRow.kept h hg ?_
  cases hv : v.ownBlock with
  | none => exact .inl rfl
  | some k => exact .inr fun e => by have := (h.lt _ hv).1; have := hr k e.symm; omega
theorem Own.past {B : Nat} {w w' : World} {v : Value} {bs : List UInt8} (h : Own B w v bs) {row : Option Nat} (hg : w.grownBy w' row) (hr : ∀ j, row = some j → j < B) : Own B w' v bs := by
  refine h.other hg ?_
  cases hv : v.ownBlock with
  | none => exact .inl rfl
  | some k => exact .inr fun e => by have := (h.lt hv).1; have := hr k e.symm; omega
end Go.Proofs.YtcnhbodemabbdaaDoor

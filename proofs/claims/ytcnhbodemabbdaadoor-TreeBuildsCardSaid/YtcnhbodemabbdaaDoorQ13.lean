/- Rows of structs: how one is read, loaded, stored. Program-free but for names. -/
import Derived.Test.YtcnhbodemabbdaaDoorQ01
import Derived.Deep.MidRow
import Derived.Test.YtcnhbodemabbdaaDoorQ02
namespace Go.Proofs.YtcnhbodemabbdaaDoor
open Go.RowKit
set_option linter.unusedVariables false

/-- A row of structs of sz cells each. -/
def Row (w : World) (a : Option Addr) (sz : Nat) (css : List (List Value)) : Prop :=
  ∀ i cs, css[i]? = some cs → cs.length = sz ∧ ∃ x, a = some x ∧ ∀ j v, cs[j]? = some v → w.cell? ((x.add (i * sz)).add j) = some v
theorem Row.ext {w w' : World} {a : Option Addr} {sz : Nat} {css : List (List Value)} (h : Row w a sz css) (k : Ext w w') : Row w' a sz css :=
  fun i p hp => let ⟨hl, x, hx, hc⟩ := h i p hp; ⟨hl, x, hx, fun j v hv => k.cell (hc j v hv)⟩
theorem Row.nil (w : World) (a : Option Addr) (sz : Nat) : Row w a sz [] := fun i p hp => by simp at hp
theorem Row.get {w : World} {a : Option Addr} {sz : Nat} {css : List (List Value)} (h : Row w a sz css) {i : Nat} (hi : i < css.length) :
    ∃ x, a = some x ∧ ∀ j v, css[i][j]? = some v → w.cell? ((x.add (i * sz)).add j) = some v := (h i _ (List.getElem?_eq_getElem hi)).2
theorem flat_len {sz : Nat} : ∀ (css : List (List Value)), (∀ cs ∈ css, cs.length = sz) → css.flatten.length = css.length * sz
  | [], _ => by simp
  | c :: css, h => by
    rw [List.flatten_cons, List.length_append, flat_len css (fun x hx => h x (List.mem_cons_of_mem _ hx)), h c (List.mem_cons_self ..), List.length_cons, Nat.succ_mul, Nat.add_comm]
theorem flat_get {sz : Nat} : ∀ (css : List (List Value)), (∀ cs ∈ css, cs.length = sz) → ∀ i j (cs : List Value) v, css[i]? = some cs → cs[j]? = some v → css.flatten[i * sz + j]? = some v
  | [], _, i, j, cs, v, hi, _ => by simp at hi
  | c :: css, h, 0, j, cs, v, hi, hj => by
    simp only [List.getElem?_cons_zero, Option.some.injEq] at hi
    subst hi
    rw [List.flatten_cons, Nat.zero_mul, Nat.zero_add, List.getElem?_append_left (List.getElem?_eq_some_iff.1 hj).1]
    exact hj
  | c :: css, h, i + 1, j, cs, v, hi, hj => by
    have hl := h c (List.mem_cons_self ..)
    rw [List.flatten_cons, List.getElem?_append_right (by rw [hl, Nat.succ_mul]; omega)]
    have e : (i + 1) * sz + j - c.length = i * sz + j := by rw [hl, Nat.succ_mul]; omega
    rw [e]
    exact flat_get css (fun x hx => h x (List.mem_cons_of_mem _ hx)) i j cs v (by simpa using hi) hj
/-- A row of cells, as structs. -/
theorem Cells.row {w : World} {a : Option Addr} {sz : Nat} {css : List (List Value)} (h : Cells w a css.flatten) (hl : ∀ cs ∈ css, cs.length = sz) (hs : 0 < sz) : Row w a sz css := by
  intro i cs hi
  have hlc := hl cs (List.mem_of_getElem? hi)
  refine ⟨hlc, ?_⟩
  obtain ⟨v0, hv0⟩ : ∃ v, cs[0]? = some v := ⟨_, List.getElem?_eq_getElem (by omega)⟩
  obtain ⟨x, rfl, _⟩ := h _ _ (flat_get css hl i 0 cs v0 hi hv0)
  refine ⟨x, rfl, fun j v hj => ?_⟩
  obtain ⟨y, hy, hc⟩ := h _ _ (flat_get css hl i j cs v hi hj)
  cases hy
  rw [add_add]
  exact hc

section
variable {P : Program}
theorem run_loadVar_row_ (w : World) (ad : Addr) (ty : TypeId) (cs : List Value) (d : TypeDesc) (hc : ∀ j v, cs[j]? = some v → w.cell? (ad.add j) = some v)
    (hu : P.underlying ty = some d) (hd : d.isRow = true) (hi : (P.info? ty).map (·.size) = some cs.length) :
    (loadVar ty ad).run P w = .ok (.agg cs.toArray) w := by
  have hl : (loadCells ad cs.length).run P w = .ok cs.toArray w := run_loadCells_list (P := P) w ad cs hc
  cases hq : P.info? ty with
  | none => simp [hq] at hi
  | some i =>
    have hs : i.size = cs.length := by simpa [hq] using hi
    have hagg : (isAgg ty).run P w = .ok true w := by
      unfold isAgg
      rw [Sem.run_bind, run_underlying hu w]
      cases d <;> simp_all
    simp [loadVar, Sem.run_bind, hagg, sizeOf, typeInfo, hq, hs, hl]
theorem run_loadAt_row (w : World) (ad : Addr) (ty : TypeId) (cs : List Value) (d : TypeDesc) (hc : ∀ j v, cs[j]? = some v → w.cell? (ad.add j) = some v)
    (hu : P.underlying ty = some d) (hd : d.isRow = true) (hi : (P.info? ty).map (·.size) = some cs.length) :
    (Instr.loadAt ty (.pointer (some ad))).run P w = .ok (.agg cs.toArray) w := by
  simp only [Instr.loadAt, Instr.sureAddr, Sem.run_bind, Sem.run_pure, Result.andThen_ok, run_loadVar_row_ w ad ty cs d hc hu hd hi]
theorem wp_load_row_ {op : Oper} {a : Act} {w : World} {K : Act → World → Prop} {Q : Exit → Act → World → Prop} (ty : TypeId) (x : Operand) (ho : op.op = .load ty x)
    (ad : Addr) (hx : a.eval x = .pointer (some ad)) (cs : List Value) (d : TypeDesc) (hc : ∀ j v, cs[j]? = some v → w.cell? (ad.add j) = some v)
    (hu : P.underlying ty = some d) (hd : d.isRow = true) (hi : (P.info? ty).map (·.size) = some cs.length)
    (h : K (a.put op.dst (.agg cs.toArray)) w) : op.wp P a w K Q := by
  unfold Oper.wp execOp
  simp only [ho, hx, Instr.loadAt, Instr.sureAddr, Sem.run_bind, Sem.run_pure, Result.andThen_ok, run_loadVar_row_ w ad ty cs d hc hu hd hi]
  exact h
theorem wpList_load_row_ {ops : Array Oper} {rest : List Oper} {op : Oper} {a : Act} {w : World} {Q : Exit → Act → World → Prop} (hgd : op.guard = none) (ty : TypeId) (x : Operand) (ho : op.op = .load ty x)
    (ad : Addr) (hx : a.eval x = .pointer (some ad)) (cs : List Value) (d : TypeDesc) (hc : ∀ j v, cs[j]? = some v → w.cell? (ad.add j) = some v)
    (hu : P.underlying ty = some d) (hd : d.isRow = true) (hi : (P.info? ty).map (·.size) = some cs.length)
    (h : wpList P ops Q rest (a.put op.dst (.agg cs.toArray)) w) : wpList P ops Q (op :: rest) a w :=
  wpList_plain hgd fun _ hK => wp_load_row_ ty x ho ad hx cs d hc hu hd hi (hK _ _ h)
end
end Go.Proofs.YtcnhbodemabbdaaDoor
/- A buffer of bytes: copied into, cleared, cut. -/
namespace Go.Proofs.YtcnhbodemabbdaaDoor
open Go.RowKit
set_option linter.unusedVariables false

/-- A block of bytes. -/
def Buf (w : World) (g : Nat) (t : TypeId) (B : List UInt8) : Prop := Blk w g t (bv B).toArray

theorem zero_u8 (w : World) : (zeroValue 5).run Tryd.prog w = .ok (.int .u8 0) w := by kernel_rfl

theorem bv_zero (n : Nat) : List.replicate n (Value.int .u8 0) = bv (List.replicate n 0) := by
  simp [bv]
theorem bv_cat (a b : List UInt8) : bv a ++ bv b = bv (a ++ b) := by simp [bv]
theorem bv_take (a : List UInt8) (n : Nat) : (bv a).take n = bv (a.take n) := by simp [bv]
theorem bv_drop (a : List UInt8) (n : Nat) : (bv a).drop n = bv (a.drop n) := by simp [bv]
theorem bv_len (a : List UInt8) : (bv a).length = a.length := by simp [bv]

section
variable {w w' : World} {g : Nat} {t : TypeId} {B : List UInt8}
theorem Buf.size (h : Buf w g t B) : ((bv B).toArray).size = B.length := by simp [bv]
theorem Buf.cells (h : Buf w g t B) : Cells w (some ⟨g, 0, none⟩) (bv B) := by have := Blk.cells h; simpa using this
theorem Buf.cell (h : Buf w g t B) {k : Nat} (hk : k < B.length) : w.cell? ⟨g, k, none⟩ = some (.int .u8 B[k].toNat) := by
  rw [Blk.cell h, ← Array.getElem?_toList]
  exact bv_get hk
theorem Buf.set (h : Buf w g t B) (k : Nat) (c : UInt8) : Buf (w.setCell ⟨g, k, none⟩ (.int .u8 c.toNat)) g t (B.set k c) := by
  have := Blk.set h k (.int .u8 c.toNat)
  unfold Buf
  rw [List.setIfInBounds_toArray] at this
  have e : (bv B).set k (.int .u8 c.toNat) = bv (B.set k c) := by simp [bv, List.map_set]
  rw [← e]
  exact this

variable {P : Program} {ops : Array Oper} {rest : List Oper} {o : Oper} {a : Act} {Q : Exit → Act → World → Prop}

/-- clear(x) of a part of a buffer. -/
theorem wp_clear_buf {K : Act → World → Prop} (x : Operand) (ho : o.op = .call { callee := .builtin .clear, args := #[x], argTypes := #[87] })
    (ad : Addr) (off n c : Nat) (hx : a.eval x = .slice (some ad) n c) (had : n = 0 ∨ ad = ⟨g, off, none⟩) (hb : Buf w g t B) (hfit : off + n ≤ B.length)
    (hk : ∀ w', Buf w' g t (B.take off ++ List.replicate n 0 ++ B.drop (off + n)) → w.grownBy w' (some g) → K (a.put o.dst (.tuple #[])) w') : o.wp Tryd.prog a w K Q := by
  rcases Nat.eq_zero_or_pos n with h0 | h0
  · subst h0
    have hrun : (Builtin.clear_ #[87] o.type #[.slice (some ad) 0 c]).run Tryd.prog w = .ok (.tuple #[]) w := by simp [Builtin.clear_, run_underlying Tryd.underlying87]
    unfold Oper.wp execOp
    simp only [ho, resolve, invoke, builtin, Sem.run_bind, Sem.run_pure, Result.andThen_ok, List.map_toArray, List.map_cons, List.map_nil, hx, hrun]
    refine hk w ?_ ⟨rfl, rfl, rfl, Nat.le_refl _, fun _ _ _ => rfl⟩
    rw [List.replicate_zero, List.append_nil, Nat.add_zero, List.take_append_drop]
    exact hb
  · obtain rfl : ad = ⟨g, off, none⟩ := by rcases had with h | h; omega; exact h
    have hst := run_storeCells_at Tryd.prog g off t (List.replicate n (Value.int .u8 0)) 0 (bv B).toArray w hb (by simp [bv]; omega) (by intro v hv; rw [List.eq_of_mem_replicate hv]; rfl)
    have hzc : (Builtin.zeroCells (Value.int .u8 0).cells n).toList = List.replicate n (.int .u8 0) := by
      apply List.ext_getElem
      · simp [Builtin.zeroCells, Value.cells]
      · intro i h1 h2
        simp [Builtin.zeroCells, Value.cells, Nat.mod_one]
    have hrun : (Builtin.clear_ #[87] o.type #[.slice (some ⟨g, off, none⟩) n c]).run Tryd.prog w = .ok (.tuple #[]) (w.setRow g ((bv B).take off ++ List.replicate n (Value.int .u8 0) ++ (bv B).drop (off + n)).toArray) := by
      simp only [Nat.add_zero, List.length_replicate] at hst
      obtain ⟨m, rfl⟩ : ∃ m, n = m + 1 := ⟨n - 1, by omega⟩
      simp [Builtin.clear_, run_underlying Tryd.underlying87, hzc, hst]
    unfold Oper.wp execOp
    simp only [ho, resolve, invoke, builtin, Sem.run_bind, Sem.run_pure, Result.andThen_ok, List.map_toArray, List.map_cons, List.map_nil, hx, hrun]
    refine hk _ ?_ ⟨rfl, rfl, rfl, by simp, fun k _ hne => setRow_other w g k _ (fun e => hne (by rw [e]))⟩
    rw [bv_zero, bv_take, bv_drop, bv_cat, bv_cat]
    exact Blk.row hb _
theorem wpList_clear_buf (hgd : o.guard = none) (x : Operand) (ho : o.op = .call { callee := .builtin .clear, args := #[x], argTypes := #[87] })
    (ad : Addr) (off n c : Nat) (hx : a.eval x = .slice (some ad) n c) (had : n = 0 ∨ ad = ⟨g, off, none⟩) (hb : Buf w g t B) (hfit : off + n ≤ B.length)
    (hk : ∀ w', Buf w' g t (B.take off ++ List.replicate n 0 ++ B.drop (off + n)) → w.grownBy w' (some g) → wpList Tryd.prog ops Q rest (a.put o.dst (.tuple #[])) w') : wpList Tryd.prog ops Q (o :: rest) a w :=
  wpList_plain hgd fun _ hK => wp_clear_buf x ho ad off n c hx had hb hfit fun w' h2 h3 => hK _ _ (hk w' h2 h3)

/-- copy(buf[off:], ys). -/
theorem wp_copy_buf {K : Act → World → Prop} (d s : Operand) (ho : o.op = .call { callee := .builtin .copy, args := #[d, s], argTypes := #[87, 87] })
    (off dl dc : Nat) (hd : a.eval d = .slice (some ⟨g, off, none⟩) dl dc) (A : Option Addr) (n c : Nat) (ys : List UInt8) (hs : a.eval s = .slice A n c) (hn : ys.length = n) (hpos : 0 < n) (hr : Cells w A (bv ys))
    (hb : Buf w g t B) (hfit : off + dl ≤ B.length) (m : Nat) (hm : m = min n dl)
    (hk : ∀ w', Buf w' g t (B.take off ++ ys.take m ++ B.drop (off + m)) → w.grownBy w' (some g) → K (a.put o.dst (.int .i64 m)) w') : o.wp Tryd.prog a w K Q := by
  obtain ⟨x, rfl, _⟩ := hr 0 _ (bv_get (show 0 < ys.length by omega))
  have hl : (bv (ys.take m)).length = m := by rw [bv_len, List.length_take, hn]; omega
  have hrun := run_copy_row (P := Tryd.prog) w 87 87 o.type 5 g off dl dc x n c (bv B).toArray t (bv (ys.take m)) Tryd.underlying87 (by kernel_rfl) hb (by rw [hl, hm])
    (fun j v hv => by
      rw [← bv_take] at hv
      obtain ⟨y, e, hc⟩ := (hr.take m) j v hv
      cases e
      exact hc) (by rw [hl, List.size_toArray, bv_len]; omega) (bv_cells _)
  rw [hl] at hrun
  unfold Oper.wp execOp
  simp only [ho, resolve, invoke, builtin, Sem.run_bind, Sem.run_pure, Result.andThen_ok, List.map_toArray, List.map_cons, List.map_nil, hd, hs, hrun]
  refine hk _ ?_ ⟨rfl, rfl, rfl, by simp, fun k _ hne => setRow_other w g k _ (fun e => hne (by rw [e]))⟩
  rw [bv_take, bv_drop, bv_cat, bv_cat]
  exact Blk.row hb _
theorem wpList_copy_buf (hgd : o.guard = none) (d s : Operand) (ho : o.op = .call { callee := .builtin .copy, args := #[d, s], argTypes := #[87, 87] })
    (off dl dc : Nat) (hd : a.eval d = .slice (some ⟨g, off, none⟩) dl dc) (A : Option Addr) (n c : Nat) (ys : List UInt8) (hs : a.eval s = .slice A n c) (hn : ys.length = n) (hpos : 0 < n) (hr : Cells w A (bv ys))
    (hb : Buf w g t B) (hfit : off + dl ≤ B.length) (m : Nat) (hm : m = min n dl)
    (hk : ∀ w', Buf w' g t (B.take off ++ ys.take m ++ B.drop (off + m)) → w.grownBy w' (some g) → wpList Tryd.prog ops Q rest (a.put o.dst (.int .i64 m)) w') : wpList Tryd.prog ops Q (o :: rest) a w :=
  wpList_plain hgd fun _ hK => wp_copy_buf d s ho off dl dc hd A n c ys hs hn hpos hr hb hfit m hm fun w' h2 h3 => hK _ _ (hk w' h2 h3)
end

/-- arr[k:] of an array of one-celled parts. -/
theorem run_slice_arr {P : Program} (w : World) (t e : TypeId) (n : Nat) (ht : P.underlying t = some (.array n e)) (hs : (P.info? e).map (·.size) = some 1) (g k : Nat) (hk : k < n) (kk : IntKind) :
    (Instr.sliceAt t (.pointer (some ⟨g, 0, none⟩)) (some (.int kk k)) none none).run P w = .ok (.slice (some ⟨g, k, none⟩) (n - k) (n - k)) w := by
  cases hq : P.info? e with
  | none => simp [hq] at hs
  | some i =>
    have hi : i.size = 1 := by simpa [hq] using hs
    have h0 : (0 : Int) ≤ (k : Int) ∧ (k : Int) ≤ (n : Int) := by omega
    have h1 : ¬ n = k := by omega
    simp [Instr.sliceAt, Instr.sliceBounds, Instr.sliceBound, Instr.sureAddr, asIntOf, run_underlying ht, sizeOf, typeInfo, hq, hi, h0, h1, add_new]
    exact fun h => absurd h (by omega)

theorem run_slice_arr_le {P : Program} (w : World) (t e : TypeId) (n : Nat) (ht : P.underlying t = some (.array n e)) (hs : (P.info? e).map (·.size) = some 1) (g k : Nat) (hk : k ≤ n) (kk : IntKind) :
    (Instr.sliceAt t (.pointer (some ⟨g, 0, none⟩)) (some (.int kk k)) none none).run P w = .ok (.slice (some (if n = k then ⟨g, 0, none⟩ else ⟨g, k, none⟩)) (n - k) (n - k)) w := by
  cases hq : P.info? e with
  | none => simp [hq] at hs
  | some i =>
    have hi : i.size = 1 := by simpa [hq] using hs
    have h0 : (0 : Int) ≤ (k : Int) ∧ (k : Int) ≤ (n : Int) := by omega
    simp [Instr.sliceAt, Instr.sliceBounds, Instr.sliceBound, Instr.sureAddr, asIntOf, run_underlying ht, sizeOf, typeInfo, hq, hi, h0, add_new]
    exact fun h => absurd h (by omega)

theorem set_clear (B : List UInt8) (n t : Nat) (c : UInt8) (hB : B.length = n) (ht : t < n) : (B.set t c).take (t + 1) ++ List.replicate (n - 1 - t) 0 ++ (B.set t c).drop (t + 1 + (n - 1 - t)) = B.take t ++ c :: List.replicate (n - 1 - t) 0 := by
  have hd : (B.set t c).drop (t + 1 + (n - 1 - t)) = [] := List.drop_of_length_le (by rw [List.length_set]; omega)
  rw [hd, List.append_nil, List.take_succ_eq_append_getElem (by rw [List.length_set]; omega), List.getElem_set_self, List.take_set_of_le (Nat.le_refl _), List.append_assoc, List.singleton_append]

theorem bv_range (B : List UInt8) (n : Nat) (hB : B.length = n) : (bv B).toArray = ((List.range n).map fun j => Value.int .u8 (B.getD j 0).toNat).toArray := by
  congr 1
  apply List.ext_getElem?
  intro j
  rw [List.getElem?_map]
  by_cases hj : j < n
  · rw [bv_get (by omega), List.getElem?_range hj]
    simp [List.getD_eq_getElem?_getD, List.getElem?_eq_getElem (show j < B.length by omega)]
  · rw [List.getElem?_eq_none (by rw [bv_len]; omega), List.getElem?_eq_none (by rw [List.length_range]; omega)]
    rfl
theorem upTo_same {n k : Nat} {f z : Nat → Value} (h : ∀ j, j < k → f j = z j) : upTo n k f z = ((List.range n).map z).toArray := by
  unfold upTo
  congr 1
  apply List.map_congr_left
  intro j _
  by_cases hj : j < k
  · rw [if_pos hj]; exact h j hj
  · rw [if_neg hj]

section
variable {P : Program} {ops : Array Oper} {C : World → Prop} {Q : Act → Prop} {a : Act} {o : Oper} {rest : List Oper}
/-- x[k:] in a region that only reads. -/
theorem quiet_slice_from (hgd : o.guard = none) (t e : TypeId) (x y : Operand) (ho : o.op = .slice t x (some y) none none) (ht : P.underlying t = some (.slice e)) (sz : Nat) (hs : (P.info? e).map (·.size) = some sz)
    (A : Option Addr) (n c k : Nat) (kk : IntKind) (hx : a.eval x = .slice A n c) (hy : a.eval y = .int kk k) (hk : k ≤ n) (hc : n ≤ c) (w : World) {cs : List Value} (h : Cells w A cs) (hcs : cs.length = n * sz)
    (hK : ∀ A', Cells w A' (cs.drop (k * sz)) → Same A A' → wpQuiet P ops C Q rest (a.put o.dst (.slice A' (n - k) (c - k)))) : wpQuiet P ops C Q (o :: rest) a := by
  obtain ⟨h1, h2⟩ := cut_cells (c := c) (k := k) h hcs hk hc
  refine wpQuiet_step fun K hK' => ?_
  have hw : Region.wanted o (yielded ops a.tmps) = true := by simp [Region.wanted, hgd]
  rw [if_pos hw]
  refine ⟨_, fun w9 _ => ?_, hK' _ (hK _ h1 h2)⟩
  have hr := run_slice_from (P := P) (w := w9) t e ht sz hs A n c k hk hc kk
  unfold Oper.quietAt execOp
  simp only [ho, hx, hy, Option.map_some, Option.map_none, Sem.run_bind, hr, Result.andThen_ok, Sem.run_pure, Oper.quietUpon]
  exact ⟨trivial, trivial⟩
end
end Go.Proofs.YtcnhbodemabbdaaDoor

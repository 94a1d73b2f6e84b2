/- append onto a row of the call's own, from whatever source; rows of bytes, of strings, of integers. -/
import Derived.Test.YtcnhbodemabbdaaDoorQ01
import Derived.Maps.AppendAt
import Derived.Deep.AppendLies
import Derived.OwnWalk
import Derived.Lib.AppendStr
import Derived.RegionTactic
namespace Go.Proofs.YtcnhbodemabbdaaDoor
open Go.RowKit
set_option linter.unusedVariables false

theorem own_lt {w : World} {base : Nat} {e : TypeId} {size n : Nat} {v : Value} {xs : List Value} (h : w.ownsRow base e size v n xs) {k : Nat} (hk : v.ownBlock = some k) : base ≤ k ∧ k < w.heap.size := h.lt k hk

/-- What grew by one own row is still an extension of the start. -/
theorem Ext.grown {w0 w w' : World} {e : TypeId} {size n : Nat} {v : Value} {xs : List Value} (h : Ext w0 w) (ho : w.ownsRow w0.heap.size e size v n xs) (hg : w.grownBy w' v.ownBlock) : Ext w0 w' :=
  Below.grown h hg h.size (fun k hk => (own_lt ho hk).1)

theorem own_ext {w w' : World} {base : Nat} {e : TypeId} {size n : Nat} {v : Value} {xs : List Value} (h : w.ownsRow base e size v n xs) (k : Ext w w') : w'.ownsRow base e size v n xs := by
  refine ⟨h.1, ?_⟩
  rcases h.2 with hn | ⟨g, cap, cur, rfl, hb, hgg, rest⟩
  · exact .inl hn
  · exact .inr ⟨g, cap, cur, rfl, hb, (k.block g (Array.getElem?_eq_some_iff.1 hgg).1).trans hgg, rest⟩

theorem own_lower {w : World} {base base' : Nat} {e : TypeId} {size n : Nat} {v : Value} {xs : List Value} (h : w.ownsRow base e size v n xs) (hb : base' ≤ base) : w.ownsRow base' e size v n xs := by
  refine ⟨h.1, ?_⟩
  rcases h.2 with hn | ⟨g, cap, cur, rfl, hbb, rest⟩
  · exact .inl hn
  · exact .inr ⟨g, cap, cur, rfl, Nat.le_trans hb hbb, rest⟩

theorem own_form {w : World} {base : Nat} {e : TypeId} {size n : Nat} {v : Value} {xs : List Value} (h : w.ownsRow base e size v n xs) (hs : 0 < size) : ∃ A c, v = .slice A n c ∧ n ≤ c ∧ c ≤ maxLen ∧ Cells w A xs := by
  rcases h.2 with ⟨rfl, rfl⟩ | ⟨g, cap, cur, rfl, hb, hgg, hn, hm, hcs, ht⟩
  · refine ⟨none, 0, rfl, Nat.le_refl _, by simp, ?_⟩
    have : xs = [] := List.eq_nil_of_length_eq_zero (by simpa using h.1)
    subst this
    exact Cells.nil _ _
  · exact ⟨some ⟨g, 0, none⟩, cap, rfl, hn, hm, fun i u hu => ⟨_, rfl, h.cells (g := g) rfl i u hu⟩⟩

/-- A literal's row. -/
theorem own_lit {w : World} {base : Nat} {e : TypeId} {size n : Nat} (C : Array Value) (hb : base ≤ w.heap.size) (hn : n ≤ maxLen) (hs : C.size = n * size) :
    (w.alloc (.cells C e)).ownsRow base e size (.slice (some ⟨w.heap.size, 0, none⟩) n n) n C.toList :=
  ⟨by simpa using hs, .inr ⟨w.heap.size, n, C, rfl, hb, heap_alloc_new w _, Nat.le_refl _, hn, hs, by rw [← hs]; simp [List.take_of_length_le]⟩⟩

theorem Cells.grown {w w' : World} {A : Option Addr} {cs : List Value} (h : Cells w A cs) {row : Option Nat} (hg : w.grownBy w' row) (hne : ∀ x, A = some x → some x.block ≠ row) : Cells w' A cs := by
  intro i v hv
  obtain ⟨x, rfl, hc⟩ := h i v hv
  refine ⟨x, rfl, hg.cell hc ?_⟩
  have : (x.add i).block = x.block := by unfold Addr.add; split <;> rfl
  rw [this]
  exact hne x rfl

/-- Cells that lay below the row's base outlive the row's growing. -/
theorem Cells.grown_old {w0 w w' : World} {A : Option Addr} {cs : List Value} (h : Cells w0 A cs) {row : Option Nat} (k : Ext w0 w) (hg : w.grownBy w' row) (hr : ∀ j, row = some j → w0.heap.size ≤ j) : Cells w' A cs :=
  h.ext (Below.grown k hg k.size hr)

section
variable {P : Program} (w : World)

theorem run_append (base : Nat) (t ty e : TypeId) (i : TypeInfo) (z : Value) (size bytes : Nat) (ht : P.underlying t = some (.slice e)) (hi : P.info? e = some i) (hz : i.zero = some z)
    (hsize : i.size = size) (hby : i.bytes = bytes) (hzs : z.cells.size = size) (hsz : 0 < size)
    (v : Value) (n : Nat) (xs : List Value) (hown : w.ownsRow base e size v n xs)
    (A : Option Addr) (m c : Nat) (news : List Value) (hl : news.length = m * size) (hr : Cells w A news) (h1 : ∀ u ∈ news, u.oneCell' = true)
    (h63 : n + m ≤ maxLen) (hbytes : (n + m) * bytes ≤ 140737488355328) (hbase : base ≤ w.heap.size) :
    ∃ v' w', (Builtin.append_ #[t, t] ty #[v, .slice A m c]).run P w = .ok v' w' ∧ w'.ownsRow base e size v' (n + m) (xs ++ news) ∧ w.grownBy w' v.ownBlock ∧
      (v'.ownBlock = v.ownBlock ∨ v'.ownBlock = some w.heap.size) := by
  rcases Nat.eq_zero_or_pos m with h0 | h0
  · subst h0
    have hn : news = [] := List.eq_nil_of_length_eq_zero (by simpa using hl)
    subst hn
    rcases A with _ | ad
    · refine ⟨v, w, ?_, by simpa using hown, World.grownBy.refl w _, .inl rfl⟩
      rcases hown.2 with ⟨rfl, rfl⟩ | ⟨g, cap, cur, rfl, _, _, hnc, _⟩
      · simp [Builtin.append_, run_underlying ht, sizeOf, typeInfo, hi, Builtin.lenOf, Builtin.firstCells]
      · simp [Builtin.append_, run_underlying ht, sizeOf, typeInfo, hi, Builtin.lenOf, Builtin.firstCells, hnc, storeCells]
    · obtain ⟨v', w', hrun, h2, h3, _, h5⟩ := run_append_own_at (P := P) w base t ty e i z size bytes ht hi hz hsize hby hzs hsz v n xs hown ad 0 c [] (by simp) (by simp) (by simp) h63 hbytes hbase
      exact ⟨v', w', hrun, h2, h3, h5⟩
  · have hne : 0 < news.length := by rw [hl]; exact Nat.mul_pos h0 hsz
    obtain ⟨ad, rfl, _⟩ := hr 0 _ (List.getElem?_eq_getElem hne)
    obtain ⟨v', w', hrun, h2, h3, _, h5⟩ := run_append_own_at (P := P) w base t ty e i z size bytes ht hi hz hsize hby hzs hsz v n xs hown ad m c news hl
      (fun j u hu => by obtain ⟨x, hx, hc⟩ := hr j u hu; cases hx; exact hc) h1 h63 hbytes hbase
    exact ⟨v', w', hrun, h2, h3, h5⟩

theorem wp_append {o : Oper} {a : Act} {K : Act → World → Prop} {Q : Exit → Act → World → Prop} (s x : Operand) (t : TypeId)
    (ho : o.op = .call { callee := .builtin .append, args := #[s, x], argTypes := #[t, t] })
    (base : Nat) (e : TypeId) (z : Value) (size bytes : Nat) (ht : P.underlying t = some (.slice e)) (hi : (P.info? e).map (fun i => (i.zero, i.size, i.bytes)) = some (some z, size, bytes))
    (hzs : z.cells.size = size) (hsz : 0 < size)
    (v : Value) (n : Nat) (xs : List Value) (hs : a.eval s = v) (hown : w.ownsRow base e size v n xs)
    (A : Option Addr) (m c : Nat) (news : List Value) (hx : a.eval x = .slice A m c) (hl : news.length = m * size) (hr : Cells w A news) (h1 : ∀ u ∈ news, u.oneCell' = true)
    (h63 : n + m ≤ maxLen) (hbytes : (n + m) * bytes ≤ 140737488355328) (hbase : base ≤ w.heap.size)
    (h : ∀ v' w', w'.ownsRow base e size v' (n + m) (xs ++ news) → w.grownBy w' v.ownBlock → (v'.ownBlock = v.ownBlock ∨ v'.ownBlock = some w.heap.size) → K (a.put o.dst v') w') : o.wp P a w K Q := by
  obtain ⟨i, hi0, hz, hsize, hby⟩ := info_parts hi
  obtain ⟨v', w', hrun, h2, h3, h4⟩ := run_append (P := P) w base t o.type e i z size bytes ht hi0 hz hsize hby hzs hsz v n xs hown A m c news hl hr h1 h63 hbytes hbase
  unfold Oper.wp execOp
  simp only [ho, resolve, invoke, builtin, Sem.run_bind, Sem.run_pure, Result.andThen_ok, List.map_toArray, List.map_cons, List.map_nil, hs, hx, hrun]
  exact h v' w' h2 h3 h4
end

/-- A row of bytes of the call's own. -/
def Own (B : Nat) (w : World) (v : Value) (bs : List UInt8) : Prop := w.ownsRow B 5 1 v bs.length (bv bs)

theorem bv_length (bs : List UInt8) : (bv bs).length = bs.length := by simp [bv]
theorem bv_append (a b : List UInt8) : bv (a ++ b) = bv a ++ bv b := by simp [bv]
theorem bv_one (bs : List UInt8) : ∀ u ∈ bv bs, u.oneCell' = true := by
  intro u hu
  obtain ⟨c, _, rfl⟩ := List.mem_map.1 hu
  rfl

section
variable {B : Nat} {w w' w0 : World} {v : Value} {bs : List UInt8}
theorem Own.nil (B : Nat) (w : World) : Own B w (.slice none 0 0) [] := World.ownsRow_nil w B _ 1
theorem Own.form (h : Own B w v bs) : ∃ A c, v = .slice A bs.length c ∧ bs.length ≤ c ∧ c ≤ maxLen ∧ Cells w A (bv bs) := own_form h (by decide)
theorem Own.reads (h : Own B w v bs) : BS w v bs := let ⟨A, c, e, l, _, hc⟩ := h.form; ⟨A, c, e, l, hc⟩
theorem Own.cells {A : Option Addr} {n c : Nat} (h : Own B w (.slice A n c) bs) : Cells w A (bv bs) := by
  obtain ⟨A', c', e, _, _, hc⟩ := h.form
  injection e with e1
  rw [e1]
  exact hc
theorem Own.ext (h : Own B w v bs) (k : Ext w w') : Own B w' v bs := own_ext h k
theorem Own.lower {B' : Nat} (h : Own B w v bs) (hb : B' ≤ B) : Own B' w v bs := own_lower h hb
theorem Own.lt (h : Own B w v bs) {k : Nat} (hk : v.ownBlock = some k) : B ≤ k ∧ k < w.heap.size := own_lt h hk
theorem Own.grows (h : Own w0.heap.size w v bs) (k : Ext w0 w) (hg : w.grownBy w' v.ownBlock) : Ext w0 w' := k.grown h hg
theorem Own.other (h : Own B w v bs) {row : Option Nat} (hg : w.grownBy w' row) (hne : v.ownBlock = none ∨ v.ownBlock ≠ row) : Own B w' v bs := World.ownsRow.kept h hg hne
/-- A literal []byte{..}. -/
theorem Own.lit {w : World} (bs : List UInt8) (C : Array Value) (hC : C.toList = bv bs) (hb : B ≤ w.heap.size) (hn : bs.length ≤ maxLen) : Own B (w.alloc (.cells C 5)) (.slice (some ⟨w.heap.size, 0, none⟩) bs.length bs.length) bs := by
  have hs : C.size = bs.length * 1 := by rw [← Array.length_toList, hC, bv_length, Nat.mul_one]
  have h := own_lit (e := 5) C hb hn hs
  unfold Own
  rw [← hC]
  exact h
end

theorem Own.form_at {B : Nat} {w : World} {v : Value} {bs : List UInt8} {n : Nat} (h : Own B w v bs) (hn : bs.length = n) : ∃ A c, v = .slice A n c ∧ n ≤ c ∧ c ≤ maxLen ∧ Cells w A (bv bs) := by
  subst hn; exact h.form
theorem Own.ne {B : Nat} {w : World} {A : Option Addr} {n c : Nat} {bs : List UInt8} (h : Own B w (.slice A n c) bs) : ∀ x, A = some x → B ≤ x.block ∧ x.block < w.heap.size := by
  intro x hx
  subst hx
  exact h.lt rfl

section
variable {B : Nat} {w w' : World} {v : Value} {bs : List UInt8} {g n c : Nat}
theorem Own.some_ (h : Own B w v bs) (hk : 0 < bs.length) : ∃ g c, v = .slice (some ⟨g, 0, none⟩) bs.length c ∧ B ≤ g ∧ g < w.heap.size ∧ bs.length ≤ c := by
  rcases h.2 with ⟨rfl, h0⟩ | ⟨g, cap, cur, rfl, hb, hgg, hn, _⟩
  · omega
  · exact ⟨g, cap, rfl, hb, (Array.getElem?_eq_some_iff.1 hgg).1, hn⟩
theorem Own.cell (h : Own B w (.slice (some ⟨g, 0, none⟩) bs.length c) bs) {k : Nat} (hk : k < bs.length) : w.cell? ⟨g, k, none⟩ = some (.int .u8 bs[k].toNat) := by
  rw [World.ownsRow.cellAt h k (by omega), bv_get hk]
theorem Own.frozen (h : Own B w (.slice (some ⟨g, 0, none⟩) bs.length c) bs) (k : Nat) : w.frozen? ⟨g, k, none⟩ = false := World.ownsRow.frozenAt h k
theorem Own.set (h : Own B w (.slice (some ⟨g, 0, none⟩) bs.length c) bs) (k : Nat) (x : UInt8) :
    Own B (w.setCell ⟨g, k, none⟩ (.int .u8 x.toNat)) (.slice (some ⟨g, 0, none⟩) bs.length c) (bs.set k x) ∧ w.grownBy (w.setCell ⟨g, k, none⟩ (.int .u8 x.toNat)) (some g) := by
  obtain ⟨h1, h2⟩ := World.ownsRow.stored h k (.int .u8 x.toNat)
  refine ⟨?_, h2⟩
  unfold Own
  have : bv (bs.set k x) = (bv bs).set k (.int .u8 x.toNat) := by simp [bv, List.map_set]
  rw [this, List.length_set]
  exact h1
end

theorem u8_info : (Tryd.prog.info? 5).map (fun i => (i.zero, i.size, i.bytes)) = some (some (.int .u8 0), 1, 1) := by kernel_rfl

/-- append(dst, src...) on bytes, dst the call's own. -/
theorem wp_append_u8 (w : World) {o : Oper} {a : Act} {K : Act → World → Prop} {Q : Exit → Act → World → Prop} (s x : Operand)
    (ho : o.op = .call { callee := .builtin .append, args := #[s, x], argTypes := #[87, 87] })
    (B : Nat) (v : Value) (xs : List UInt8) (hs : a.eval s = v) (hown : Own B w v xs)
    (A : Option Addr) (m c : Nat) (ys : List UInt8) (hx : a.eval x = .slice A m c) (hm : ys.length = m) (hr : Cells w A (bv ys))
    (hlen : xs.length + m ≤ 140737488355328) (hbase : B ≤ w.heap.size)
    (h : ∀ v' w', Own B w' v' (xs ++ ys) → w.grownBy w' v.ownBlock → (v'.ownBlock = v.ownBlock ∨ v'.ownBlock = some w.heap.size) → K (a.put o.dst v') w') : o.wp Tryd.prog a w K Q := by
  subst hm
  refine wp_append w s x 87 ho B 5 (.int .u8 0) 1 1 Tryd.underlying87 u8_info rfl (by decide) v xs.length (bv xs) hs hown A ys.length c (bv ys) hx
    (by rw [bv_length, Nat.mul_one]) hr (bv_one ys) (by simp only [maxLen]; omega) (by omega) hbase ?_
  intro v' w' ho' hg hat
  refine h v' w' ?_ hg hat
  unfold Own
  rw [bv_append, List.length_append]
  exact ho'

theorem wpList_append_u8 (w : World) {ops : Array Oper} {rest : List Oper} {o : Oper} {a : Act} {Q : Exit → Act → World → Prop} (hgd : o.guard = none) (s x : Operand)
    (ho : o.op = .call { callee := .builtin .append, args := #[s, x], argTypes := #[87, 87] })
    (B : Nat) (v : Value) (xs : List UInt8) (hs : a.eval s = v) (hown : Own B w v xs)
    (A : Option Addr) (m c : Nat) (ys : List UInt8) (hx : a.eval x = .slice A m c) (hm : ys.length = m) (hr : Cells w A (bv ys))
    (hlen : xs.length + m ≤ 140737488355328) (hbase : B ≤ w.heap.size)
    (h : ∀ v' w', Own B w' v' (xs ++ ys) → w.grownBy w' v.ownBlock → (v'.ownBlock = v.ownBlock ∨ v'.ownBlock = some w.heap.size) → wpList Tryd.prog ops Q rest (a.put o.dst v') w') : wpList Tryd.prog ops Q (o :: rest) a w :=
  wpList_plain hgd fun _ hK => wp_append_u8 w s x ho B v xs hs hown A m c ys hx hm hr hlen hbase fun v' w' h2 h3 h4 => hK _ _ (h v' w' h2 h3 h4)


section
variable {P : Program} (w : World)

/-- append onto a slice without spare room, of something: a row of the call's own. -/
theorem run_append_clip (base : Nat) (t ty e : TypeId) (i : TypeInfo) (z : Value) (size bytes : Nat) (ht : P.underlying t = some (.slice e)) (hi : P.info? e = some i) (hz : i.zero = some z)
    (hsize : i.size = size) (hby : i.bytes = bytes) (hzs : z.cells.size = size) (hsz : 0 < size)
    (A : Option Addr) (n : Nat) (xs : List Value) (hxl : xs.length = n * size) (hx : Cells w A xs)
    (C : Option Addr) (m c : Nat) (news : List Value) (hm : 0 < m) (hl : news.length = m * size) (hr : Cells w C news) (h1 : ∀ u ∈ news, u.oneCell' = true)
    (h63 : n + m ≤ maxLen) (hbytes : (n + m) * bytes ≤ 140737488355328) (hbase : base ≤ w.heap.size) (hA : A = none → n = 0) :
    ∃ v' w', (Builtin.append_ #[t, t] ty #[.slice A n n, .slice C m c]).run P w = .ok v' w' ∧ w'.ownsRow base e size v' (n + m) (xs ++ news) ∧ w.grownBy w' none ∧ v'.ownBlock = some w.heap.size := by
  have hne : 0 < news.length := by rw [hl]; exact Nat.mul_pos hm hsz
  obtain ⟨ad, rfl, _⟩ := hr 0 _ (List.getElem?_eq_getElem hne)
  have hcells : ∀ j u, news[j]? = some u → w.cell? (ad.add j) = some u := fun j u hu => by obtain ⟨x, hx, hc⟩ := hr j u hu; cases hx; exact hc
  cases A with
  | none =>
    have := hA rfl
    subst this
    have hx0 : xs = [] := List.eq_nil_of_length_eq_zero (by simpa using hxl)
    subst hx0
    obtain ⟨v', w', hrun, h2, h3, _, h5⟩ := run_append_own_at (P := P) w base t ty e i z size bytes ht hi hz hsize hby hzs hsz (.slice none 0 0) 0 [] (World.ownsRow_nil w base e size) ad m c news hl hcells h1 h63 hbytes hbase
    refine ⟨v', w', hrun, h2, h3, ?_⟩
    rcases h5 with h5 | h5
    · rcases h2.2 with ⟨_, h0⟩ | ⟨g, cap, cur, rfl, _⟩
      · omega
      · simp [Value.ownBlock] at h5
    · exact h5
  | some b =>
    subst hsize
    subst hby
    have hold : ∀ j v, xs[j]? = some v → w.cell? (b.add j) = some v := fun j u hu => by obtain ⟨x, hx, hc⟩ := hx j u hu; cases hx; exact hc
    have hr := run_append_grow (P := P) w t ty e i z ht hi hz b n n xs hxl hold ad m c news hl hcells (by omega) (by simp only [maxLen] at h63; omega) (by
      have := nextslicecap_le (need := n + m) (old := n) (by omega)
      calc Builtin.nextslicecap (n + m) n * i.bytes ≤ 2 * (n + m) * i.bytes := Nat.mul_le_mul_right _ this
        _ = 2 * ((n + m) * i.bytes) := by rw [Nat.mul_assoc]
        _ ≤ _ := by omega)
    have hge := grownCap_ge w (n + m) n e
    have hcm : grownCap w (n + m) n e ≤ maxLen := grownCap_le_maxLen w (n + m) n e h63
    have hlen : (xs ++ news).length = (n + m) * i.size := by rw [List.length_append, hxl, hl, Nat.add_mul]
    refine ⟨_, _, hr, ⟨hlen, .inr ⟨w.heap.size, _, _, rfl, hbase, heap_alloc_new w.drew _, hge, hcm, ?_, ?_⟩⟩, ⟨rfl, rfl, rfl, by simp, fun k hk _ => Below.heap_alloc w.drew _ k hk⟩, rfl⟩
    · simp only [Array.size_append, List.size_toArray, size_zeroCells, hzs, hxl, hl, ← Nat.add_mul]
      congr 1
      omega
    · simp only [Array.toList_append, List.append_assoc]
      rw [← List.append_assoc, ← hlen]
      exact List.take_left
end

/-- A slice of bytes onto which may be appended without turning what was there: one of the call's own, or one without spare room. -/
def Tail (B : Nat) (w : World) (v : Value) (bs : List UInt8) : Prop :=
  Own B w v bs ∨ ∃ A, v = .slice A bs.length bs.length ∧ Cells w A (bv bs)

theorem Own.tail {B : Nat} {w : World} {v : Value} {bs : List UInt8} (h : Own B w v bs) : Tail B w v bs := .inl h
theorem Tail.clip {B : Nat} {w : World} {A : Option Addr} {n : Nat} {bs : List UInt8} (hn : bs.length = n) (h : Cells w A (bv bs)) : Tail B w (.slice A n n) bs := by
  subst hn; exact .inr ⟨A, rfl, h⟩
theorem Tail.form {B : Nat} {w : World} {v : Value} {bs : List UInt8} (h : Tail B w v bs) : ∃ A c, v = .slice A bs.length c ∧ bs.length ≤ c ∧ Cells w A (bv bs) := by
  rcases h with h | ⟨A, rfl, hc⟩
  · obtain ⟨A, c, e, l, _, hc⟩ := h.form
    exact ⟨A, c, e, l, hc⟩
  · exact ⟨A, _, rfl, Nat.le_refl _, hc⟩
theorem Tail.ext {B : Nat} {w w' : World} {v : Value} {bs : List UInt8} (h : Tail B w v bs) (k : Ext w w') : Tail B w' v bs := by
  rcases h with h | ⟨A, rfl, hc⟩
  · exact .inl (h.ext k)
  · exact .inr ⟨A, rfl, hc.ext k⟩

/-- What may have been written: a row from B on, and new blocks. -/
def Above (B : Nat) (w w' : World) : Prop := ∃ row, w.grownBy w' row ∧ ∀ k, row = some k → B ≤ k
theorem Above.ext {w0 w w' : World} (h : Above w0.heap.size w w') (k : Ext w0 w) : Ext w0 w' := let ⟨_, hg, hr⟩ := h; Below.grown k hg k.size hr
theorem Above.size {B : Nat} {w w' : World} (h : Above B w w') : w.heap.size ≤ w'.heap.size := let ⟨_, hg, _⟩ := h; hg.size

/-- append(dst, src...) on bytes, src not empty. -/
theorem wp_append_tail (w : World) {o : Oper} {a : Act} {K : Act → World → Prop} {Q : Exit → Act → World → Prop} (s x : Operand)
    (ho : o.op = .call { callee := .builtin .append, args := #[s, x], argTypes := #[87, 87] })
    (B : Nat) (v : Value) (xs : List UInt8) (hs : a.eval s = v) (hown : Tail B w v xs)
    (A : Option Addr) (m c : Nat) (ys : List UInt8) (hx : a.eval x = .slice A m c) (hm : ys.length = m) (hpos : 0 < m) (hr : Cells w A (bv ys))
    (hlen : xs.length + m ≤ 140737488355328) (hbase : B ≤ w.heap.size)
    (h : ∀ v' w', Own B w' v' (xs ++ ys) → Above B w w' → K (a.put o.dst v') w') : o.wp Tryd.prog a w K Q := by
  rcases hown with hown | ⟨A0, rfl, hc⟩
  · exact wp_append_u8 w s x ho B v xs hs hown A m c ys hx hm hr hlen hbase fun v' w' h1 h2 _ => h v' w' h1 ⟨_, h2, fun k hk => (hown.lt hk).1⟩
  · subst hm
    obtain ⟨i, hi0, hz, hsize, hby⟩ := info_parts u8_info
    have hA0 : A0 = none → xs.length = 0 := by
      intro e
      subst e
      rcases Nat.eq_zero_or_pos xs.length with h0 | h0
      · exact h0
      · obtain ⟨y, hy, _⟩ := hc 0 _ (bv_get h0)
        cases hy
    obtain ⟨v', w', hrun, h2, h3, _⟩ := run_append_clip (P := Tryd.prog) w B 87 o.type 5 i (.int .u8 0) 1 1 Tryd.underlying87 hi0 hz hsize hby rfl (by decide) A0 xs.length (bv xs) (by rw [bv_length, Nat.mul_one]) hc
      A ys.length c (bv ys) hpos (by rw [bv_length, Nat.mul_one]) hr (bv_one ys) (by simp only [maxLen]; omega) (by omega) hbase hA0
    unfold Oper.wp execOp
    simp only [ho, resolve, invoke, builtin, Sem.run_bind, Sem.run_pure, Result.andThen_ok, List.map_toArray, List.map_cons, List.map_nil, hs, hx, hrun]
    refine h v' w' ?_ ⟨none, h3, fun k hk => by cases hk⟩
    unfold Own
    rw [bv_append, List.length_append]
    exact h2

theorem wpList_append_tail (w : World) {ops : Array Oper} {rest : List Oper} {o : Oper} {a : Act} {Q : Exit → Act → World → Prop} (hgd : o.guard = none) (s x : Operand)
    (ho : o.op = .call { callee := .builtin .append, args := #[s, x], argTypes := #[87, 87] })
    (B : Nat) (v : Value) (xs : List UInt8) (hs : a.eval s = v) (hown : Tail B w v xs)
    (A : Option Addr) (m c : Nat) (ys : List UInt8) (hx : a.eval x = .slice A m c) (hm : ys.length = m) (hpos : 0 < m) (hr : Cells w A (bv ys))
    (hlen : xs.length + m ≤ 140737488355328) (hbase : B ≤ w.heap.size)
    (h : ∀ v' w', Own B w' v' (xs ++ ys) → Above B w w' → wpList Tryd.prog ops Q rest (a.put o.dst v') w') : wpList Tryd.prog ops Q (o :: rest) a w :=
  wpList_plain hgd fun _ hK => wp_append_tail w s x ho B v xs hs hown A m c ys hx hm hpos hr hlen hbase fun v' w' h2 h3 => hK _ _ (h v' w' h2 h3)

/-- append(dst, s...) on bytes, s a string, dst the call's own. -/
theorem wp_append_str (w : World) {o : Oper} {a : Act} {K : Act → World → Prop} {Q : Exit → Act → World → Prop} (s x : Operand)
    (ho : o.op = .call { callee := .builtin .append, args := #[s, x], argTypes := #[87, 9] })
    (B : Nat) (v : Value) (xs : List UInt8) (hs : a.eval s = v) (hown : Own B w v xs) (y : ByteArray) (hx : a.eval x = .string y)
    (hlen : xs.length + y.size ≤ 140737488355328) (hbase : B ≤ w.heap.size)
    (h : ∀ v' w', Own B w' v' (xs ++ y.data.toList) → w.grownBy w' v.ownBlock → K (a.put o.dst v') w') : o.wp Tryd.prog a w K Q := by
  obtain ⟨i, hi0, hz, hsize, hby⟩ := info_parts u8_info
  obtain ⟨v', w', hrun, h2, h3, _⟩ := Lib.run_append_own_string (P := Tryd.prog) w B 87 9 o.type 5 i Tryd.underlying87 Tryd.underlying9 hi0 hz hsize hby v xs.length (bv xs) hown y (by simp only [maxLen]; omega) hlen hbase
  unfold Oper.wp execOp
  simp only [ho, resolve, invoke, builtin, Sem.run_bind, Sem.run_pure, Result.andThen_ok, List.map_toArray, List.map_cons, List.map_nil, hs, hx, hrun]
  refine h v' w' ?_ h3
  unfold Own
  rw [bv_append, List.length_append, str_len]
  exact h2

theorem wpList_append_str (w : World) {ops : Array Oper} {rest : List Oper} {o : Oper} {a : Act} {Q : Exit → Act → World → Prop} (hgd : o.guard = none) (s x : Operand)
    (ho : o.op = .call { callee := .builtin .append, args := #[s, x], argTypes := #[87, 9] })
    (B : Nat) (v : Value) (xs : List UInt8) (hs : a.eval s = v) (hown : Own B w v xs) (y : ByteArray) (hx : a.eval x = .string y)
    (hlen : xs.length + y.size ≤ 140737488355328) (hbase : B ≤ w.heap.size)
    (h : ∀ v' w', Own B w' v' (xs ++ y.data.toList) → w.grownBy w' v.ownBlock → wpList Tryd.prog ops Q rest (a.put o.dst v') w') : wpList Tryd.prog ops Q (o :: rest) a w :=
  wpList_plain hgd fun _ hK => wp_append_str w s x ho B v xs hs hown y hx hlen hbase fun v' w' h2 h3 => hK _ _ (h v' w' h2 h3)

end Go.Proofs.YtcnhbodemabbdaaDoor

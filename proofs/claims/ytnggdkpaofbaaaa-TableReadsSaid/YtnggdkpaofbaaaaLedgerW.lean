/- The ledger's operations under a guard. -/
import Derived.Test.YtnggdkpaofbaaaaLedgerOps
namespace Go.Proofs.Ytnggdkpaofbaaaa
open Go.RowKit
set_option linter.unusedVariables false

section
variable {P : Program} {ops : Array Oper} {Q : Exit → Act → World → Prop} {D : List Nat} {a0 a : Act} {w0 w : World} {ps : List (Nat × Nat × Value)} {E : List Ent} {f : Nat → Bool} {i : Nat} {o : Oper}

theorem RInv.yieldG (h : RInv D a0 w0 ps E f a w) (hok : ∀ e ∈ E, e.OK w0.heap.size) (hb : diesTab E = true) (hfi : f i = false) (ho : ops[i]? = some o) (hw : Region.wanted o (yielded ops a.tmps) = true) (d : Nat) (hod : o.dst = some d) (hdl : d < a0.tmps.size)
    (ht : valTab D ps E i d = true) (v : Value) (hv : ps.filter (·.1 == i) = [(i, d, v)]) (hrun : (execOp a.eval o).run P w = .ok (.value v) w) : wpOp P ops Q i (RInv D a0 w0 ps E (upd f i)) a w := by
  refine wpOp_yes ho hw (wp_yield hrun ?_)
  rw [hod]
  simp only [valTab, Bool.and_eq_true] at ht
  obtain ⟨⟨t1, t2⟩, t3⟩ := ht
  have h2 : ∀ e ∈ E, e.born ≠ i ∧ e.dies ≠ i ∧ e.slot ≠ d := fun e he => by
    have := List.all_eq_true.1 t2 e he
    simp only [Bool.and_eq_true, bne_iff_ne] at this
    exact ⟨this.1.1, this.1.2, this.2⟩
  have hv' : ∀ p ∈ ps, p.1 = i → p.2.2 = v := fun p hp hpi => by
    have hm : p ∈ ps.filter (·.1 == i) := List.mem_filter.2 ⟨hp, by simpa using hpi⟩
    rw [hv, List.mem_singleton] at hm
    rw [hm]
  refine h.val hok hb d t1 hdl v hfi ?_ t3 hv' ?_ ?_
  · intro e he _ _ _ e'
    exact (h2 e he).2.2 (Option.some.inj e')
  · exact List.filter_eq_nil_iff.2 fun e he => by simpa using (h2 e he).1
  · exact List.filter_eq_nil_iff.2 fun e he => by simpa using (h2 e he).2.1
theorem RInv.callG (h : RInv D a0 w0 ps E f a w) (hok : ∀ e ∈ E, e.OK w0.heap.size) (hb : diesTab E = true) (hfi : f i = false) (ho : ops[i]? = some o) (hw : Region.wanted o (yielded ops a.tmps) = true) (d : Nat) (hod : o.dst = some d) (hdl : d < a0.tmps.size)
    (ht : valTab D ps E i d = true) (v : Value) (hv : ps.filter (·.1 == i) = [(i, d, v)]) (F : FuncId) (xs : Array Operand) (ts : Array TypeId) (args : Array Value) (hop : o.op = .call { callee := .value (.func F), args := xs, argTypes := ts })
    (hF : (P.funcs[F]?).map (fun fn => (fn.name == "runtime.NumGoroutine", fn.body.isNone)) = some (false, false)) (ha : xs.map a.eval = args)
    (hc : Calls P F args w fun e w' => e = .returned v ∧ Ext w w') : wpOp P ops Q i (RInv D a0 w0 ps E (upd f i)) a w := by
  refine wpOp_yes ho hw (wp_call F xs ts args hop hF ha (hc.mono ?_))
  rintro e w' ⟨rfl, hx⟩
  refine ⟨v, rfl, ?_⟩
  rw [hod]
  simp only [valTab, Bool.and_eq_true] at ht
  obtain ⟨⟨t1, t2⟩, t3⟩ := ht
  have h2 : ∀ e ∈ E, e.born ≠ i ∧ e.dies ≠ i ∧ e.slot ≠ d := fun e he => by
    have := List.all_eq_true.1 t2 e he
    simp only [Bool.and_eq_true, bne_iff_ne] at this
    exact ⟨this.1.1, this.1.2, this.2⟩
  refine ⟨h.agree.put (by simpa using t1) v, h.ext.trans hx, ?_, h.led.step hok hb i (some d) v (grown_of_ext hx) hfi (fun e he _ _ _ e' => (h2 e he).2.2 (Option.some.inj e')) [] [] ?_ ?_ (fun _ he => by cases he) (fun _ hk => by cases hk) (fun _ he => by cases he)⟩
  · intro p hp hpf
    have h1 := List.all_eq_true.1 t3 p hp
    by_cases hpi : p.1 = i
    · have hm : p ∈ ps.filter (·.1 == i) := List.mem_filter.2 ⟨hp, by simpa using hpi⟩
      rw [hv, List.mem_singleton] at hm
      rw [hm]
      exact eval_put_eq (by rw [h.agree.2.1]; exact hdl)
    · have h3 : p.2.1 ≠ d := fun e => by
        rw [e] at h1
        simp [hpi] at h1
      rw [upd_ne f hpi] at hpf
      rw [eval_put_ne h3]
      exact h.vals p hp hpf
  · exact List.filter_eq_nil_iff.2 fun e he => by simpa using (h2 e he).1
  · exact List.filter_eq_nil_iff.2 fun e he => by simpa using (h2 e he).2.1
theorem RInv.litG (h : RInv D a0 w0 ps E f a w) (hok : ∀ e ∈ E, e.OK w0.heap.size) (hb : diesTab E = true) (hfi : f i = false) (ho : ops[i]? = some o) (hw : Region.wanted o (yielded ops a.tmps) = true) (d : Nat) (hod : o.dst = some d) (hdl : d < a0.tmps.size)
    (ht : rowTab D ps E i (some d) = true) (dies : Nat) (t : TypeId) (n : Nat) (C : Array Value) (hN : E.filter (·.born == i) = [entRow w0.heap.size i dies d t 1 n C.toList]) (hM : E.filter (·.dies == i) = [])
    (hn : C.size = n) (hn2 : n ≤ maxLen) {s : Sem Value} (hs : execOp a.eval o = (do pure (Next.value (← s)))) (hrun : s.run P w = .ok (.slice (some ⟨w.heap.size, 0, none⟩) n n) (w.alloc (.cells C t))) : wpOp P ops Q i (RInv D a0 w0 ps E (upd f i)) a w := by
  refine wpOp_yes ho hw (wp_val hs hrun ?_)
  rw [hod]
  simp only [rowTab, Bool.and_eq_true] at ht
  obtain ⟨⟨t1, t2⟩, t3⟩ := ht
  have hev : (a.put (some d) (Value.slice (some ⟨w.heap.size, 0, none⟩) n n)).eval (.tmp d) = Value.slice (some ⟨w.heap.size, 0, none⟩) n n := eval_put_eq (by rw [h.agree.2.1]; exact hdl)
  have hg : w.grownBy (w.alloc (.cells C t)) none := ⟨rfl, rfl, rfl, by simp, fun k hk _ => Below.heap_alloc w _ k hk⟩
  refine h.row hok hb (some d) t1 _ hg hfi (rowTab_slot (D := D) (ps := ps) t2 f) t3 _ _ hN hM (fun _ he => by cases he) (fun _ hk => by cases hk) ?_
  intro e he
  simp only [List.mem_singleton] at he
  subst he
  refine ⟨?_, fun k hk => .inl ?_⟩
  · show (w.alloc _).ownsRow _ _ _ ((a.put _ _).eval (.tmp d)) _ _
    rw [hev]
    exact own_lit C h.ext.size hn2 (by rw [hn, Nat.mul_one])
  · have hk' : k ∈ ((a.put (some d) (Value.slice (some ⟨w.heap.size, 0, none⟩) n n)).eval (.tmp d)).ownBlock.toList := hk
    rw [hev] at hk'
    simp [Value.ownBlock] at hk'
    omega
theorem RInv.appG (h : RInv D a0 w0 ps E f a w) (hok : ∀ e ∈ E, e.OK w0.heap.size) (hb : diesTab E = true) (hfi : f i = false) (ho : ops[i]? = some o) (hw : Region.wanted o (yielded ops a.tmps) = true) (d : Nat) (hod : o.dst = some d) (hdl : d < a0.tmps.size)
    (ht : rowTab D ps E i (some d) = true) (s : Nat) (x : Operand) (ty : TypeId) (hop : o.op = .call { callee := .builtin .append, args := #[.tmp s, x], argTypes := #[ty, ty] })
    (born dies : Nat) (t : TypeId) (z : Value) (bytes n m : Nat) (xs news : List Value) (M : List Ent)
    (hN : E.filter (·.born == i) = [entRow w0.heap.size i dies d t 1 (n + m) (xs ++ news)]) (hM : E.filter (·.dies == i) = entRow w0.heap.size born i s t 1 n xs :: M) (hact : ∀ e ∈ entRow w0.heap.size born i s t 1 n xs :: M, f e.born = true)
    (hu : P.underlying ty = some (.slice t)) (hi : (P.info? t).map (fun i => (i.zero, i.size, i.bytes)) = some (some z, 1, bytes)) (hz : z.cells.size = 1)
    (A : Option Addr) (c : Nat) (hx : a.eval x = .slice A m c) (hl : news.length = m) (hr : Cells w A news) (h1 : ∀ u ∈ news, u.oneCell' = true)
    (h63 : n + m ≤ maxLen) (hbytes : (n + m) * bytes ≤ 140737488355328) : wpOp P ops Q i (RInv D a0 w0 ps E (upd f i)) a w := by
  simp only [rowTab, Bool.and_eq_true] at ht
  obtain ⟨⟨t1, t2⟩, t3⟩ := ht
  have hmem : entRow w0.heap.size born i s t 1 n xs ∈ E := by
    have : entRow w0.heap.size born i s t 1 n xs ∈ E.filter (·.dies == i) := by rw [hM]; exact List.mem_cons_self ..
    exact (List.mem_filter.1 this).1
  have hown : w.ownsRow w0.heap.size t 1 (a.eval (.tmp s)) n xs := h.led.rows _ hmem ⟨hact _ (List.mem_cons_self ..), hfi⟩
  refine wpOp_yes ho hw (wp_append w (.tmp s) x ty hop w0.heap.size t z 1 bytes hu hi hz (by decide) _ n xs rfl hown A m c news hx (by rw [hl, Nat.mul_one]) hr h1 h63 hbytes h.ext.size ?_)
  intro v' w' ho' hg hfr
  rw [hod]
  have hev : (a.put (some d) v').eval (.tmp d) = v' := eval_put_eq (by rw [h.agree.2.1]; exact hdl)
  refine h.row hok hb (some d) t1 _ hg hfi (rowTab_slot (D := D) (ps := ps) t2 f) t3 _ _ hN hM hact (fun k hk => ⟨_, List.mem_cons_self .., ?_⟩) ?_
  · show k ∈ (a.eval (.tmp s)).ownBlock.toList
    rw [hk]; simp
  · intro e he
    simp only [List.mem_singleton] at he
    subst he
    refine ⟨?_, fun k hk => ?_⟩
    · show w'.ownsRow _ _ _ ((a.put _ _).eval (.tmp d)) _ _
      rw [hev]
      exact ho'
    · have hk' : k ∈ ((a.put (some d) v').eval (.tmp d)).ownBlock.toList := hk
      rw [hev] at hk'
      have hk2 : v'.ownBlock = some k := by simpa using hk'
      rcases hfr with e | e
      · refine .inr ⟨_, List.mem_cons_self .., ?_⟩
        show k ∈ (a.eval (.tmp s)).ownBlock.toList
        rw [← e, hk2]; simp
      · rw [hk2] at e
        injection e with e
        exact .inl (by omega)
theorem RInv.aggG (h : RInv D a0 w0 ps E f a w) (hok : ∀ e ∈ E, e.OK w0.heap.size) (hb : diesTab E = true) (hfi : f i = false) (ho : ops[i]? = some o) (hw : Region.wanted o (yielded ops a.tmps) = true) (d : Nat) (hod : o.dst = some d) (hdl : d < a0.tmps.size)
    (ht : rowTab D ps E i (some d) = true) (dies : Nat) (fs : List Fld) (M : List Ent) (hN : E.filter (·.born == i) = [entAgg w0.heap.size i dies d fs]) (hM : E.filter (·.dies == i) = M) (hact : ∀ e ∈ M, f e.born = true)
    (vs : Array Value) (hf : fldsOK w0.heap.size w fs vs.toList) (hfoot : ∀ k ∈ fldsFoot fs vs.toList, ∃ e ∈ M, k ∈ e.ft a w)
    {s : Sem Value} (hs : execOp a.eval o = (do pure (Next.value (← s)))) (hrun : s.run P w = .ok (.agg vs) w) : wpOp P ops Q i (RInv D a0 w0 ps E (upd f i)) a w := by
  refine wpOp_yes ho hw (wp_val hs hrun ?_)
  rw [hod]
  simp only [rowTab, Bool.and_eq_true] at ht
  obtain ⟨⟨t1, t2⟩, t3⟩ := ht
  have hev : (a.put (some d) (Value.agg vs)).eval (.tmp d) = Value.agg vs := eval_put_eq (by rw [h.agree.2.1]; exact hdl)
  refine h.row hok hb (some d) t1 _ (World.grownBy.refl w none) hfi (rowTab_slot (D := D) (ps := ps) t2 f) t3 _ _ hN hM hact (fun _ hk => by cases hk) ?_
  intro e he
  simp only [List.mem_singleton] at he
  subst he
  refine ⟨⟨vs, hev, hf⟩, fun k hk => .inr (hfoot k ?_)⟩
  have hk' : k ∈ (match (a.put (some d) (Value.agg vs)).eval (.tmp d) with | .agg vs => fldsFoot fs vs.toList | _ => []) := hk
  rw [hev] at hk'
  exact hk'
theorem RInv.allocG (h : RInv D a0 w0 ps E f a w) (hok : ∀ e ∈ E, e.OK w0.heap.size) (hb : diesTab E = true) (hfi : f i = false) (ho : ops[i]? = some o) (hw : Region.wanted o (yielded ops a.tmps) = true) (d : Nat) (hod : o.dst = some d) (hdl : d < a0.tmps.size)
    (L : List Nat) (hL : ∀ j ∈ L, f j = false) (ht : (D.contains d && (E.all fun e => e.born == i || e.dies == i || e.slot != d || L.contains e.born) && (ps.all fun p => p.1 != i && (some p.2.1 != some d))) = true) (dies : Nat) (T : TypeId) (zs : List Value) (hN : E.filter (·.born == i) = [entBox w0.heap.size i dies d T (zs.map .val)]) (hM : E.filter (·.dies == i) = [])
    {s : Sem Value} (hs : execOp a.eval o = (do pure (Next.value (← s)))) (hrun : s.run P w = .ok (.pointer (some ⟨w.heap.size, 0, none⟩)) (w.alloc (.cells zs.toArray T))) : wpOp P ops Q i (RInv D a0 w0 ps E (upd f i)) a w := by
  refine wpOp_yes ho hw (wp_val hs hrun ?_)
  rw [hod]
  simp only [Bool.and_eq_true] at ht
  obtain ⟨⟨t1, t2⟩, t3⟩ := ht
  have hev : (a.put (some d) (Value.pointer (some ⟨w.heap.size, 0, none⟩))).eval (.tmp d) = Value.pointer (some ⟨w.heap.size, 0, none⟩) := eval_put_eq (by rw [h.agree.2.1]; exact hdl)
  have hg : w.grownBy (w.alloc (.cells zs.toArray T)) none := ⟨rfl, rfl, rfl, by simp, fun k hk _ => Below.heap_alloc w _ k hk⟩
  have hbk : Blk (w.alloc (.cells zs.toArray T)) w.heap.size T zs.toArray := Blk.new w _ _
  have hfl : ∀ (l : List Value), fldsOK w0.heap.size (w.alloc (.cells zs.toArray T)) (l.map .val) l ∧ fldsFoot (l.map .val) l = [] := by
    intro l
    induction l with
    | nil => exact ⟨trivial, rfl⟩
    | cons v l ih => exact ⟨⟨rfl, ih.1⟩, ih.2⟩
  refine h.row hok hb (some d) t1 _ hg hfi ?_ t3 _ _ hN hM (fun _ he => by cases he) (fun _ hk => by cases hk) ?_
  · intro e he hae h1 h2 h3
    have h4 := List.all_eq_true.1 t2 e he
    have h5 : e.slot = d := Option.some.inj h3
    have h6 : e.born ∈ L := by simpa [h1, h2, h5] using h4
    rw [Ent.act, hL _ h6] at hae
    cases hae.1
  intro e he
  simp only [List.mem_singleton] at he
  subst he
  refine ⟨⟨_, _, hev, h.ext.size, hbk, by simpa using (hfl zs).1⟩, fun k hk => .inl ?_⟩
  have hk' : k ∈ boxFoot (zs.map .val) (w.alloc (.cells zs.toArray T)) ((a.put (some d) (Value.pointer (some ⟨w.heap.size, 0, none⟩))).eval (.tmp d)) := hk
  rw [hev, boxFoot_at hbk] at hk'
  have e2 := (hfl zs).2
  simp only [e2, List.mem_singleton] at hk'
  omega
theorem RInv.storeG (h : RInv D a0 w0 ps E f a w) (hok : ∀ e ∈ E, e.OK w0.heap.size) (hb : diesTab E = true) (hfi : f i = false) (ho : ops[i]? = some o) (hw : Region.wanted o (yielded ops a.tmps) = true) (hod : o.dst = none)
    (ht : rowTab D ps E i none = true) (T : TypeId) (sp sx bp bx dies : Nat) (fs0 fs : List Fld) (hop : o.op = .store T (.tmp sp) (.tmp sx))
    (hN : E.filter (·.born == i) = [entBox w0.heap.size i dies sp T fs]) (M : List Ent) (hM : E.filter (·.dies == i) = M) (hm1 : entAgg w0.heap.size bx i sx fs ∈ M) (hm2 : entBox w0.heap.size bp i sp T fs0 ∈ M) (hact : ∀ e ∈ M, f e.born = true)
    (n : Nat) (hfl : fs.length = n) (hfl0 : fs0.length = n) (hi : (P.info? T).map (·.size) = some n) (hone : ∀ c, Fld.val c ∈ fs → c.oneCell' = true) (hne : bp ≠ bx) : wpOp P ops Q i (RInv D a0 w0 ps E (upd f i)) a w := by
  simp only [rowTab, Bool.and_eq_true] at ht
  obtain ⟨⟨t1, t2⟩, t3⟩ := ht
  have hE : ∀ e ∈ M, e ∈ E := fun e he => by rw [← hM] at he; exact (List.mem_filter.1 he).1
  have hlen : ∀ (fs : List Fld) (vs : List Value), fldsOK w0.heap.size w fs vs → vs.length = fs.length := by
    intro fs
    induction fs with
    | nil => intro vs h; cases vs with | nil => rfl | cons _ _ => exact h.elim
    | cons f fs ih => intro vs h; cases vs with | nil => exact h.elim | cons v vs => rw [List.length_cons, List.length_cons, ih vs h.2]
  have hcell : ∀ (fs : List Fld) (vs : List Value), (∀ c, Fld.val c ∈ fs → c.oneCell' = true) → fldsOK w0.heap.size w fs vs → ∀ v ∈ vs, v.oneCell' = true := by
    intro fs
    induction fs with
    | nil => intro vs _ h; cases vs with | nil => intro v hv; cases hv | cons _ _ => exact h.elim
    | cons f fs ih =>
      intro vs hc h
      cases vs with
      | nil => exact h.elim
      | cons v vs =>
        intro u hu
        rcases List.mem_cons.1 hu with rfl | hu
        · have h1 := h.1
          cases f with
          | val c => have h1 : u = c := h1; subst h1; exact hc _ (List.mem_cons_self ..)
          | row t sz n xs =>
            have h1 : w.ownsRow w0.heap.size t sz u n xs := h1
            rcases h1.2 with ⟨rfl, _⟩ | ⟨g, cap, cur, rfl, _⟩ <;> rfl
        · exact ih vs (fun c hc' => hc c (List.mem_cons_of_mem _ hc')) h.2 u hu
  obtain ⟨vs, hvs, hf⟩ := h.led.rows _ (hE _ hm1) ⟨hact _ hm1, hfi⟩
  obtain ⟨g, cs, hp, hB, hbk, hf0⟩ := h.led.rows _ (hE _ hm2) ⟨hact _ hm2, hfi⟩
  have hp : a.eval (.tmp sp) = .pointer (some ⟨g, 0, none⟩) := hp
  have hvs : a.eval (.tmp sx) = .agg vs := hvs
  have l1 := hlen fs vs.toList hf
  have l0 := hlen fs0 cs.toList hf0
  rw [Array.length_toList] at l1 l0
  refine wpOp_yes ho hw (wp_store_blk T (.tmp sp) (.tmp sx) hop hod g vs hp hvs T cs hbk (by omega) (by rw [hi, l0, hfl0]) (hcell fs vs.toList hone hf) ?_)
  intro w' hb' hg
  have hgm : ∀ k, some g = some k → ∃ e ∈ M, k ∈ e.ft a w := fun k hk => by
    cases hk
    refine ⟨_, hm2, ?_⟩
    show g ∈ boxFoot fs0 w (a.eval (.tmp sp))
    rw [hp, boxFoot_at hbk]
    exact List.mem_cons_self ..
  have hsub : ∀ k ∈ fldsFoot fs vs.toList, k ∈ (entAgg w0.heap.size bx i sx fs).ft a w := fun k hk => by
    show k ∈ (match a.eval (.tmp sx) with | .agg vs => fldsFoot fs vs.toList | _ => [])
    rw [hvs]
    exact hk
  have hgn : g ∉ fldsFoot fs vs.toList := by
    intro hgf
    refine h.led.apart _ (hE _ hm2) _ (hE _ hm1) hne ⟨hact _ hm2, hfi⟩ ⟨hact _ hm1, hfi⟩ g ?_ (hsub g hgf)
    show g ∈ boxFoot fs0 w (a.eval (.tmp sp))
    rw [hp, boxFoot_at hbk]
    exact List.mem_cons_self ..
  have := h.row hok hb none rfl (v := .tuple #[]) hg hfi (rowTab_slot (D := D) (ps := ps) t2 f) t3 _ _ hN hM hact hgm ?_
  · exact this
  · intro e he
    simp only [List.mem_singleton] at he
    subst he
    refine ⟨⟨g, vs, hp, hB, hb', fldsOK_kept hg fs vs.toList hf fun k hk hm => ?_⟩, fun k hk => .inr ?_⟩
    · cases hk; exact hgn hm
    · have hk' : k ∈ boxFoot fs w' (a.eval (.tmp sp)) := hk
      rw [hp, boxFoot_at hb'] at hk'
      rcases List.mem_cons.1 hk' with rfl | hk'
      · exact hgm _ rfl
      · exact ⟨_, hm1, hsub k hk'⟩
theorem RInv.skipG (h : RInv D a0 w0 ps E f a w) (hok : ∀ e ∈ E, e.OK w0.heap.size) (hb : diesTab E = true) (hfi : f i = false) (ho : ops[i]? = some o) (hw : Region.wanted o (yielded ops a.tmps) = false) (d : Nat) (hod : o.dst = some d) (hdl : d < a0.tmps.size)
    (ht : valTab D ps E i d = true) (hv : ps.filter (·.1 == i) = [(i, d, undef)]) : wpOp P ops Q i (RInv D a0 w0 ps E (upd f i)) a w := by
  refine wpOp_no ho hw ?_
  rw [hod]
  simp only [valTab, Bool.and_eq_true] at ht
  obtain ⟨⟨t1, t2⟩, t3⟩ := ht
  have h2 : ∀ e ∈ E, e.born ≠ i ∧ e.dies ≠ i ∧ e.slot ≠ d := fun e he => by
    have := List.all_eq_true.1 t2 e he
    simp only [Bool.and_eq_true, bne_iff_ne] at this
    exact ⟨this.1.1, this.1.2, this.2⟩
  have hv' : ∀ p ∈ ps, p.1 = i → p.2.2 = undef := fun p hp hpi => by
    have hm : p ∈ ps.filter (·.1 == i) := List.mem_filter.2 ⟨hp, by simpa using hpi⟩
    rw [hv, List.mem_singleton] at hm
    rw [hm]
  refine h.val hok hb d t1 hdl undef hfi ?_ t3 hv' ?_ ?_
  · intro e he _ _ _ e'
    exact (h2 e he).2.2 (Option.some.inj e')
  · exact List.filter_eq_nil_iff.2 fun e he => by simpa using (h2 e he).1
  · exact List.filter_eq_nil_iff.2 fun e he => by simpa using (h2 e he).2.1
theorem wanted_undef {g d' : Nat} {b : Bool} (hgd : o.guard = some (g, b)) (hd : (ops[g]?).bind (·.dst) = some d') (hv : a.eval (.tmp d') = undef) : Region.wanted o (yielded ops a.tmps) = false := by
  have h2 : yielded ops a.tmps g = none := by
    unfold yielded
    rw [hd]
    simp only [Act.eval, Array.getD_eq_getD_getElem?] at hv
    simp only [Option.bind_some]
    cases h : a.tmps[d']? with
    | none => rfl
    | some v =>
      rw [h] at hv
      have hv : v = undef := hv
      subst hv
      rfl
  unfold Region.wanted
  rw [hgd]
  simp only [h2]
  cases b <;> rfl
/-- A call that takes rows of the ledger, yields a value known ahead, and makes memory of its own alone. -/
theorem RInv.callD (h : RInv D a0 w0 ps E f a w) (hok : ∀ e ∈ E, e.OK w0.heap.size) (hb : diesTab E = true) (hfi : f i = false) (ho : ops[i]? = some o) (hw : Region.wanted o (yielded ops a.tmps) = true) (d : Nat) (hod : o.dst = some d) (hdl : d < a0.tmps.size)
    (ht : (D.contains d && (E.all fun e => e.born != i && (e.dies == i || e.slot != d)) && (ps.all fun p => (p.1 == i) == (p.2.1 == d))) = true) (v : Value) (hv : ps.filter (·.1 == i) = [(i, d, v)]) (M : List Ent) (hM : E.filter (·.dies == i) = M) (hact : ∀ e ∈ M, f e.born = true)
    (F : FuncId) (xs : Array Operand) (ts : Array TypeId) (args : Array Value) (hop : o.op = .call { callee := .value (.func F), args := xs, argTypes := ts })
    (hF : (P.funcs[F]?).map (fun fn => (fn.name == "runtime.NumGoroutine", fn.body.isNone)) = some (false, false)) (ha : xs.map a.eval = args)
    (hc : Calls P F args w fun e w' => e = .returned v ∧ Ext w w') : wpOp P ops Q i (RInv D a0 w0 ps E (upd f i)) a w := by
  refine wpOp_yes ho hw (wp_call F xs ts args hop hF ha (hc.mono ?_))
  rintro e w' ⟨rfl, hx⟩
  refine ⟨v, rfl, ?_⟩
  rw [hod]
  simp only [Bool.and_eq_true] at ht
  obtain ⟨⟨t1, t2⟩, t3⟩ := ht
  have h2 : ∀ e ∈ E, e.born ≠ i ∧ (e.dies = i ∨ e.slot ≠ d) := fun e he => by
    have := List.all_eq_true.1 t2 e he
    simpa using this
  refine ⟨h.agree.put (by simpa using t1) v, h.ext.trans hx, ?_, h.led.step hok hb i (some d) v (grown_of_ext hx) hfi (fun e he _ _ h3 e' => ?_) [] M ?_ hM hact (fun _ hk => by cases hk) (fun _ he => by cases he)⟩
  · intro p hp hpf
    have h1 := List.all_eq_true.1 t3 p hp
    by_cases hpi : p.1 = i
    · have hm : p ∈ ps.filter (·.1 == i) := List.mem_filter.2 ⟨hp, by simpa using hpi⟩
      rw [hv, List.mem_singleton] at hm
      rw [hm]
      exact eval_put_eq (by rw [h.agree.2.1]; exact hdl)
    · have h3 : p.2.1 ≠ d := fun e => by
        rw [e] at h1
        simp [hpi] at h1
      rw [upd_ne f hpi] at hpf
      rw [eval_put_ne h3]
      exact h.vals p hp hpf
  · rcases (h2 e he).2 with h4 | h4
    · exact h3 h4
    · exact h4 (Option.some.inj e')
  · exact List.filter_eq_nil_iff.2 fun e he => by simpa using (h2 e he).1
/-- A row of the ledger that nobody takes. -/
theorem RInv.row_at (h : RInv D a0 w0 ps E f a w) (e : Ent) (he : e ∈ E) (h1 : f e.born = true) (h2 : f e.dies = false) : e.R w (a.eval (.tmp e.slot)) := h.led.rows e he ⟨h1, h2⟩
end
end Go.Proofs.Ytnggdkpaofbaaaa

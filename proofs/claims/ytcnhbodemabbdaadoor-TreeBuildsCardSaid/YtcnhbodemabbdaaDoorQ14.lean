/- A region that draws its order, by ONE invariant over all its orders; and a ledger of the rows that its operations own. -/
import Derived.Test.YtcnhbodemabbdaaDoorQ09
namespace Go.Proofs.YtcnhbodemabbdaaDoor
open Go.RowKit
set_option linter.unusedVariables false

section
variable {P : Program} {ops : Array Oper} {Q : Exit → Act → World → Prop} {md : Region.Mode}

def flag (listed : Array Bool) (i : Nat) : Bool := listed.getD i false
def upd (f : Nat → Bool) (i : Nat) : Nat → Bool := fun j => if j = i then true else f j
theorem upd_eq (f : Nat → Bool) (i : Nat) : upd f i i = true := by simp [upd]
theorem upd_ne (f : Nat → Bool) {i j : Nat} (h : j ≠ i) : upd f i j = f j := by simp [upd, h]
theorem flag_set {listed : Array Bool} {i : Nat} (h : i < listed.size) : flag (listed.setIfInBounds i true) = upd (flag listed) i := by
  funext j
  unfold flag upd
  by_cases hj : j = i
  · subst hj; simp [h]
  · rw [if_neg hj]; simp [Array.getElem?_setIfInBounds_ne (Ne.symm hj)]

/-- Every edge goes back in the text. -/
def backward (md : Region.Mode) (ops : Array Oper) : Bool :=
  (List.range ops.size).all fun i => ((ops[i]?).map (·.after.all fun e => !Region.binds md e || decide (e.on < i))).getD true
/-- What stands ahead of what has come up has come up. -/
def ClosedF (md : Region.Mode) (ops : Array Oper) (f : Nat → Bool) : Prop :=
  ∀ j o, ops[j]? = some o → f j = true → ∀ e ∈ o.after, Region.binds md e = true → f e.on = true

theorem backward_at (hb : backward md ops = true) {i : Nat} {o : Oper} (ho : ops[i]? = some o) : ∀ e ∈ o.after, Region.binds md e = true → e.on < i := by
  intro e he hbi
  have hlt : i < ops.size := (Array.getElem?_eq_some_iff.1 ho).1
  have h1 := List.all_eq_true.1 hb i (List.mem_range.2 hlt)
  rw [ho, Option.map_some, Option.getD_some] at h1
  have h2 := Array.all_eq_true_iff_forall_mem.1 h1 e he
  simpa [hbi] using h2

theorem ready_all (hb : backward md ops = true) {listed : Array Bool} (hs : listed.size = ops.size) (h : Region.ready md ops listed = []) : ∀ i < ops.size, flag listed i = true := by
  intro i
  induction i using Nat.strongRecOn with
  | _ i ih =>
    intro hi
    cases hf : flag listed i with
    | true => rfl
    | false =>
      exfalso
      have hm : i ∈ Region.ready md ops listed := by
        refine mem_ready.2 ⟨?_, ops[i], Array.getElem?_eq_getElem hi, fun e he hbi => ?_⟩
        · unfold flag at hf
          simpa [hs, hi] using hf
        · have hlt := backward_at hb (Array.getElem?_eq_getElem hi) e he hbi
          exact ih e.on hlt (Nat.lt_trans hlt hi)
      rw [h] at hm
      cases hm

theorem flag_far {listed : Array Bool} (hs : listed.size = ops.size) : ∀ i, ops.size ≤ i → flag listed i = false := by
  intro i hi
  unfold flag
  rw [Array.getD_eq_getD_getElem?, Array.getElem?_eq_none (by omega)]
  rfl
theorem wpAny_inv (hb : backward md ops = true) (I : (Nat → Bool) → Act → World → Prop)
    (hstep : ∀ f a w, I f a w → ClosedF md ops f → ∀ i o, ops[i]? = some o → f i = false → (∀ e ∈ o.after, Region.binds md e = true → f e.on = true) → wpOp P ops Q i (I (upd f i)) a w)
    (hdone : ∀ f a w, I f a w → (∀ i < ops.size, f i = true) → (∀ i, ops.size ≤ i → f i = false) → Q .normal a w) :
    ∀ fuel listed a w, listed.size = ops.size → listed.toList.countP (!·) ≤ fuel → ClosedF md ops (flag listed) → I (flag listed) a w → wpAny P md ops Q fuel listed a w
  | 0, listed, a, w, hs, hc, hcl, hI => by
    have hall : ∀ b ∈ listed.toList, b = true := by
      intro b hbm
      cases b with
      | true => rfl
      | false =>
        have := (List.countP_pos_iff (p := (!·))).2 ⟨false, hbm, rfl⟩
        omega
    have hr : Region.ready md ops listed = [] := by
      apply List.eq_nil_iff_forall_not_mem.2
      intro j hj
      obtain ⟨h0, o, ho, _⟩ := mem_ready.1 hj
      have hlt : j < listed.size := by rw [hs]; exact (Array.getElem?_eq_some_iff.1 ho).1
      have h1 : listed[j] = true := hall _ (Array.mem_toList_iff.2 (Array.getElem_mem hlt))
      simp [hlt, h1] at h0
    exact ⟨hr, hdone _ a w hI (ready_all hb hs hr) (flag_far hs)⟩
  | fuel + 1, listed, a, w, hs, hc, hcl, hI => by
    refine ⟨fun hr => hdone _ a w hI (ready_all hb hs hr) (flag_far hs), fun i hi => ?_⟩
    obtain ⟨h0, o, ho, hall⟩ := mem_ready.1 hi
    have hlt : i < listed.size := by rw [hs]; exact (Array.getElem?_eq_some_iff.1 ho).1
    have hf : flag listed i = false := by
      unfold flag
      simpa [hlt] using h0
    refine wpOp_mono (fun a' w' h => wpAny_inv hb I hstep hdone fuel _ a' w' (by simpa using hs) ?_ ?_ ?_) (hstep _ a w hI hcl i o ho hf hall)
    · have hli : listed[i] = false := by simpa [hlt] using h0
      have : (listed.setIfInBounds i true).toList = listed.toList.set i true := by simp
      rw [this]
      have hlt' : i < listed.toList.length := by simpa using hlt
      have e : listed.toList = listed.toList.take i ++ listed.toList[i] :: listed.toList.drop (i + 1) := by
        rw [← List.drop_eq_getElem_cons hlt', List.take_append_drop]
      have e2 : listed.toList.set i true = listed.toList.take i ++ true :: listed.toList.drop (i + 1) := by
        rw [List.set_eq_take_append_cons_drop, if_pos hlt']
      have hl2 : listed.toList[i] = false := by simpa using hli
      have c1 : listed.toList.countP (!·) = (listed.toList.take i).countP (!·) + ((listed.toList.drop (i + 1)).countP (!·) + 1) := by
        conv => lhs; rw [e]
        rw [List.countP_append, hl2, List.countP_cons]
        simp
      have c2 : (listed.toList.set i true).countP (!·) = (listed.toList.take i).countP (!·) + (listed.toList.drop (i + 1)).countP (!·) := by
        rw [e2, List.countP_append, List.countP_cons]
        simp
      omega
    · rw [flag_set hlt]
      intro j o' ho' hj e he hbi
      by_cases hej : e.on = i
      · rw [hej]; exact upd_eq _ _
      · rw [upd_ne _ hej]
        by_cases hji : j = i
        · subst hji
          rw [ho] at ho'
          cases ho'
          exact hall e he hbi
        · rw [upd_ne _ hji] at hj
          exact hcl j o' ho' hj e he hbi
    · rw [flag_set hlt]; exact h

/-- A region that draws its order: the invariant, from the world behind the draw. -/
theorem wp_region_inv {id : Nat} {a : Act} {w : World} (hm : P.follows .mixedOrders = true) (hb : backward .any ops = true) (I : (Nat → Bool) → Act → World → Prop)
    (hI : I (fun _ => false) a w.drew)
    (hstep : ∀ f a w, I f a w → ClosedF .any ops f → ∀ i o, ops[i]? = some o → f i = false → (∀ e ∈ o.after, Region.binds .any e = true → f e.on = true) → wpOp P ops Q i (I (upd f i)) a w)
    (hdone : ∀ f a w, I f a w → (∀ i < ops.size, f i = true) → (∀ i, ops.size ≤ i → f i = false) → Q .normal a w) : (Code.region id ops true).wp P Q a w := by
  refine wp_region_any hm (wpAny_inv hb I hstep hdone ops.size _ a _ (by simp) ?_ ?_ ?_)
  · refine Nat.le_trans List.countP_le_length ?_
    simp
  · intro j o ho hj
    simp [flag, Array.getElem?_replicate] at hj
    split at hj <;> simp at hj
  · have : flag (Array.replicate ops.size false) = fun _ => false := by
      funext j
      simp [flag, Array.getElem?_replicate]
      split <;> rfl
    rw [this]
    exact hI
end

/-- A law for each operation, in the text's order. -/
def EachOp (F : Nat → Oper → Prop) : Nat → List Oper → Prop
  | _, [] => True
  | k, o :: os => F k o ∧ EachOp F (k + 1) os
theorem EachOp.get {F : Nat → Oper → Prop} : ∀ (l : List Oper) (k : Nat), EachOp F k l → ∀ i o, l[i]? = some o → F (k + i) o
  | [], _, _, i, o, h => by cases h
  | x :: l, k, h, 0, o, ho => by
    obtain rfl : x = o := Option.some.inj ho
    exact h.1
  | x :: l, k, h, i + 1, o, ho => by
    have h2 := EachOp.get l (k + 1) h.2 i o ho
    rwa [show k + 1 + i = k + (i + 1) by omega] at h2
theorem wp_region_ops {P : Program} {ops : Array Oper} {Q : Exit → Act → World → Prop} {id : Nat} {a : Act} {w : World} (I : (Nat → Bool) → Act → World → Prop) (hm : P.follows .mixedOrders = true) (hb : backward .any ops = true)
    (hI : I (fun _ => false) a w.drew)
    (hstep : EachOp (fun i o => ∀ f a w, I f a w → f i = false → (∀ e ∈ o.after, Region.binds .any e = true → f e.on = true) → (∀ j o', ops[j]? = some o' → (o'.after.toList.any fun e => Region.binds .any e && e.on == i) = true → f j = false) → wpOp P ops Q i (I (upd f i)) a w) 0 ops.toList)
    (hdone : ∀ f a w, I f a w → (∀ i < ops.size, f i = true) → (∀ i, ops.size ≤ i → f i = false) → Q .normal a w) : (Code.region id ops true).wp P Q a w := by
  refine wp_region_inv hm hb I hI (fun f a w h hcl i o ho hf hp => ?_) hdone
  have h1 := EachOp.get ops.toList 0 hstep i o (by simpa using ho)
  rw [Nat.zero_add] at h1
  refine h1 f a w h hf hp fun j o' ho' hany => ?_
  rw [List.any_eq_true] at hany
  obtain ⟨e, he, h2⟩ := hany
  simp only [Bool.and_eq_true, beq_iff_eq] at h2
  cases hj : f j with
  | false => rfl
  | true =>
    have h3 := hcl j o' ho' hj e (by simpa using he) h2.1
    rw [h2.2, hf] at h3
    cases h3
theorem pre_of {o : Oper} {f : Nat → Bool} (h : ∀ e ∈ o.after, Region.binds .any e = true → f e.on = true) (k : Nat) (hk : (o.after.toList.any fun e => Region.binds .any e && e.on == k) = true) : f k = true := by
  rw [List.any_eq_true] at hk
  obtain ⟨e, he, h1⟩ := hk
  have he : e ∈ o.after := by simpa using he
  simp only [Bool.and_eq_true, beq_iff_eq] at h1
  rw [← h1.2]
  exact h e he h1.1

/-! ### The frame, but for what the region's operations write -/
def Agree (D : List Nat) (a0 a : Act) : Prop := a.defers = a0.defers ∧ a.tmps.size = a0.tmps.size ∧ ∀ t, t ∉ D → a.tmps[t]? = a0.tmps[t]?
theorem Agree.refl (D : List Nat) (a : Act) : Agree D a a := ⟨rfl, rfl, fun _ _ => rfl⟩
theorem Agree.put {D : List Nat} {a0 a : Act} (h : Agree D a0 a) {d : Nat} (hd : d ∈ D) (v : Value) : Agree D a0 (a.put (some d) v) := by
  refine ⟨h.1, by simp [Act.put, h.2.1], fun t ht => ?_⟩
  have hne : d ≠ t := fun e => ht (e ▸ hd)
  simp only [Act.put]
  rw [Array.getElem?_setIfInBounds_ne hne]
  exact h.2.2 t ht
theorem Agree.eval {D : List Nat} {a0 a : Act} (h : Agree D a0 a) {t : Nat} (ht : t ∉ D) : a.eval (.tmp t) = a0.eval (.tmp t) := by
  simp only [Act.eval, Array.getD_eq_getD_getElem?]
  rw [h.2.2 t ht]
theorem eval_put_ne {a : Act} {d t : Nat} {v : Value} (h : t ≠ d) : (a.put (some d) v).eval (.tmp t) = a.eval (.tmp t) := by
  simp only [Act.eval, Act.put, Array.getD_eq_getD_getElem?]
  rw [Array.getElem?_setIfInBounds_ne (Ne.symm h)]
theorem eval_put_eq {a : Act} {d : Nat} {v : Value} (h : d < a.tmps.size) : (a.put (some d) v).eval (.tmp d) = v := by
  simp [Act.eval, Act.put, h]
theorem foldl_put_get (g : Nat → Value) : ∀ (D : List Nat) (b : Act) (t : Nat), t < b.tmps.size → (D.foldl (fun b d => b.put (some d) (g d)) b).tmps[t]? = if t ∈ D then some (g t) else b.tmps[t]?
  | [], b, t, _ => by simp
  | d :: D, b, t, ht => by
    rw [List.foldl_cons, foldl_put_get g D _ t (by simpa [Act.put] using ht)]
    by_cases hm : t ∈ D
    · simp [hm]
    · rw [if_neg hm]
      by_cases hd : t = d
      · subst hd; simp [Act.put, ht]
      · rw [if_neg (by simp [hd, hm])]
        simp only [Act.put]
        rw [Array.getElem?_setIfInBounds_ne (Ne.symm hd)]
theorem foldl_put_size (g : Nat → Value) : ∀ (D : List Nat) (b : Act), (D.foldl (fun b d => b.put (some d) (g d)) b).tmps.size = b.tmps.size ∧ (D.foldl (fun b d => b.put (some d) (g d)) b).defers = b.defers
  | [], b => ⟨rfl, rfl⟩
  | d :: D, b => by
    rw [List.foldl_cons]
    obtain ⟨h1, h2⟩ := foldl_put_size g D (b.put (some d) (g d))
    exact ⟨by rw [h1]; simp [Act.put], by rw [h2]; rfl⟩
/-- The frame, written out. -/
theorem Agree.out {D : List Nat} {a0 a : Act} (h : Agree D a0 a) : a = D.foldl (fun b d => b.put (some d) (a.eval (.tmp d))) a0 := by
  obtain ⟨h1, h2, h3⟩ := h
  obtain ⟨e1, e2⟩ := foldl_put_size (fun d => a.eval (.tmp d)) D a0
  have ht : a.tmps = (D.foldl (fun b d => b.put (some d) (a.eval (.tmp d))) a0).tmps := by
    apply Array.ext
    · rw [e1, h2]
    · intro t ht1 ht2
      have hh := foldl_put_get (fun d => a.eval (.tmp d)) D a0 t (by rw [← h2]; exact ht1)
      rw [Array.getElem?_eq_getElem ht2] at hh
      apply Option.some.inj
      rw [hh]
      by_cases hm : t ∈ D
      · rw [if_pos hm]
        simp [Act.eval, ht1]
      · rw [if_neg hm, ← h3 t hm, Array.getElem?_eq_getElem ht1]
  cases a with
  | mk t d =>
    cases hf : D.foldl (fun b d' => b.put (some d') ((Act.mk t d).eval (.tmp d'))) a0 with
    | mk t' d' =>
      rw [hf] at ht e2
      simp only at ht e2 h1
      rw [ht, h1, ← e2]

/-! ### The ledger: which slot owns which rows, from its operation's birth to the operation that takes them -/
structure Ent where
  born : Nat
  dies : Nat
  slot : Nat
  R : World → Value → Prop
  foot : World → Value → List Nat
structure Ent.OK (B : Nat) (e : Ent) : Prop where
  stable : ∀ {w w' : World} {v : Value} {row : Option Nat}, e.R w v → w.grownBy w' row → (∀ k, row = some k → k ∉ e.foot w v) → e.R w' v ∧ e.foot w' v = e.foot w v
  lt : ∀ {w : World} {v : Value} {k : Nat}, e.R w v → k ∈ e.foot w v → B ≤ k ∧ k < w.heap.size
def Ent.act (f : Nat → Bool) (e : Ent) : Prop := f e.born = true ∧ f e.dies = false
def Ent.ft (a : Act) (w : World) (e : Ent) : List Nat := e.foot w (a.eval (.tmp e.slot))

structure Led (E : List Ent) (f : Nat → Bool) (a : Act) (w : World) : Prop where
  rows : ∀ e ∈ E, e.act f → e.R w (a.eval (.tmp e.slot))
  apart : ∀ e ∈ E, ∀ e' ∈ E, e.born ≠ e'.born → e.act f → e'.act f → ∀ k ∈ e.ft a w, k ∉ e'.ft a w

theorem eval_put_slot {a : Act} {d : Option Nat} {t : Nat} {v : Value} (h : some t ≠ d) : (a.put d v).eval (.tmp t) = a.eval (.tmp t) := by
  cases d with
  | none => rfl
  | some d => exact eval_put_ne (fun e => h (by rw [e]))

theorem Led.step {B : Nat} {E : List Ent} {f : Nat → Bool} {a : Act} {w w' : World} (h : Led E f a w) (hok : ∀ e ∈ E, e.OK B)
    (hb : (E.all fun e => E.all fun e' => e.born != e'.born || e.dies == e'.dies) = true) (i : Nat) (d : Option Nat) (v : Value) {row : Option Nat} (hg : w.grownBy w' row)
    (hfi : f i = false) (hslot : ∀ e ∈ E, e.act f → e.born ≠ i → e.dies ≠ i → some e.slot ≠ d)
    (N M : List Ent) (hN : E.filter (·.born == i) = N) (hM : E.filter (·.dies == i) = M) (hact : ∀ e ∈ M, f e.born = true)
    (hrow : ∀ k, row = some k → ∃ e ∈ M, k ∈ e.ft a w)
    (hnew : ∀ e ∈ N, e.R w' ((a.put d v).eval (.tmp e.slot)) ∧ ∀ k ∈ e.ft (a.put d v) w', w.heap.size ≤ k ∨ ∃ e' ∈ M, k ∈ e'.ft a w) :
    Led E (upd f i) (a.put d v) w' := by
  have hb' : ∀ e ∈ E, ∀ e' ∈ E, e.born = e'.born → e.dies = e'.dies := by
    intro e he e' he' hbb
    have h1 := List.all_eq_true.1 (List.all_eq_true.1 hb e he) e' he'
    simpa [hbb] using h1
  have hMm : ∀ e ∈ M, e ∈ E ∧ e.dies = i ∧ e.act f := by
    intro e he
    have h1 := hact e he
    rw [← hM, List.mem_filter] at he
    have h2 : e.dies = i := by simpa using he.2
    exact ⟨he.1, h2, h1, by rw [h2]; exact hfi⟩
  have hold : ∀ e ∈ E, e.act (upd f i) → e.born ≠ i → e.act f ∧ e.dies ≠ i := by
    intro e he ⟨h1, h2⟩ hne
    rw [upd_ne f hne] at h1
    have hd : e.dies ≠ i := fun e' => by rw [e', upd_eq] at h2; cases h2
    rw [upd_ne f hd] at h2
    exact ⟨⟨h1, h2⟩, hd⟩
  have hnotM : ∀ e ∈ E, e.act f → e.dies ≠ i → ∀ e' ∈ M, ∀ k ∈ e'.ft a w, k ∉ e.ft a w := by
    intro e he hae hde e' he' k hk
    obtain ⟨m1, m2, m3⟩ := hMm e' he'
    refine h.apart e' m1 e he (fun hbb => hde ?_) m3 hae k hk
    rw [← hb' e' m1 e he hbb, m2]
  have hev : ∀ e ∈ E, e.act f → e.born ≠ i → e.dies ≠ i → (a.put d v).eval (.tmp e.slot) = a.eval (.tmp e.slot) := fun e he h0 h1 h2 => eval_put_slot (hslot e he h0 h1 h2)
  have hst : ∀ e ∈ E, e.act (upd f i) → e.born ≠ i → e.R w' ((a.put d v).eval (.tmp e.slot)) ∧ e.ft (a.put d v) w' = e.ft a w := by
    intro e he hae hne
    obtain ⟨h1, h2⟩ := hold e he hae hne
    unfold Ent.ft
    rw [hev e he h1 hne h2]
    refine (hok e he).stable (h.rows e he h1) hg fun k hk => ?_
    obtain ⟨e', m1, m2⟩ := hrow k hk
    exact hnotM e he h1 h2 e' m1 k m2
  have hnw : ∀ e ∈ E, e.born = i → e ∈ N := fun e he hbi => by
    rw [← hN, List.mem_filter]; exact ⟨he, by simpa using hbi⟩
  have hcross : ∀ e ∈ E, e.born = i → ∀ e' ∈ E, e'.born ≠ i → e'.act (upd f i) → ∀ k ∈ e.ft (a.put d v) w', k ∉ e'.ft (a.put d v) w' := by
    intro e he hbi e' he' hne hae' k hk hk'
    obtain ⟨h1, h2⟩ := hold e' he' hae' hne
    rw [(hst e' he' hae' hne).2] at hk'
    rcases (hnew e (hnw e he hbi)).2 k hk with h3 | ⟨m, hm, hkm⟩
    · have := (hok e' he').lt (h.rows e' he' h1) hk'
      omega
    · exact hnotM e' he' h1 h2 m hm k hkm hk'
  refine ⟨fun e he hae => ?_, fun e he e' he' hbb hae hae' k hk => ?_⟩
  · by_cases hbi : e.born = i
    · exact (hnew e (hnw e he hbi)).1
    · exact (hst e he hae hbi).1
  · by_cases hbi : e.born = i
    · exact hcross e he hbi e' he' (fun x => hbb (hbi.trans x.symm)) hae' k hk
    · by_cases hbi' : e'.born = i
      · exact fun hk' => hcross e' he' hbi' e he hbi hae k hk' hk
      · rw [(hst e he hae hbi).2] at hk
        rw [(hst e' he' hae' hbi').2]
        exact h.apart e he e' he' hbb (hold e he hae hbi).1 (hold e' he' hae' hbi').1 k hk

/-- What holds in the midst of the region, whatever has come up. -/
structure RInv (D : List Nat) (a0 : Act) (w0 : World) (ps : List (Nat × Nat × Value)) (E : List Ent) (f : Nat → Bool) (a : Act) (w : World) : Prop where
  agree : Agree D a0 a
  ext : Ext w0 w
  vals : ∀ p ∈ ps, f p.1 = true → a.eval (.tmp p.2.1) = p.2.2
  led : Led E f a w

theorem RInv.at_ {D : List Nat} {a0 a : Act} {w0 w : World} {ps : List (Nat × Nat × Value)} {E : List Ent} {f : Nat → Bool} (h : RInv D a0 w0 ps E f a w) (j : Nat) {i d : Nat} {v : Value} (hj : ps[j]? = some (i, d, v)) (hf : f i = true) : a.eval (.tmp d) = v :=
  h.vals (i, d, v) (List.mem_of_getElem? hj) hf
theorem Agree.att {D : List Nat} {a0 a : Act} (h : Agree D a0 a) {t : Nat} (ht : t ∉ D) : a.tmps[t]?.getD undef = a0.tmps[t]?.getD undef := by rw [h.2.2 t ht]
theorem RInv.att {D : List Nat} {a0 a : Act} {w0 w : World} {ps : List (Nat × Nat × Value)} {E : List Ent} {f : Nat → Bool} (h : RInv D a0 w0 ps E f a w) (j : Nat) {i d : Nat} {v : Value} (hj : ps[j]? = some (i, d, v)) (hf : f i = true) : a.tmps[d]?.getD undef = v := by
  have := h.at_ j hj hf
  simp only [Act.eval, Array.getD_eq_getD_getElem?] at this
  exact this
theorem RInv.start {D : List Nat} {a0 : Act} {w0 : World} {ps : List (Nat × Nat × Value)} {E : List Ent} : RInv D a0 w0 ps E (fun _ => false) a0 w0 :=
  ⟨Agree.refl _ _, Ext.refl _, fun _ _ h => (by cases h), ⟨fun _ _ h => (by cases h.1), fun _ _ _ _ _ h => (by cases h.1)⟩⟩

/-- The tables are sound: checked once a region, by the kernel. -/
def tabOK (D : List Nat) (n : Nat) (ps : List (Nat × Nat × Value)) (E : List Ent) : Bool :=
  (D.all fun d => decide (d < n)) && (ps.all fun p => ps.all fun q => p.1 == q.1 || p.2.1 != q.2.1) && (E.all fun e => E.all fun e' => e.born != e'.born || e.dies == e'.dies)

section
variable {P : Program} {ops : Array Oper} {Q : Exit → Act → World → Prop} {D : List Nat} {a0 a : Act} {w0 w : World} {ps : List (Nat × Nat × Value)} {E : List Ent} {f : Nat → Bool} {i : Nat} {o : Oper}

theorem wpOp_of {K : Act → World → Prop} (ho : ops[i]? = some o) (hgd : o.guard = none) (h : o.wp P a w K Q) : wpOp P ops Q i K a w := by
  unfold wpOp
  rw [ho]
  have : Region.wanted o (yielded ops a.tmps) = true := by unfold Region.wanted; rw [hgd]
  simp only [this, if_true]
  exact .inl h

/-- An operation that writes, or makes, rows. -/
theorem RInv.row (h : RInv D a0 w0 ps E f a w) (hok : ∀ e ∈ E, e.OK w0.heap.size) (hb : (E.all fun e => E.all fun e' => e.born != e'.born || e.dies == e'.dies) = true)
    (d : Option Nat) (hd : (match d with | some d => D.contains d | none => true) = true) (v : Value) {w' : World} {row : Option Nat} (hg : w.grownBy w' row) (hfi : f i = false)
    (hslot : ∀ e ∈ E, e.act f → e.born ≠ i → e.dies ≠ i → some e.slot ≠ d) (hps : (ps.all fun p => p.1 != i && (some p.2.1 != d)) = true)
    (N M : List Ent) (hN : E.filter (·.born == i) = N) (hM : E.filter (·.dies == i) = M) (hact : ∀ e ∈ M, f e.born = true)
    (hrow : ∀ k, row = some k → ∃ e ∈ M, k ∈ e.ft a w)
    (hnew : ∀ e ∈ N, e.R w' ((a.put d v).eval (.tmp e.slot)) ∧ ∀ k ∈ e.ft (a.put d v) w', w.heap.size ≤ k ∨ ∃ e' ∈ M, k ∈ e'.ft a w) :
    RInv D a0 w0 ps E (upd f i) (a.put d v) w' := by
  refine ⟨?_, ?_, ?_, h.led.step hok hb i d v hg hfi hslot N M hN hM hact hrow hnew⟩
  · cases d with
    | none => exact h.agree
    | some d => exact h.agree.put (by simpa using hd) v
  · refine Below.grown h.ext hg h.ext.size fun k hk => ?_
    obtain ⟨e, he, hke⟩ := hrow k hk
    have h1 := hact e he
    rw [← hM, List.mem_filter] at he
    have h2 : e.dies = i := by simpa using he.2
    exact ((hok e he.1).lt (h.led.rows e he.1 ⟨h1, by rw [h2]; exact hfi⟩) hke).1
  · intro p hp hpf
    have h1 := List.all_eq_true.1 hps p hp
    simp only [Bool.and_eq_true, bne_iff_ne] at h1
    rw [upd_ne f h1.1] at hpf
    rw [eval_put_slot h1.2]
    exact h.vals p hp hpf

/-- An operation that only yields a value known ahead. -/
theorem RInv.val (h : RInv D a0 w0 ps E f a w) (hok : ∀ e ∈ E, e.OK w0.heap.size) (hb : (E.all fun e => E.all fun e' => e.born != e'.born || e.dies == e'.dies) = true)
    (d : Nat) (hd : D.contains d = true) (hdl : d < a0.tmps.size) (v : Value) (hfi : f i = false)
    (hslot : ∀ e ∈ E, e.act f → e.born ≠ i → e.dies ≠ i → some e.slot ≠ some d) (hps : (ps.all fun p => (p.1 == i) == (p.2.1 == d)) = true) (hv : ∀ p ∈ ps, p.1 = i → p.2.2 = v)
    (hN : E.filter (·.born == i) = []) (hM : E.filter (·.dies == i) = []) :
    RInv D a0 w0 ps E (upd f i) (a.put (some d) v) w := by
  refine ⟨h.agree.put (by simpa using hd) v, h.ext, ?_, h.led.step hok hb i (some d) v (World.grownBy.refl w none) hfi hslot [] [] hN hM (fun _ he => by cases he) (fun _ hk => by cases hk) (fun _ he => by cases he)⟩
  intro p hp hpf
  have h1 := List.all_eq_true.1 hps p hp
  by_cases hpi : p.1 = i
  · have h2 : p.2.1 = d := by simpa [hpi] using h1
    rw [h2, hv p hp hpi]
    exact eval_put_eq (by rw [h.agree.2.1]; exact hdl)
  · have h2 : p.2.1 ≠ d := fun e => by
      rw [e] at h1
      simp [hpi] at h1
    rw [upd_ne f hpi] at hpf
    rw [eval_put_ne h2]
    exact h.vals p hp hpf
end
end Go.Proofs.YtcnhbodemabbdaaDoor

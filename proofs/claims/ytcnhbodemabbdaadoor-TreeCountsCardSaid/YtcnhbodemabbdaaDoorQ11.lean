/- A region that draws its order, by ONE invariant over all its orders; and a ledger of the rows that its operations own. -/
import Derived.Test.YtcnhbodemabbdaaDoorQ06
import Derived.Test.YtcnhbodemabbdaaDoorQ01
import Derived.Great.BuildSlice
namespace Go.Proofs.YtcnhbodemabbdaaDoor
open Go.RowKit
set_option linter.unusedVariables false

section
variable {P : Program} {ops : Array Oper} {Q : Exit → Act → World → Prop} {md : Region.Mode}

def flag (listed : Array Bool) (i : Nat) : Bool := listed.getD i false
def upd (f : Nat → Bool) (i : Nat) : Nat → Bool := fun j => if j = i then true else f j
theorem upd_eq (f : Nat → Bool) (i : Nat) : upd f i i = true := by simp [upd]
theorem upd_ne (f : Nat → Bool) {i j : Nat} (h : j ≠ i) : upd f i j = f j := by simp [upd, h]
theorem flag_set {listed : Array Bool} {i : Nat} (h : i < listed.size) : flag (listed.setIfInBounds i true) = upd (flag listed) i := by
  funext j
  unfold flag upd
  by_cases hj : j = i
  · subst hj; simp [h]
  · rw [if_neg hj]; simp [Array.getElem?_setIfInBounds_ne (Ne.symm hj)]

/-- Every edge goes back in the text. -/
def backward (md : Region.Mode) (ops : Array Oper) : Bool :=
  (List.range ops.size).all fun i => ((ops[i]?).map (·.after.all fun e => !Region.binds md e || decide (e.on < i))).getD true
/-- What stands ahead of what has come up has come up. -/
def ClosedF (md : Region.Mode) (ops : Array Oper) (f : Nat → Bool) : Prop :=
  ∀ j o, ops[j]? = some o → f j = true → ∀ e ∈ o.after, Region.binds md e = true → f e.on = true

theorem backward_at (hb : backward md ops = true) {i : Nat} {o : Oper} (ho : ops[i]? = some o) : ∀ e ∈ o.after, Region.binds md e = true → e.on < i := by
  intro e he hbi
  have hlt : i < ops.size := (Array.getElem?_eq_some_iff.1 ho).1
  have h1 := List.all_eq_true.1 hb i (List.mem_range.2 hlt)
  rw [ho, Option.map_some, Option.getD_some] at h1
  have h2 := Array.all_eq_true_iff_forall_mem.1 h1 e he
  simpa [hbi] using h2

theorem ready_all (hb : backward md ops = true) {listed : Array Bool} (hs : listed.size = ops.size) (h : Region.ready md ops listed = []) : ∀ i < ops.size, flag listed i = true := by
  intro i
  induction i using Nat.strongRecOn with
  | _ i ih =>
    intro hi
    cases hf : flag listed i with
    | true => rfl
    | false =>
      exfalso
      have hm : i ∈ Region.ready md ops listed := by
        refine mem_ready.2 ⟨?_, ops[i], Array.getElem?_eq_getElem hi, fun e he hbi => ?_⟩
        · unfold flag at hf
          simpa [hs, hi] using hf
        · have hlt := backward_at hb (Array.getElem?_eq_getElem hi) e he hbi
          exact ih e.on hlt (Nat.lt_trans hlt hi)
      rw [h] at hm
      cases hm

theorem flag_far {listed : Array Bool} (hs : listed.size = ops.size) : ∀ i, ops.size ≤ i → flag listed i = false := by
  intro i hi
  unfold flag
  rw [Array.getD_eq_getD_getElem?, Array.getElem?_eq_none (by omega)]
  rfl
theorem wpAny_inv (hb : backward md ops = true) (I : (Nat → Bool) → Act → World → Prop)
    (hstep : ∀ f a w, I f a w → ClosedF md ops f → ∀ i o, ops[i]? = some o → f i = false → (∀ e ∈ o.after, Region.binds md e = true → f e.on = true) → wpOp P ops Q i (I (upd f i)) a w)
    (hdone : ∀ f a w, I f a w → (∀ i < ops.size, f i = true) → (∀ i, ops.size ≤ i → f i = false) → Q .normal a w) :
    ∀ fuel listed a w, listed.size = ops.size → listed.toList.countP (!·) ≤ fuel → ClosedF md ops (flag listed) → I (flag listed) a w → wpAny P md ops Q fuel listed a w
  | 0, listed, a, w, hs, hc, hcl, hI => by
    have hall : ∀ b ∈ listed.toList, b = true := by
      intro b hbm
      cases b with
      | true => rfl
      | false =>
        have := (List.countP_pos_iff (p := (!·))).2 ⟨false, hbm, rfl⟩
        omega
    have hr : Region.ready md ops listed = [] := by
      apply List.eq_nil_iff_forall_not_mem.2
      intro j hj
      obtain ⟨h0, o, ho, _⟩ := mem_ready.1 hj
      have hlt : j < listed.size := by rw [hs]; exact (Array.getElem?_eq_some_iff.1 ho).1
      have h1 : listed[j] = true := hall _ (Array.mem_toList_iff.2 (Array.getElem_mem hlt))
      simp [hlt, h1] at h0
    exact ⟨hr, hdone _ a w hI (ready_all hb hs hr) (flag_far hs)⟩
  | fuel + 1, listed, a, w, hs, hc, hcl, hI => by
    refine ⟨fun hr => hdone _ a w hI (ready_all hb hs hr) (flag_far hs), fun i hi => ?_⟩
    obtain ⟨h0, o, ho, hall⟩ := mem_ready.1 hi
    have hlt : i < listed.size := by rw [hs]; exact (Array.getElem?_eq_some_iff.1 ho).1
    have hf : flag listed i = false := by
      unfold flag
      simpa [hlt] using h0
    refine wpOp_mono (fun a' w' h => wpAny_inv hb I hstep hdone fuel _ a' w' (by simpa using hs) ?_ ?_ ?_) (hstep _ a w hI hcl i o ho hf hall)
    · have hli : listed[i] = false := by simpa [hlt] using h0
      have : (listed.setIfInBounds i true).toList = listed.toList.set i true := by simp
      rw [this]
      have hlt' : i < listed.toList.length := by simpa using hlt
      have e : listed.toList = listed.toList.take i ++ listed.toList[i] :: listed.toList.drop (i + 1) := by
        rw [← List.drop_eq_getElem_cons hlt', List.take_append_drop]
      have e2 : listed.toList.set i true = listed.toList.take i ++ true :: listed.toList.drop (i + 1) := by
        rw [List.set_eq_take_append_cons_drop, if_pos hlt']
      have hl2 : listed.toList[i] = false := by simpa using hli
      have c1 : listed.toList.countP (!·) = (listed.toList.take i).countP (!·) + ((listed.toList.drop (i + 1)).countP (!·) + 1) := by
        conv => lhs; rw [e]
        rw [List.countP_append, hl2, List.countP_cons]
        simp
      have c2 : (listed.toList.set i true).countP (!·) = (listed.toList.take i).countP (!·) + (listed.toList.drop (i + 1)).countP (!·) := by
        rw [e2, List.countP_append, List.countP_cons]
        simp
      omega
    · rw [flag_set hlt]
      intro j o' ho' hj e he hbi
      by_cases hej : e.on = i
      · rw [hej]; exact upd_eq _ _
      · rw [upd_ne _ hej]
        by_cases hji : j = i
        · subst hji
          rw [ho] at ho'
          cases ho'
          exact hall e he hbi
        · rw [upd_ne _ hji] at hj
          exact hcl j o' ho' hj e he hbi
    · rw [flag_set hlt]; exact h

/-- A region that draws its order: the invariant, from the world behind the draw. -/
theorem wp_region_inv {id : Nat} {a : Act} {w : World} (hm : P.follows .mixedOrders = true) (hb : backward .any ops = true) (I : (Nat → Bool) → Act → World → Prop)
    (hI : I (fun _ => false) a w.drew)
    (hstep : ∀ f a w, I f a w → ClosedF .any ops f → ∀ i o, ops[i]? = some o → f i = false → (∀ e ∈ o.after, Region.binds .any e = true → f e.on = true) → wpOp P ops Q i (I (upd f i)) a w)
    (hdone : ∀ f a w, I f a w → (∀ i < ops.size, f i = true) → (∀ i, ops.size ≤ i → f i = false) → Q .normal a w) : (Code.region id ops true).wp P Q a w := by
  refine wp_region_any hm (wpAny_inv hb I hstep hdone ops.size _ a _ (by simp) ?_ ?_ ?_)
  · refine Nat.le_trans List.countP_le_length ?_
    simp
  · intro j o ho hj
    simp [flag, Array.getElem?_replicate] at hj
    split at hj <;> simp at hj
  · have : flag (Array.replicate ops.size false) = fun _ => false := by
      funext j
      simp [flag, Array.getElem?_replicate]
      split <;> rfl
    rw [this]
    exact hI
end

/-- A law for each operation, in the text's order. -/
def EachOp (F : Nat → Oper → Prop) : Nat → List Oper → Prop
  | _, [] => True
  | k, o :: os => F k o ∧ EachOp F (k + 1) os
theorem EachOp.get {F : Nat → Oper → Prop} : ∀ (l : List Oper) (k : Nat), EachOp F k l → ∀ i o, l[i]? = some o → F (k + i) o
  | [], _, _, i, o, h => by cases h
  | x :: l, k, h, 0, o, ho => by
    obtain rfl : x = o := Option.some.inj ho
    exact h.1
  | x :: l, k, h, i + 1, o, ho => by
    have h2 := EachOp.get l (k + 1) h.2 i o ho
    rwa [show k + 1 + i = k + (i + 1) by omega] at h2
theorem wp_region_ops {P : Program} {ops : Array Oper} {Q : Exit → Act → World → Prop} {id : Nat} {a : Act} {w : World} (I : (Nat → Bool) → Act → World → Prop) (hm : P.follows .mixedOrders = true) (hb : backward .any ops = true)
    (hI : I (fun _ => false) a w.drew)
    (hstep : EachOp (fun i o => ∀ f a w, I f a w → f i = false → (∀ e ∈ o.after, Region.binds .any e = true → f e.on = true) → (∀ j o', ops[j]? = some o' → (o'.after.toList.any fun e => Region.binds .any e && e.on == i) = true → f j = false) → wpOp P ops Q i (I (upd f i)) a w) 0 ops.toList)
    (hdone : ∀ f a w, I f a w → (∀ i < ops.size, f i = true) → (∀ i, ops.size ≤ i → f i = false) → Q .normal a w) : (Code.region id ops true).wp P Q a w := by
  refine wp_region_inv hm hb I hI (fun f a w h hcl i o ho hf hp => ?_) hdone
  have h1 := EachOp.get ops.toList 0 hstep i o (by simpa using ho)
  rw [Nat.zero_add] at h1
  refine h1 f a w h hf hp fun j o' ho' hany => ?_
  rw [List.any_eq_true] at hany
  obtain ⟨e, he, h2⟩ := hany
  simp only [Bool.and_eq_true, beq_iff_eq] at h2
  cases hj : f j with
  | false => rfl
  | true =>
    have h3 := hcl j o' ho' hj e (by simpa using he) h2.1
    rw [h2.2, hf] at h3
    cases h3
theorem pre_of {o : Oper} {f : Nat → Bool} (h : ∀ e ∈ o.after, Region.binds .any e = true → f e.on = true) (k : Nat) (hk : (o.after.toList.any fun e => Region.binds .any e && e.on == k) = true) : f k = true := by
  rw [List.any_eq_true] at hk
  obtain ⟨e, he, h1⟩ := hk
  have he : e ∈ o.after := by simpa using he
  simp only [Bool.and_eq_true, beq_iff_eq] at h1
  rw [← h1.2]
  exact h e he h1.1

/-! ### The frame, but for what the region's operations write -/
def Agree (D : List Nat) (a0 a : Act) : Prop := a.defers = a0.defers ∧ a.tmps.size = a0.tmps.size ∧ ∀ t, t ∉ D → a.tmps[t]? = a0.tmps[t]?
theorem Agree.refl (D : List Nat) (a : Act) : Agree D a a := ⟨rfl, rfl, fun _ _ => rfl⟩
theorem Agree.put {D : List Nat} {a0 a : Act} (h : Agree D a0 a) {d : Nat} (hd : d ∈ D) (v : Value) : Agree D a0 (a.put (some d) v) := by
  refine ⟨h.1, by simp [Act.put, h.2.1], fun t ht => ?_⟩
  have hne : d ≠ t := fun e => ht (e ▸ hd)
  simp only [Act.put]
  rw [Array.getElem?_setIfInBounds_ne hne]
  exact h.2.2 t ht
theorem Agree.eval {D : List Nat} {a0 a : Act} (h : Agree D a0 a) {t : Nat} (ht : t ∉ D) : a.eval (.tmp t) = a0.eval (.tmp t) := by
  simp only [Act.eval, Array.getD_eq_getD_getElem?]
  rw [h.2.2 t ht]
theorem eval_put_ne {a : Act} {d t : Nat} {v : Value} (h : t ≠ d) : (a.put (some d) v).eval (.tmp t) = a.eval (.tmp t) := by
  simp only [Act.eval, Act.put, Array.getD_eq_getD_getElem?]
  rw [Array.getElem?_setIfInBounds_ne (Ne.symm h)]
theorem eval_put_eq {a : Act} {d : Nat} {v : Value} (h : d < a.tmps.size) : (a.put (some d) v).eval (.tmp d) = v := by
  simp [Act.eval, Act.put, h]
theorem foldl_put_get (g : Nat → Value) : ∀ (D : List Nat) (b : Act) (t : Nat), t < b.tmps.size → (D.foldl (fun b d => b.put (some d) (g d)) b).tmps[t]? = if t ∈ D then some (g t) else b.tmps[t]?
  | [], b, t, _ => by simp
  | d :: D, b, t, ht => by
    rw [List.foldl_cons, foldl_put_get g D _ t (by simpa [Act.put] using ht)]
    by_cases hm : t ∈ D
    · simp [hm]
    · rw [if_neg hm]
      by_cases hd : t = d
      · subst hd; simp [Act.put, ht]
      · rw [if_neg (by simp [hd, hm])]
        simp only [Act.put]
        rw [Array.getElem?_setIfInBounds_ne (Ne.symm hd)]
theorem foldl_put_size (g : Nat → Value) : ∀ (D : List Nat) (b : Act), (D.foldl (fun b d => b.put (some d) (g d)) b).tmps.size = b.tmps.size ∧ (D.foldl (fun b d => b.put (some d) (g d)) b).defers = b.defers
  | [], b => ⟨rfl, rfl⟩
  | d :: D, b => by
    rw [List.foldl_cons]
    obtain ⟨h1, h2⟩ := foldl_put_size g D (b.put (some d) (g d))
    exact ⟨by rw [h1]; simp [Act.put], by rw [h2]; rfl⟩
/-- The frame, written out. -/
theorem Agree.out {D : List Nat} {a0 a : Act} (h : Agree D a0 a) : a = D.foldl (fun b d => b.put (some d) (a.eval (.tmp d))) a0 := by
  obtain ⟨h1, h2, h3⟩ := h
  obtain ⟨e1, e2⟩ := foldl_put_size (fun d => a.eval (.tmp d)) D a0
  have ht : a.tmps = (D.foldl (fun b d => b.put (some d) (a.eval (.tmp d))) a0).tmps := by
    apply Array.ext
    · rw [e1, h2]
    · intro t ht1 ht2
      have hh := foldl_put_get (fun d => a.eval (.tmp d)) D a0 t (by rw [← h2]; exact ht1)
      rw [Array.getElem?_eq_getElem ht2] at hh
      apply Option.some.inj
      rw [hh]
      by_cases hm : t ∈ D
      · rw [if_pos hm]
        simp [Act.eval, ht1]
      · rw [if_neg hm, ← h3 t hm, Array.getElem?_eq_getElem ht1]
  cases a with
  | mk t d =>
    cases hf : D.foldl (fun b d' => b.put (some d') ((Act.mk t d).eval (.tmp d'))) a0 with
    | mk t' d' =>
      rw [hf] at ht e2
      simp only at ht e2 h1
      rw [ht, h1, ← e2]

/-! ### The ledger: which slot owns which rows, from its operation's birth to the operation that takes them -/
structure Ent where
  born : Nat
  dies : Nat
  slot : Nat
  R : World → Value → Prop
  foot : World → Value → List Nat
structure Ent.OK (B : Nat) (e : Ent) : Prop where
  stable : ∀ {w w' : World} {v : Value} {row : Option Nat}, e.R w v → w.grownBy w' row → (∀ k, row = some k → k ∉ e.foot w v) → e.R w' v ∧ e.foot w' v = e.foot w v
  lt : ∀ {w : World} {v : Value} {k : Nat}, e.R w v → k ∈ e.foot w v → B ≤ k ∧ k < w.heap.size
def Ent.act (f : Nat → Bool) (e : Ent) : Prop := f e.born = true ∧ f e.dies = false
def Ent.ft (a : Act) (w : World) (e : Ent) : List Nat := e.foot w (a.eval (.tmp e.slot))

structure Led (E : List Ent) (f : Nat → Bool) (a : Act) (w : World) : Prop where
  rows : ∀ e ∈ E, e.act f → e.R w (a.eval (.tmp e.slot))
  apart : ∀ e ∈ E, ∀ e' ∈ E, e.born ≠ e'.born → e.act f → e'.act f → ∀ k ∈ e.ft a w, k ∉ e'.ft a w

theorem eval_put_slot {a : Act} {d : Option Nat} {t : Nat} {v : Value} (h : some t ≠ d) : (a.put d v).eval (.tmp t) = a.eval (.tmp t) := by
  cases d with
  | none => rfl
  | some d => exact eval_put_ne (fun e => h (by rw [e]))

theorem Led.step {B : Nat} {E : List Ent} {f : Nat → Bool} {a : Act} {w w' : World} (h : Led E f a w) (hok : ∀ e ∈ E, e.OK B)
    (hb : (E.all fun e => E.all fun e' => e.born != e'.born || e.dies == e'.dies) = true) (i : Nat) (d : Option Nat) (v : Value) {row : Option Nat} (hg : w.grownBy w' row)
    (hfi : f i = false) (hslot : ∀ e ∈ E, e.act f → e.born ≠ i → e.dies ≠ i → some e.slot ≠ d)
    (N M : List Ent) (hN : E.filter (·.born == i) = N) (hM : E.filter (·.dies == i) = M) (hact : ∀ e ∈ M, f e.born = true)
    (hrow : ∀ k, row = some k → ∃ e ∈ M, k ∈ e.ft a w)
    (hnew : ∀ e ∈ N, e.R w' ((a.put d v).eval (.tmp e.slot)) ∧ ∀ k ∈ e.ft (a.put d v) w', w.heap.size ≤ k ∨ ∃ e' ∈ M, k ∈ e'.ft a w) :
    Led E (upd f i) (a.put d v) w' := by
  have hb' : ∀ e ∈ E, ∀ e' ∈ E, e.born = e'.born → e.dies = e'.dies := by
    intro e he e' he' hbb
    have h1 := List.all_eq_true.1 (List.all_eq_true.1 hb e he) e' he'
    simpa [hbb] using h1
  have hMm : ∀ e ∈ M, e ∈ E ∧ e.dies = i ∧ e.act f := by
    intro e he
    have h1 := hact e he
    rw [← hM, List.mem_filter] at he
    have h2 : e.dies = i := by simpa using he.2
    exact ⟨he.1, h2, h1, by rw [h2]; exact hfi⟩
  have hold : ∀ e ∈ E, e.act (upd f i) → e.born ≠ i → e.act f ∧ e.dies ≠ i := by
    intro e he ⟨h1, h2⟩ hne
    rw [upd_ne f hne] at h1
    have hd : e.dies ≠ i := fun e' => by rw [e', upd_eq] at h2; cases h2
    rw [upd_ne f hd] at h2
    exact ⟨⟨h1, h2⟩, hd⟩
  have hnotM : ∀ e ∈ E, e.act f → e.dies ≠ i → ∀ e' ∈ M, ∀ k ∈ e'.ft a w, k ∉ e.ft a w := by
    intro e he hae hde e' he' k hk
    obtain ⟨m1, m2, m3⟩ := hMm e' he'
    refine h.apart e' m1 e he (fun hbb => hde ?_) m3 hae k hk
    rw [← hb' e' m1 e he hbb, m2]
  have hev : ∀ e ∈ E, e.act f → e.born ≠ i → e.dies ≠ i → (a.put d v).eval (.tmp e.slot) = a.eval (.tmp e.slot) := fun e he h0 h1 h2 => eval_put_slot (hslot e he h0 h1 h2)
  have hst : ∀ e ∈ E, e.act (upd f i) → e.born ≠ i → e.R w' ((a.put d v).eval (.tmp e.slot)) ∧ e.ft (a.put d v) w' = e.ft a w := by
    intro e he hae hne
    obtain ⟨h1, h2⟩ := hold e he hae hne
    unfold Ent.ft
    rw [hev e he h1 hne h2]
    refine (hok e he).stable (h.rows e he h1) hg fun k hk => ?_
    obtain ⟨e', m1, m2⟩ := hrow k hk
    exact hnotM e he h1 h2 e' m1 k m2
  have hnw : ∀ e ∈ E, e.born = i → e ∈ N := fun e he hbi => by
    rw [← hN, List.mem_filter]; exact ⟨he, by simpa using hbi⟩
  have hcross : ∀ e ∈ E, e.born = i → ∀ e' ∈ E, e'.born ≠ i → e'.act (upd f i) → ∀ k ∈ e.ft (a.put d v) w', k ∉ e'.ft (a.put d v) w' := by
    intro e he hbi e' he' hne hae' k hk hk'
    obtain ⟨h1, h2⟩ := hold e' he' hae' hne
    rw [(hst e' he' hae' hne).2] at hk'
    rcases (hnew e (hnw e he hbi)).2 k hk with h3 | ⟨m, hm, hkm⟩
    · have := (hok e' he').lt (h.rows e' he' h1) hk'
      omega
    · exact hnotM e' he' h1 h2 m hm k hkm hk'
  refine ⟨fun e he hae => ?_, fun e he e' he' hbb hae hae' k hk => ?_⟩
  · by_cases hbi : e.born = i
    · exact (hnew e (hnw e he hbi)).1
    · exact (hst e he hae hbi).1
  · by_cases hbi : e.born = i
    · exact hcross e he hbi e' he' (fun x => hbb (hbi.trans x.symm)) hae' k hk
    · by_cases hbi' : e'.born = i
      · exact fun hk' => hcross e' he' hbi' e he hbi hae k hk' hk
      · rw [(hst e he hae hbi).2] at hk
        rw [(hst e' he' hae' hbi').2]
        exact h.apart e he e' he' hbb (hold e he hae hbi).1 (hold e' he' hae' hbi').1 k hk

/-- What holds in the midst of the region, whatever has come up. -/
structure RInv (D : List Nat) (a0 : Act) (w0 : World) (ps : List (Nat × Nat × Value)) (E : List Ent) (f : Nat → Bool) (a : Act) (w : World) : Prop where
  agree : Agree D a0 a
  ext : Ext w0 w
  vals : ∀ p ∈ ps, f p.1 = true → a.eval (.tmp p.2.1) = p.2.2
  led : Led E f a w

theorem RInv.at_ {D : List Nat} {a0 a : Act} {w0 w : World} {ps : List (Nat × Nat × Value)} {E : List Ent} {f : Nat → Bool} (h : RInv D a0 w0 ps E f a w) (j : Nat) {i d : Nat} {v : Value} (hj : ps[j]? = some (i, d, v)) (hf : f i = true) : a.eval (.tmp d) = v :=
  h.vals (i, d, v) (List.mem_of_getElem? hj) hf
theorem Agree.att {D : List Nat} {a0 a : Act} (h : Agree D a0 a) {t : Nat} (ht : t ∉ D) : a.tmps[t]?.getD undef = a0.tmps[t]?.getD undef := by rw [h.2.2 t ht]
theorem RInv.att {D : List Nat} {a0 a : Act} {w0 w : World} {ps : List (Nat × Nat × Value)} {E : List Ent} {f : Nat → Bool} (h : RInv D a0 w0 ps E f a w) (j : Nat) {i d : Nat} {v : Value} (hj : ps[j]? = some (i, d, v)) (hf : f i = true) : a.tmps[d]?.getD undef = v := by
  have := h.at_ j hj hf
  simp only [Act.eval, Array.getD_eq_getD_getElem?] at this
  exact this
theorem RInv.start {D : List Nat} {a0 : Act} {w0 : World} {ps : List (Nat × Nat × Value)} {E : List Ent} : RInv D a0 w0 ps E (fun _ => false) a0 w0 :=
  ⟨Agree.refl _ _, Ext.refl _, fun _ _ h => (by cases h), ⟨fun _ _ h => (by cases h.1), fun _ _ _ _ _ h => (by cases h.1)⟩⟩

/-- The tables are sound: checked once a region, by the kernel. -/
def tabOK (D : List Nat) (n : Nat) (ps : List (Nat × Nat × Value)) (E : List Ent) : Bool :=
  (D.all fun d => decide (d < n)) && (ps.all fun p => ps.all fun q => p.1 == q.1 || p.2.1 != q.2.1) && (E.all fun e => E.all fun e' => e.born != e'.born || e.dies == e'.dies)

section
variable {P : Program} {ops : Array Oper} {Q : Exit → Act → World → Prop} {D : List Nat} {a0 a : Act} {w0 w : World} {ps : List (Nat × Nat × Value)} {E : List Ent} {f : Nat → Bool} {i : Nat} {o : Oper}

theorem wpOp_of {K : Act → World → Prop} (ho : ops[i]? = some o) (hgd : o.guard = none) (h : o.wp P a w K Q) : wpOp P ops Q i K a w := by
  unfold wpOp
  rw [ho]
  have : Region.wanted o (yielded ops a.tmps) = true := by unfold Region.wanted; rw [hgd]
  simp only [this, if_true]
  exact .inl h

/-- An operation that writes, or makes, rows. -/
theorem RInv.row (h : RInv D a0 w0 ps E f a w) (hok : ∀ e ∈ E, e.OK w0.heap.size) (hb : (E.all fun e => E.all fun e' => e.born != e'.born || e.dies == e'.dies) = true)
    (d : Option Nat) (hd : (match d with | some d => D.contains d | none => true) = true) (v : Value) {w' : World} {row : Option Nat} (hg : w.grownBy w' row) (hfi : f i = false)
    (hslot : ∀ e ∈ E, e.act f → e.born ≠ i → e.dies ≠ i → some e.slot ≠ d) (hps : (ps.all fun p => p.1 != i && (some p.2.1 != d)) = true)
    (N M : List Ent) (hN : E.filter (·.born == i) = N) (hM : E.filter (·.dies == i) = M) (hact : ∀ e ∈ M, f e.born = true)
    (hrow : ∀ k, row = some k → ∃ e ∈ M, k ∈ e.ft a w)
    (hnew : ∀ e ∈ N, e.R w' ((a.put d v).eval (.tmp e.slot)) ∧ ∀ k ∈ e.ft (a.put d v) w', w.heap.size ≤ k ∨ ∃ e' ∈ M, k ∈ e'.ft a w) :
    RInv D a0 w0 ps E (upd f i) (a.put d v) w' := by
  refine ⟨?_, ?_, ?_, h.led.step hok hb i d v hg hfi hslot N M hN hM hact hrow hnew⟩
  · cases d with
    | none => exact h.agree
    | some d => exact h.agree.put (by simpa using hd) v
  · refine Below.grown h.ext hg h.ext.size fun k hk => ?_
    obtain ⟨e, he, hke⟩ := hrow k hk
    have h1 := hact e he
    rw [← hM, List.mem_filter] at he
    have h2 : e.dies = i := by simpa using he.2
    exact ((hok e he.1).lt (h.led.rows e he.1 ⟨h1, by rw [h2]; exact hfi⟩) hke).1
  · intro p hp hpf
    have h1 := List.all_eq_true.1 hps p hp
    simp only [Bool.and_eq_true, bne_iff_ne] at h1
    rw [upd_ne f h1.1] at hpf
    rw [eval_put_slot h1.2]
    exact h.vals p hp hpf

/-- An operation that only yields a value known ahead. -/
theorem RInv.val (h : RInv D a0 w0 ps E f a w) (hok : ∀ e ∈ E, e.OK w0.heap.size) (hb : (E.all fun e => E.all fun e' => e.born != e'.born || e.dies == e'.dies) = true)
    (d : Nat) (hd : D.contains d = true) (hdl : d < a0.tmps.size) (v : Value) (hfi : f i = false)
    (hslot : ∀ e ∈ E, e.act f → e.born ≠ i → e.dies ≠ i → some e.slot ≠ some d) (hps : (ps.all fun p => (p.1 == i) == (p.2.1 == d)) = true) (hv : ∀ p ∈ ps, p.1 = i → p.2.2 = v)
    (hN : E.filter (·.born == i) = []) (hM : E.filter (·.dies == i) = []) :
    RInv D a0 w0 ps E (upd f i) (a.put (some d) v) w := by
  refine ⟨h.agree.put (by simpa using hd) v, h.ext, ?_, h.led.step hok hb i (some d) v (World.grownBy.refl w none) hfi hslot [] [] hN hM (fun _ he => by cases he) (fun _ hk => by cases hk) (fun _ he => by cases he)⟩
  intro p hp hpf
  have h1 := List.all_eq_true.1 hps p hp
  by_cases hpi : p.1 = i
  · have h2 : p.2.1 = d := by simpa [hpi] using h1
    rw [h2, hv p hp hpi]
    exact eval_put_eq (by rw [h.agree.2.1]; exact hdl)
  · have h2 : p.2.1 ≠ d := fun e => by
      rw [e] at h1
      simp [hpi] at h1
    rw [upd_ne f hpi] at hpf
    rw [eval_put_ne h2]
    exact h.vals p hp hpf
end
end Go.Proofs.YtcnhbodemabbdaaDoor
/- The ledger's entries (rows, structs' values, structs' memory), and what each kind of operation does to it. -/
namespace Go.Proofs.YtcnhbodemabbdaaDoor
open Go.RowKit
set_option linter.unusedVariables false

/-- A row that a slot owns. -/
def entRow (B born dies slot : Nat) (t : TypeId) (sz n : Nat) (xs : List Value) : Ent := ⟨born, dies, slot, fun w v => w.ownsRow B t sz v n xs, fun _ v => v.ownBlock.toList⟩
theorem entRow_ok (B born dies slot : Nat) (t : TypeId) (sz n : Nat) (xs : List Value) : (entRow B born dies slot t sz n xs).OK B :=
  ⟨fun {w w' v row} h hg hr => ⟨World.ownsRow.kept h hg (by
      cases hv : v.ownBlock with
      | none => exact .inl rfl
      | some k =>
        refine .inr fun e => hr k e.symm ?_
        show k ∈ v.ownBlock.toList
        rw [hv]; simp), rfl⟩,
   fun {w v k} h hk => own_lt h (by
      have : k ∈ v.ownBlock.toList := hk
      simpa using this)⟩

/-- A struct's fields: a value that is known, or a row that is owned. -/
inductive Fld where
  | val (v : Value)
  | row (t : TypeId) (sz n : Nat) (xs : List Value)
def fldOK (B : Nat) (w : World) : Fld → Value → Prop
  | .val c, v => v = c
  | .row t sz n xs, v => w.ownsRow B t sz v n xs
def fldsOK (B : Nat) (w : World) : List Fld → List Value → Prop
  | [], [] => True
  | f :: fs, v :: vs => fldOK B w f v ∧ fldsOK B w fs vs
  | _, _ => False
def fldsFoot : List Fld → List Value → List Nat
  | .row .. :: fs, v :: vs => v.ownBlock.toList ++ fldsFoot fs vs
  | .val _ :: fs, _ :: vs => fldsFoot fs vs
  | _, _ => []
theorem fldsOK_kept {B : Nat} {w w' : World} {row : Option Nat} (hg : w.grownBy w' row) : ∀ (fs : List Fld) (vs : List Value), fldsOK B w fs vs → (∀ k, row = some k → k ∉ fldsFoot fs vs) → fldsOK B w' fs vs
  | [], [], _, _ => trivial
  | f :: fs, v :: vs, h, hr => by
    obtain ⟨h1, h2⟩ := h
    cases f with
    | val c => exact ⟨h1, fldsOK_kept hg fs vs h2 hr⟩
    | row t sz n xs =>
      refine ⟨World.ownsRow.kept h1 hg ?_, fldsOK_kept hg fs vs h2 fun k hk hm => hr k hk (List.mem_append_right _ hm)⟩
      cases hv : v.ownBlock with
      | none => exact .inl rfl
      | some k =>
        refine .inr fun e => hr k e.symm (List.mem_append_left _ ?_)
        rw [hv]; simp
  | [], _ :: _, h, _ => h.elim
  | _ :: _, [], h, _ => h.elim
theorem fldsOK_lt {B : Nat} {w : World} {k : Nat} : ∀ (fs : List Fld) (vs : List Value), fldsOK B w fs vs → k ∈ fldsFoot fs vs → B ≤ k ∧ k < w.heap.size
  | [], [], _, hk => by cases hk
  | f :: fs, v :: vs, h, hk => by
    obtain ⟨h1, h2⟩ := h
    cases f with
    | val c => exact fldsOK_lt fs vs h2 hk
    | row t sz n xs =>
      rcases List.mem_append.1 hk with hk | hk
      · exact own_lt h1 (by simpa using hk)
      · exact fldsOK_lt fs vs h2 hk
  | [], _ :: _, h, _ => h.elim
  | _ :: _, [], h, _ => h.elim

/-- A struct's value in a slot, its rows owned. -/
def entAgg (B born dies slot : Nat) (fs : List Fld) : Ent :=
  ⟨born, dies, slot, fun w v => ∃ vs : Array Value, v = .agg vs ∧ fldsOK B w fs vs.toList, fun _ v => match v with | .agg vs => fldsFoot fs vs.toList | _ => []⟩
theorem entAgg_ok (B born dies slot : Nat) (fs : List Fld) : (entAgg B born dies slot fs).OK B :=
  ⟨fun {w w' v row} h hg hr => by
      obtain ⟨vs, rfl, hf⟩ := h
      exact ⟨⟨vs, rfl, fldsOK_kept hg fs vs.toList hf hr⟩, rfl⟩,
   fun {w v k} h hk => by
      obtain ⟨vs, rfl, hf⟩ := h
      exact fldsOK_lt fs vs.toList hf hk⟩

/-- A struct's memory behind a pointer in a slot, its rows owned. -/
def boxFoot (fs : List Fld) (w : World) : Value → List Nat
  | .pointer (some p) => p.block :: (match w.heap[p.block]? with | some (.cells cs _ _) => fldsFoot fs cs.toList | _ => [])
  | _ => []
def entBox (B born dies slot : Nat) (T : TypeId) (fs : List Fld) : Ent :=
  ⟨born, dies, slot, fun w v => ∃ (g : Nat) (vs : Array Value), v = .pointer (some ⟨g, 0, none⟩) ∧ B ≤ g ∧ Blk w g T vs ∧ fldsOK B w fs vs.toList, boxFoot fs⟩
theorem boxFoot_at {fs : List Fld} {w : World} {g : Nat} {T : TypeId} {vs : Array Value} (h : Blk w g T vs) : boxFoot fs w (.pointer (some ⟨g, 0, none⟩)) = g :: fldsFoot fs vs.toList := by
  unfold boxFoot
  have : w.heap[g]? = some (.cells vs T (0, 0)) := h
  simp only [this]
theorem entBox_ok (B born dies slot : Nat) (T : TypeId) (fs : List Fld) : (entBox B born dies slot T fs).OK B :=
  ⟨fun {w w' v row} h hg hr => by
      obtain ⟨g, vs, rfl, hB, hb, hf⟩ := h
      have hr' : ∀ k, row = some k → k ∉ g :: fldsFoot fs vs.toList := fun k hk => by
        have := hr k hk
        rwa [show (entBox B born dies slot T fs).foot w (.pointer (some ⟨g, 0, none⟩)) = _ from boxFoot_at hb] at this
      have hb' : Blk w' g T vs := hb.grown hg fun e => hr' g e.symm (List.mem_cons_self ..)
      exact ⟨⟨g, vs, rfl, hB, hb', fldsOK_kept hg fs vs.toList hf fun k hk hm => hr' k hk (List.mem_cons_of_mem _ hm)⟩, (boxFoot_at hb').trans (boxFoot_at hb).symm⟩,
   fun {w v k} h hk => by
      obtain ⟨g, vs, rfl, hB, hb, hf⟩ := h
      rw [show (entBox B born dies slot T fs).foot w (.pointer (some ⟨g, 0, none⟩)) = _ from boxFoot_at hb] at hk
      rcases List.mem_cons.1 hk with rfl | hk
      · exact ⟨hB, hb.lt⟩
      · exact fldsOK_lt fs vs.toList hf hk⟩

section
variable {P : Program} {ops : Array Oper} {Q : Exit → Act → World → Prop} {D : List Nat} {a0 a : Act} {w0 w : World} {ps : List (Nat × Nat × Value)} {E : List Ent} {f : Nat → Bool} {i : Nat} {o : Oper}

/-- What the kernel checks of an operation that is no yield: its slot, its entries. -/
def rowTab (D : List Nat) (ps : List (Nat × Nat × Value)) (E : List Ent) (i : Nat) (d : Option Nat) : Bool :=
  (match d with | some d => D.contains d | none => true) && (E.all fun e => e.born == i || e.dies == i || some e.slot != d) && (ps.all fun p => p.1 != i && (some p.2.1 != d))
theorem rowTab_slot {D : List Nat} {ps : List (Nat × Nat × Value)} {E : List Ent} {i : Nat} {d : Option Nat} (h : (E.all fun e => e.born == i || e.dies == i || some e.slot != d) = true) (f : Nat → Bool) : ∀ e ∈ E, e.act f → e.born ≠ i → e.dies ≠ i → some e.slot ≠ d := by
  intro e he _ h1 h2
  have h3 := List.all_eq_true.1 h e he
  simpa [h1, h2] using h3
def valTab (D : List Nat) (ps : List (Nat × Nat × Value)) (E : List Ent) (i d : Nat) : Bool :=
  D.contains d && (E.all fun e => e.born != i && e.dies != i && e.slot != d) && (ps.all fun p => (p.1 == i) == (p.2.1 == d))
def diesTab (E : List Ent) : Bool := E.all fun e => E.all fun e' => e.born != e'.born || e.dies == e'.dies

theorem wp_val {K : Act → World → Prop} {s : Sem Value} {v : Value} {w' : World} (hs : execOp a.eval o = (do pure (Next.value (← s)))) (hrun : s.run P w = .ok v w') (h : K (a.put o.dst v) w') : o.wp P a w K Q := by
  unfold Oper.wp
  rw [hs]
  simp only [Sem.run_bind, hrun, Result.andThen_ok, Sem.run_pure]
  exact h

theorem wp_yield {K : Act → World → Prop} {v : Value} {w' : World} (hrun : (execOp a.eval o).run P w = .ok (.value v) w') (h : K (a.put o.dst v) w') : o.wp P a w K Q := by
  unfold Oper.wp
  rw [hrun]
  exact h
/-- An operation that only yields a value known ahead. -/
theorem RInv.yield (h : RInv D a0 w0 ps E f a w) (hok : ∀ e ∈ E, e.OK w0.heap.size) (hb : diesTab E = true) (hfi : f i = false) (ho : ops[i]? = some o) (hgd : o.guard = none) (d : Nat) (hod : o.dst = some d) (hdl : d < a0.tmps.size)
    (ht : valTab D ps E i d = true) (v : Value) (hv : ps.filter (·.1 == i) = [(i, d, v)]) (hrun : (execOp a.eval o).run P w = .ok (.value v) w) : wpOp P ops Q i (RInv D a0 w0 ps E (upd f i)) a w := by
  refine wpOp_of ho hgd (wp_yield hrun ?_)
  rw [hod]
  simp only [valTab, Bool.and_eq_true] at ht
  obtain ⟨⟨t1, t2⟩, t3⟩ := ht
  have h2 : ∀ e ∈ E, e.born ≠ i ∧ e.dies ≠ i ∧ e.slot ≠ d := fun e he => by
    have := List.all_eq_true.1 t2 e he
    simp only [Bool.and_eq_true, bne_iff_ne] at this
    exact ⟨this.1.1, this.1.2, this.2⟩
  have hv' : ∀ p ∈ ps, p.1 = i → p.2.2 = v := fun p hp hpi => by
    have hm : p ∈ ps.filter (·.1 == i) := List.mem_filter.2 ⟨hp, by simpa using hpi⟩
    rw [hv, List.mem_singleton] at hm
    rw [hm]
  refine h.val hok hb d t1 hdl v hfi ?_ t3 hv' ?_ ?_
  · intro e he _ _ _ e'
    exact (h2 e he).2.2 (Option.some.inj e')
  · exact List.filter_eq_nil_iff.2 fun e he => by simpa using (h2 e he).1
  · exact List.filter_eq_nil_iff.2 fun e he => by simpa using (h2 e he).2.1

theorem RInv.value (h : RInv D a0 w0 ps E f a w) (hok : ∀ e ∈ E, e.OK w0.heap.size) (hb : diesTab E = true) (hfi : f i = false) (ho : ops[i]? = some o) (hgd : o.guard = none) (d : Nat) (hod : o.dst = some d) (hdl : d < a0.tmps.size)
    (ht : valTab D ps E i d = true) (v : Value) (hv : ps.filter (·.1 == i) = [(i, d, v)]) {s : Sem Value} (hs : execOp a.eval o = (do pure (Next.value (← s)))) (hrun : s.run P w = .ok v w) : wpOp P ops Q i (RInv D a0 w0 ps E (upd f i)) a w := by
  refine wpOp_of ho hgd (wp_val hs hrun ?_)
  rw [hod]
  simp only [valTab, Bool.and_eq_true] at ht
  obtain ⟨⟨t1, t2⟩, t3⟩ := ht
  have h2 : ∀ e ∈ E, e.born ≠ i ∧ e.dies ≠ i ∧ e.slot ≠ d := fun e he => by
    have := List.all_eq_true.1 t2 e he
    simp only [Bool.and_eq_true, bne_iff_ne] at this
    exact ⟨this.1.1, this.1.2, this.2⟩
  have hv' : ∀ p ∈ ps, p.1 = i → p.2.2 = v := fun p hp hpi => by
    have hm : p ∈ ps.filter (·.1 == i) := List.mem_filter.2 ⟨hp, by simpa using hpi⟩
    rw [hv, List.mem_singleton] at hm
    rw [hm]
  refine h.val hok hb d t1 hdl v hfi ?_ t3 hv' ?_ ?_
  · intro e he _ _ _ e'
    exact (h2 e he).2.2 (Option.some.inj e')
  · exact List.filter_eq_nil_iff.2 fun e he => by simpa using (h2 e he).1
  · exact List.filter_eq_nil_iff.2 fun e he => by simpa using (h2 e he).2.1

theorem RInv.move (h : RInv D a0 w0 ps E f a w) (hok : ∀ e ∈ E, e.OK w0.heap.size) (hb : diesTab E = true) (hfi : f i = false) (ho : ops[i]? = some o) (hgd : o.guard = none) (d : Nat) (hod : o.dst = some d) (hdl : d < a0.tmps.size)
    (ht : valTab D ps E i d = true) (v : Value) (hv : ps.filter (·.1 == i) = [(i, d, v)]) (x : Operand) (hop : o.op = .move x) (hx : a.eval x = v) : wpOp P ops Q i (RInv D a0 w0 ps E (upd f i)) a w := by
  refine h.value hok hb hfi ho hgd d hod hdl ht v hv (s := Pure.pure v) ?_ ?_
  · unfold execOp
    simp only [hop, hx]
    rfl
  · simp
theorem exec_buildSlice {t : TypeId} {n : Nat} {parts : Array (Nat × Operand)} {ps' : Array (Nat × Value)} {ρ : Operand → Value} (ho : o.op = .buildSlice t n parts) (hp : (parts.map fun (i, x) => (i, ρ x)) = ps') : execOp ρ o = (do pure (Next.value (← Instr.buildSlice t n ps'))) := by
  subst hp
  unfold execOp
  rw [ho]
theorem exec_build {t : TypeId} {parts : Array (Nat × Operand)} {ps' : Array (Nat × Value)} {ρ : Operand → Value} (ho : o.op = .build t parts) (hp : (parts.map fun (i, x) => (i, ρ x)) = ps') : execOp ρ o = (do pure (Next.value (← Instr.build t ps'))) := by
  subst hp
  unfold execOp
  rw [ho]
theorem arr0 {α β : Type} (g : α → β) : (#[] : Array α).map g = #[] := by simp
theorem arr2 {α β : Type} (g : α → β) (x y : α) : (#[x, y] : Array α).map g = #[g x, g y] := by simp
theorem arr4 {α β : Type} (g : α → β) (x y z u : α) : (#[x, y, z, u] : Array α).map g = #[g x, g y, g z, g u] := by simp
theorem arr1 {α β : Type} (g : α → β) (x : α) : (#[x] : Array α).map g = #[g x] := by simp
theorem arr3 {α β : Type} (g : α → β) (x y z : α) : (#[x, y, z] : Array α).map g = #[g x, g y, g z] := by simp

theorem run_call (F : FuncId) (xs : Array Operand) (ts : Array TypeId) (hop : o.op = .call { callee := .value (.func F), args := xs, argTypes := ts }) (hF : (P.funcs[F]?).map (fun fn => (fn.name == "runtime.NumGoroutine", fn.body.isNone)) = some (false, false)) :
    (execOp a.eval o).run P w = .ok (.enter F (xs.map a.eval)) w := by
  cases hfn : P.funcs[F]? with
  | none => rw [hfn] at hF; cases hF
  | some fn =>
    rw [hfn] at hF
    have h1 : (fn.name == "runtime.NumGoroutine") = false := congrArg Prod.fst (Option.some.inj hF)
    have h2 : fn.body.isNone = false := congrArg Prod.snd (Option.some.inj hF)
    have h3 : ¬ fn.name = "runtime.NumGoroutine" := by simpa using h1
    have h4 : ¬ fn.body = none := by
      intro e
      rw [e] at h2
      cases h2
    unfold execOp
    simp [hop, resolve, Deferred.ofValue, invoke, Act.eval, callFunc, hfn, h3, h4]
theorem wp_call {K : Act → World → Prop} (F : FuncId) (xs : Array Operand) (ts : Array TypeId) (args : Array Value) (hop : o.op = .call { callee := .value (.func F), args := xs, argTypes := ts })
    (hF : (P.funcs[F]?).map (fun fn => (fn.name == "runtime.NumGoroutine", fn.body.isNone)) = some (false, false)) (ha : xs.map a.eval = args)
    (h : Calls P F args w fun e w' => ∃ v, e = .returned v ∧ K (a.put o.dst v) w') : o.wp P a w K Q := by
  subst ha
  unfold Oper.wp
  rw [run_call F xs ts hop hF]
  refine Calls.mono h ?_
  rintro e w' ⟨v, rfl, hk⟩
  exact hk
theorem grown_of_ext {w w' : World} (h : Ext w w') : w.grownBy w' none := ⟨h.os, h.tape, h.output, h.size, fun k hk _ => h.block k hk⟩
/-- A call that yields a value known ahead, and makes memory of its own alone. -/
theorem RInv.call (h : RInv D a0 w0 ps E f a w) (hok : ∀ e ∈ E, e.OK w0.heap.size) (hb : diesTab E = true) (hfi : f i = false) (ho : ops[i]? = some o) (hgd : o.guard = none) (d : Nat) (hod : o.dst = some d) (hdl : d < a0.tmps.size)
    (ht : valTab D ps E i d = true) (v : Value) (hv : ps.filter (·.1 == i) = [(i, d, v)]) (F : FuncId) (xs : Array Operand) (ts : Array TypeId) (args : Array Value) (hop : o.op = .call { callee := .value (.func F), args := xs, argTypes := ts })
    (hF : (P.funcs[F]?).map (fun fn => (fn.name == "runtime.NumGoroutine", fn.body.isNone)) = some (false, false)) (ha : xs.map a.eval = args)
    (hc : Calls P F args w fun e w' => e = .returned v ∧ Ext w w') : wpOp P ops Q i (RInv D a0 w0 ps E (upd f i)) a w := by
  refine wpOp_of ho hgd (wp_call F xs ts args hop hF ha (hc.mono ?_))
  rintro e w' ⟨rfl, hx⟩
  refine ⟨v, rfl, ?_⟩
  rw [hod]
  simp only [valTab, Bool.and_eq_true] at ht
  obtain ⟨⟨t1, t2⟩, t3⟩ := ht
  have h2 : ∀ e ∈ E, e.born ≠ i ∧ e.dies ≠ i ∧ e.slot ≠ d := fun e he => by
    have := List.all_eq_true.1 t2 e he
    simp only [Bool.and_eq_true, bne_iff_ne] at this
    exact ⟨this.1.1, this.1.2, this.2⟩
  refine ⟨h.agree.put (by simpa using t1) v, h.ext.trans hx, ?_, h.led.step hok hb i (some d) v (grown_of_ext hx) hfi (fun e he _ _ _ e' => (h2 e he).2.2 (Option.some.inj e')) [] [] ?_ ?_ (fun _ he => by cases he) (fun _ hk => by cases hk) (fun _ he => by cases he)⟩
  · intro p hp hpf
    have h1 := List.all_eq_true.1 t3 p hp
    by_cases hpi : p.1 = i
    · have hm : p ∈ ps.filter (·.1 == i) := List.mem_filter.2 ⟨hp, by simpa using hpi⟩
      rw [hv, List.mem_singleton] at hm
      rw [hm]
      exact eval_put_eq (by rw [h.agree.2.1]; exact hdl)
    · have h3 : p.2.1 ≠ d := fun e => by
        rw [e] at h1
        simp [hpi] at h1
      rw [upd_ne f hpi] at hpf
      rw [eval_put_ne h3]
      exact h.vals p hp hpf
  · exact List.filter_eq_nil_iff.2 fun e he => by simpa using (h2 e he).1
  · exact List.filter_eq_nil_iff.2 fun e he => by simpa using (h2 e he).2.1

/-! Operations under a guard. -/
theorem wanted_none (hgd : o.guard = none) : Region.wanted o (yielded ops a.tmps) = true := by unfold Region.wanted; rw [hgd]
theorem wanted_at {g d' : Nat} {b b' : Bool} (hgd : o.guard = some (g, b)) (hd : (ops[g]?).bind (·.dst) = some d') (hv : a.eval (.tmp d') = .bool b') : Region.wanted o (yielded ops a.tmps) = (b' == b) := by
  have h1 : a.tmps[d']? = some (.bool b') := by
    simp only [Act.eval, Array.getD_eq_getD_getElem?] at hv
    cases h : a.tmps[d']? with
    | none => rw [h] at hv; cases hv
    | some v => rw [h] at hv; exact congrArg some hv
  have h2 : yielded ops a.tmps g = some b' := by
    unfold yielded
    rw [hd]
    simp only [Option.bind_some, h1]
  unfold Region.wanted
  rw [hgd]
  simp only [h2]
  cases b <;> cases b' <;> rfl
theorem wanted_yes {g d' : Nat} {b : Bool} (hgd : o.guard = some (g, b)) (hd : (ops[g]?).bind (·.dst) = some d') (hv : a.eval (.tmp d') = .bool b) : Region.wanted o (yielded ops a.tmps) = true := by
  rw [wanted_at hgd hd hv, beq_self_eq_true]
theorem wanted_not {g d' : Nat} {b b' : Bool} (hgd : o.guard = some (g, b)) (hd : (ops[g]?).bind (·.dst) = some d') (hv : a.eval (.tmp d') = .bool b') (hne : (b' == b) = false) : Region.wanted o (yielded ops a.tmps) = false := by
  rw [wanted_at hgd hd hv, hne]
theorem wpOp_yes {K : Act → World → Prop} (ho : ops[i]? = some o) (hw : Region.wanted o (yielded ops a.tmps) = true) (h : o.wp P a w K Q) : wpOp P ops Q i K a w := by
  unfold wpOp
  rw [ho]
  simp only [hw, if_true]
  exact .inl h
theorem wpOp_no {K : Act → World → Prop} (ho : ops[i]? = some o) (hw : Region.wanted o (yielded ops a.tmps) = false) (h : K (a.put o.dst undef) w) : wpOp P ops Q i K a w := by
  unfold wpOp
  rw [ho]
  simp only [hw, Bool.false_eq_true, if_false]
  exact h
theorem run_of_sem {s : Sem Value} {v : Value} {w' : World} (hs : execOp a.eval o = (do pure (Next.value (← s)))) (hrun : s.run P w = .ok v w') : (execOp a.eval o).run P w = .ok (.value v) w' := by
  rw [hs]
  simp only [Sem.run_bind, hrun, Result.andThen_ok, Sem.run_pure]
/-- Without a ledger: what yields known values, and calls that make memory of their own. -/
theorem RInv.val0 (h : RInv D a0 w0 ps [] f a w) (d : Nat) (hdl : d < a0.tmps.size) (ht : valTab D ps [] i d = true) (v : Value) (hv : ps.filter (·.1 == i) = [(i, d, v)]) {w' : World} (hx : Ext w w') : RInv D a0 w0 ps [] (upd f i) (a.put (some d) v) w' := by
  simp only [valTab, Bool.and_eq_true] at ht
  obtain ⟨⟨t1, _⟩, t3⟩ := ht
  refine ⟨h.agree.put (by simpa using t1) v, h.ext.trans hx, ?_, ⟨fun _ he => (by cases he), fun _ he => (by cases he)⟩⟩
  intro p hp hpf
  have h1 := List.all_eq_true.1 t3 p hp
  by_cases hpi : p.1 = i
  · have hm : p ∈ ps.filter (·.1 == i) := List.mem_filter.2 ⟨hp, by simpa using hpi⟩
    rw [hv, List.mem_singleton] at hm
    rw [hm]
    exact eval_put_eq (by rw [h.agree.2.1]; exact hdl)
  · have h3 : p.2.1 ≠ d := fun e => by
      rw [e] at h1
      simp [hpi] at h1
    rw [upd_ne f hpi] at hpf
    rw [eval_put_ne h3]
    exact h.vals p hp hpf
theorem RInv.yieldW (h : RInv D a0 w0 ps [] f a w) (ho : ops[i]? = some o) (hw : Region.wanted o (yielded ops a.tmps) = true) (d : Nat) (hod : o.dst = some d) (hdl : d < a0.tmps.size)
    (ht : valTab D ps [] i d = true) (v : Value) (hv : ps.filter (·.1 == i) = [(i, d, v)]) (hrun : (execOp a.eval o).run P w = .ok (.value v) w) : wpOp P ops Q i (RInv D a0 w0 ps [] (upd f i)) a w := by
  refine wpOp_yes ho hw (wp_yield hrun ?_)
  rw [hod]
  exact h.val0 d hdl ht v hv (Ext.refl _)
theorem RInv.skip (h : RInv D a0 w0 ps [] f a w) (ho : ops[i]? = some o) (hw : Region.wanted o (yielded ops a.tmps) = false) (d : Nat) (hod : o.dst = some d) (hdl : d < a0.tmps.size)
    (ht : valTab D ps [] i d = true) (hv : ps.filter (·.1 == i) = [(i, d, undef)]) : wpOp P ops Q i (RInv D a0 w0 ps [] (upd f i)) a w := by
  refine wpOp_no ho hw ?_
  rw [hod]
  exact h.val0 d hdl ht undef hv (Ext.refl _)
theorem RInv.callW (h : RInv D a0 w0 ps [] f a w) (ho : ops[i]? = some o) (hw : Region.wanted o (yielded ops a.tmps) = true) (d : Nat) (hod : o.dst = some d) (hdl : d < a0.tmps.size)
    (ht : valTab D ps [] i d = true) (v : Value) (hv : ps.filter (·.1 == i) = [(i, d, v)]) (F : FuncId) (xs : Array Operand) (ts : Array TypeId) (args : Array Value) (hop : o.op = .call { callee := .value (.func F), args := xs, argTypes := ts })
    (hF : (P.funcs[F]?).map (fun fn => (fn.name == "runtime.NumGoroutine", fn.body.isNone)) = some (false, false)) (ha : xs.map a.eval = args)
    (hc : Calls P F args w fun e w' => e = .returned v ∧ Ext w w') : wpOp P ops Q i (RInv D a0 w0 ps [] (upd f i)) a w := by
  refine wpOp_yes ho hw (wp_call F xs ts args hop hF ha (hc.mono ?_))
  rintro e w' ⟨rfl, hx⟩
  refine ⟨v, rfl, ?_⟩
  rw [hod]
  exact h.val0 d hdl ht v hv hx

/-- A literal row. -/
theorem RInv.lit (h : RInv D a0 w0 ps E f a w) (hok : ∀ e ∈ E, e.OK w0.heap.size) (hb : diesTab E = true) (hfi : f i = false) (ho : ops[i]? = some o) (hgd : o.guard = none) (d : Nat) (hod : o.dst = some d) (hdl : d < a0.tmps.size)
    (ht : rowTab D ps E i (some d) = true) (dies : Nat) (t : TypeId) (n : Nat) (C : Array Value) (hN : E.filter (·.born == i) = [entRow w0.heap.size i dies d t 1 n C.toList]) (hM : E.filter (·.dies == i) = [])
    (hn : C.size = n) (hn2 : n ≤ maxLen) {s : Sem Value} (hs : execOp a.eval o = (do pure (Next.value (← s)))) (hrun : s.run P w = .ok (.slice (some ⟨w.heap.size, 0, none⟩) n n) (w.alloc (.cells C t))) : wpOp P ops Q i (RInv D a0 w0 ps E (upd f i)) a w := by
  refine wpOp_of ho hgd (wp_val hs hrun ?_)
  rw [hod]
  simp only [rowTab, Bool.and_eq_true] at ht
  obtain ⟨⟨t1, t2⟩, t3⟩ := ht
  have hev : (a.put (some d) (Value.slice (some ⟨w.heap.size, 0, none⟩) n n)).eval (.tmp d) = Value.slice (some ⟨w.heap.size, 0, none⟩) n n := eval_put_eq (by rw [h.agree.2.1]; exact hdl)
  have hg : w.grownBy (w.alloc (.cells C t)) none := ⟨rfl, rfl, rfl, by simp, fun k hk _ => Below.heap_alloc w _ k hk⟩
  refine h.row hok hb (some d) t1 _ hg hfi (rowTab_slot (D := D) (ps := ps) t2 f) t3 _ _ hN hM (fun _ he => by cases he) (fun _ hk => by cases hk) ?_
  intro e he
  simp only [List.mem_singleton] at he
  subst he
  refine ⟨?_, fun k hk => .inl ?_⟩
  · show (w.alloc _).ownsRow _ _ _ ((a.put _ _).eval (.tmp d)) _ _
    rw [hev]
    exact own_lit C h.ext.size hn2 (by rw [hn, Nat.mul_one])
  · have hk' : k ∈ ((a.put (some d) (Value.slice (some ⟨w.heap.size, 0, none⟩) n n)).eval (.tmp d)).ownBlock.toList := hk
    rw [hev] at hk'
    simp [Value.ownBlock] at hk'
    omega

/-- append onto a row that is owned. -/
theorem RInv.app (h : RInv D a0 w0 ps E f a w) (hok : ∀ e ∈ E, e.OK w0.heap.size) (hb : diesTab E = true) (hfi : f i = false) (ho : ops[i]? = some o) (hgd : o.guard = none) (d : Nat) (hod : o.dst = some d) (hdl : d < a0.tmps.size)
    (ht : rowTab D ps E i (some d) = true) (s : Nat) (x : Operand) (ty : TypeId) (hop : o.op = .call { callee := .builtin .append, args := #[.tmp s, x], argTypes := #[ty, ty] })
    (born dies : Nat) (t : TypeId) (z : Value) (bytes n m : Nat) (xs news : List Value) (M : List Ent)
    (hN : E.filter (·.born == i) = [entRow w0.heap.size i dies d t 1 (n + m) (xs ++ news)]) (hM : E.filter (·.dies == i) = entRow w0.heap.size born i s t 1 n xs :: M) (hact : ∀ e ∈ entRow w0.heap.size born i s t 1 n xs :: M, f e.born = true)
    (hu : P.underlying ty = some (.slice t)) (hi : (P.info? t).map (fun i => (i.zero, i.size, i.bytes)) = some (some z, 1, bytes)) (hz : z.cells.size = 1)
    (A : Option Addr) (c : Nat) (hx : a.eval x = .slice A m c) (hl : news.length = m) (hr : Cells w A news) (h1 : ∀ u ∈ news, u.oneCell' = true)
    (h63 : n + m ≤ maxLen) (hbytes : (n + m) * bytes ≤ 140737488355328) : wpOp P ops Q i (RInv D a0 w0 ps E (upd f i)) a w := by
  simp only [rowTab, Bool.and_eq_true] at ht
  obtain ⟨⟨t1, t2⟩, t3⟩ := ht
  have hmem : entRow w0.heap.size born i s t 1 n xs ∈ E := by
    have : entRow w0.heap.size born i s t 1 n xs ∈ E.filter (·.dies == i) := by rw [hM]; exact List.mem_cons_self ..
    exact (List.mem_filter.1 this).1
  have hown : w.ownsRow w0.heap.size t 1 (a.eval (.tmp s)) n xs := h.led.rows _ hmem ⟨hact _ (List.mem_cons_self ..), hfi⟩
  refine wpOp_of ho hgd (wp_append w (.tmp s) x ty hop w0.heap.size t z 1 bytes hu hi hz (by decide) _ n xs rfl hown A m c news hx (by rw [hl, Nat.mul_one]) hr h1 h63 hbytes h.ext.size ?_)
  intro v' w' ho' hg hfr
  rw [hod]
  have hev : (a.put (some d) v').eval (.tmp d) = v' := eval_put_eq (by rw [h.agree.2.1]; exact hdl)
  refine h.row hok hb (some d) t1 _ hg hfi (rowTab_slot (D := D) (ps := ps) t2 f) t3 _ _ hN hM hact (fun k hk => ⟨_, List.mem_cons_self .., ?_⟩) ?_
  · show k ∈ (a.eval (.tmp s)).ownBlock.toList
    rw [hk]; simp
  · intro e he
    simp only [List.mem_singleton] at he
    subst he
    refine ⟨?_, fun k hk => ?_⟩
    · show w'.ownsRow _ _ _ ((a.put _ _).eval (.tmp d)) _ _
      rw [hev]
      exact ho'
    · have hk' : k ∈ ((a.put (some d) v').eval (.tmp d)).ownBlock.toList := hk
      rw [hev] at hk'
      have hk2 : v'.ownBlock = some k := by simpa using hk'
      rcases hfr with e | e
      · refine .inr ⟨_, List.mem_cons_self .., ?_⟩
        show k ∈ (a.eval (.tmp s)).ownBlock.toList
        rw [← e, hk2]; simp
      · rw [hk2] at e
        injection e with e
        exact .inl (by omega)

/-- A struct's value is put together. -/
theorem RInv.agg (h : RInv D a0 w0 ps E f a w) (hok : ∀ e ∈ E, e.OK w0.heap.size) (hb : diesTab E = true) (hfi : f i = false) (ho : ops[i]? = some o) (hgd : o.guard = none) (d : Nat) (hod : o.dst = some d) (hdl : d < a0.tmps.size)
    (ht : rowTab D ps E i (some d) = true) (dies : Nat) (fs : List Fld) (M : List Ent) (hN : E.filter (·.born == i) = [entAgg w0.heap.size i dies d fs]) (hM : E.filter (·.dies == i) = M) (hact : ∀ e ∈ M, f e.born = true)
    (vs : Array Value) (hf : fldsOK w0.heap.size w fs vs.toList) (hfoot : ∀ k ∈ fldsFoot fs vs.toList, ∃ e ∈ M, k ∈ e.ft a w)
    {s : Sem Value} (hs : execOp a.eval o = (do pure (Next.value (← s)))) (hrun : s.run P w = .ok (.agg vs) w) : wpOp P ops Q i (RInv D a0 w0 ps E (upd f i)) a w := by
  refine wpOp_of ho hgd (wp_val hs hrun ?_)
  rw [hod]
  simp only [rowTab, Bool.and_eq_true] at ht
  obtain ⟨⟨t1, t2⟩, t3⟩ := ht
  have hev : (a.put (some d) (Value.agg vs)).eval (.tmp d) = Value.agg vs := eval_put_eq (by rw [h.agree.2.1]; exact hdl)
  refine h.row hok hb (some d) t1 _ (World.grownBy.refl w none) hfi (rowTab_slot (D := D) (ps := ps) t2 f) t3 _ _ hN hM hact (fun _ hk => by cases hk) ?_
  intro e he
  simp only [List.mem_singleton] at he
  subst he
  refine ⟨⟨vs, hev, hf⟩, fun k hk => .inr (hfoot k ?_)⟩
  have hk' : k ∈ (match (a.put (some d) (Value.agg vs)).eval (.tmp d) with | .agg vs => fldsFoot fs vs.toList | _ => []) := hk
  rw [hev] at hk'
  exact hk'

/-- A struct's memory, new. -/
theorem RInv.alloc (h : RInv D a0 w0 ps E f a w) (hok : ∀ e ∈ E, e.OK w0.heap.size) (hb : diesTab E = true) (hfi : f i = false) (ho : ops[i]? = some o) (hgd : o.guard = none) (d : Nat) (hod : o.dst = some d) (hdl : d < a0.tmps.size)
    (L : List Nat) (hL : ∀ j ∈ L, f j = false) (ht : (D.contains d && (E.all fun e => e.born == i || e.dies == i || e.slot != d || L.contains e.born) && (ps.all fun p => p.1 != i && (some p.2.1 != some d))) = true) (dies : Nat) (T : TypeId) (zs : List Value) (hN : E.filter (·.born == i) = [entBox w0.heap.size i dies d T (zs.map .val)]) (hM : E.filter (·.dies == i) = [])
    {s : Sem Value} (hs : execOp a.eval o = (do pure (Next.value (← s)))) (hrun : s.run P w = .ok (.pointer (some ⟨w.heap.size, 0, none⟩)) (w.alloc (.cells zs.toArray T))) : wpOp P ops Q i (RInv D a0 w0 ps E (upd f i)) a w := by
  refine wpOp_of ho hgd (wp_val hs hrun ?_)
  rw [hod]
  simp only [Bool.and_eq_true] at ht
  obtain ⟨⟨t1, t2⟩, t3⟩ := ht
  have hev : (a.put (some d) (Value.pointer (some ⟨w.heap.size, 0, none⟩))).eval (.tmp d) = Value.pointer (some ⟨w.heap.size, 0, none⟩) := eval_put_eq (by rw [h.agree.2.1]; exact hdl)
  have hg : w.grownBy (w.alloc (.cells zs.toArray T)) none := ⟨rfl, rfl, rfl, by simp, fun k hk _ => Below.heap_alloc w _ k hk⟩
  have hbk : Blk (w.alloc (.cells zs.toArray T)) w.heap.size T zs.toArray := Blk.new w _ _
  have hfl : ∀ (l : List Value), fldsOK w0.heap.size (w.alloc (.cells zs.toArray T)) (l.map .val) l ∧ fldsFoot (l.map .val) l = [] := by
    intro l
    induction l with
    | nil => exact ⟨trivial, rfl⟩
    | cons v l ih => exact ⟨⟨rfl, ih.1⟩, ih.2⟩
  refine h.row hok hb (some d) t1 _ hg hfi ?_ t3 _ _ hN hM (fun _ he => by cases he) (fun _ hk => by cases hk) ?_
  · intro e he hae h1 h2 h3
    have h4 := List.all_eq_true.1 t2 e he
    have h5 : e.slot = d := Option.some.inj h3
    have h6 : e.born ∈ L := by simpa [h1, h2, h5] using h4
    rw [Ent.act, hL _ h6] at hae
    cases hae.1
  intro e he
  simp only [List.mem_singleton] at he
  subst he
  refine ⟨⟨_, _, hev, h.ext.size, hbk, by simpa using (hfl zs).1⟩, fun k hk => .inl ?_⟩
  have hk' : k ∈ boxFoot (zs.map .val) (w.alloc (.cells zs.toArray T)) ((a.put (some d) (Value.pointer (some ⟨w.heap.size, 0, none⟩))).eval (.tmp d)) := hk
  rw [hev, boxFoot_at hbk] at hk'
  have e2 := (hfl zs).2
  simp only [e2, List.mem_singleton] at hk'
  omega

/-- A struct's value is stored into its memory. -/
theorem RInv.store (h : RInv D a0 w0 ps E f a w) (hok : ∀ e ∈ E, e.OK w0.heap.size) (hb : diesTab E = true) (hfi : f i = false) (ho : ops[i]? = some o) (hgd : o.guard = none) (hod : o.dst = none)
    (ht : rowTab D ps E i none = true) (T : TypeId) (sp sx bp bx dies : Nat) (fs0 fs : List Fld) (hop : o.op = .store T (.tmp sp) (.tmp sx))
    (hN : E.filter (·.born == i) = [entBox w0.heap.size i dies sp T fs]) (M : List Ent) (hM : E.filter (·.dies == i) = M) (hm1 : entAgg w0.heap.size bx i sx fs ∈ M) (hm2 : entBox w0.heap.size bp i sp T fs0 ∈ M) (hact : ∀ e ∈ M, f e.born = true)
    (n : Nat) (hfl : fs.length = n) (hfl0 : fs0.length = n) (hi : (P.info? T).map (·.size) = some n) (hone : ∀ c, Fld.val c ∈ fs → c.oneCell' = true) (hne : bp ≠ bx) : wpOp P ops Q i (RInv D a0 w0 ps E (upd f i)) a w := by
  simp only [rowTab, Bool.and_eq_true] at ht
  obtain ⟨⟨t1, t2⟩, t3⟩ := ht
  have hE : ∀ e ∈ M, e ∈ E := fun e he => by rw [← hM] at he; exact (List.mem_filter.1 he).1
  have hlen : ∀ (fs : List Fld) (vs : List Value), fldsOK w0.heap.size w fs vs → vs.length = fs.length := by
    intro fs
    induction fs with
    | nil => intro vs h; cases vs with | nil => rfl | cons _ _ => exact h.elim
    | cons f fs ih => intro vs h; cases vs with | nil => exact h.elim | cons v vs => rw [List.length_cons, List.length_cons, ih vs h.2]
  have hcell : ∀ (fs : List Fld) (vs : List Value), (∀ c, Fld.val c ∈ fs → c.oneCell' = true) → fldsOK w0.heap.size w fs vs → ∀ v ∈ vs, v.oneCell' = true := by
    intro fs
    induction fs with
    | nil => intro vs _ h; cases vs with | nil => intro v hv; cases hv | cons _ _ => exact h.elim
    | cons f fs ih =>
      intro vs hc h
      cases vs with
      | nil => exact h.elim
      | cons v vs =>
        intro u hu
        rcases List.mem_cons.1 hu with rfl | hu
        · have h1 := h.1
          cases f with
          | val c => have h1 : u = c := h1; subst h1; exact hc _ (List.mem_cons_self ..)
          | row t sz n xs =>
            have h1 : w.ownsRow w0.heap.size t sz u n xs := h1
            rcases h1.2 with ⟨rfl, _⟩ | ⟨g, cap, cur, rfl, _⟩ <;> rfl
        · exact ih vs (fun c hc' => hc c (List.mem_cons_of_mem _ hc')) h.2 u hu
  obtain ⟨vs, hvs, hf⟩ := h.led.rows _ (hE _ hm1) ⟨hact _ hm1, hfi⟩
  obtain ⟨g, cs, hp, hB, hbk, hf0⟩ := h.led.rows _ (hE _ hm2) ⟨hact _ hm2, hfi⟩
  have hp : a.eval (.tmp sp) = .pointer (some ⟨g, 0, none⟩) := hp
  have hvs : a.eval (.tmp sx) = .agg vs := hvs
  have l1 := hlen fs vs.toList hf
  have l0 := hlen fs0 cs.toList hf0
  rw [Array.length_toList] at l1 l0
  refine wpOp_of ho hgd (wp_store_blk T (.tmp sp) (.tmp sx) hop hod g vs hp hvs T cs hbk (by omega) (by rw [hi, l0, hfl0]) (hcell fs vs.toList hone hf) ?_)
  intro w' hb' hg
  have hgm : ∀ k, some g = some k → ∃ e ∈ M, k ∈ e.ft a w := fun k hk => by
    cases hk
    refine ⟨_, hm2, ?_⟩
    show g ∈ boxFoot fs0 w (a.eval (.tmp sp))
    rw [hp, boxFoot_at hbk]
    exact List.mem_cons_self ..
  have hsub : ∀ k ∈ fldsFoot fs vs.toList, k ∈ (entAgg w0.heap.size bx i sx fs).ft a w := fun k hk => by
    show k ∈ (match a.eval (.tmp sx) with | .agg vs => fldsFoot fs vs.toList | _ => [])
    rw [hvs]
    exact hk
  have hgn : g ∉ fldsFoot fs vs.toList := by
    intro hgf
    refine h.led.apart _ (hE _ hm2) _ (hE _ hm1) hne ⟨hact _ hm2, hfi⟩ ⟨hact _ hm1, hfi⟩ g ?_ (hsub g hgf)
    show g ∈ boxFoot fs0 w (a.eval (.tmp sp))
    rw [hp, boxFoot_at hbk]
    exact List.mem_cons_self ..
  have := h.row hok hb none rfl (v := .tuple #[]) hg hfi (rowTab_slot (D := D) (ps := ps) t2 f) t3 _ _ hN hM hact hgm ?_
  · exact this
  · intro e he
    simp only [List.mem_singleton] at he
    subst he
    refine ⟨⟨g, vs, hp, hB, hb', fldsOK_kept hg fs vs.toList hf fun k hk hm => ?_⟩, fun k hk => .inr ?_⟩
    · cases hk; exact hgn hm
    · have hk' : k ∈ boxFoot fs w' (a.eval (.tmp sp)) := hk
      rw [hp, boxFoot_at hb'] at hk'
      rcases List.mem_cons.1 hk' with rfl | hk'
      · exact hgm _ rfl
      · exact ⟨_, hm1, hsub k hk'⟩
end
end Go.Proofs.YtcnhbodemabbdaaDoor

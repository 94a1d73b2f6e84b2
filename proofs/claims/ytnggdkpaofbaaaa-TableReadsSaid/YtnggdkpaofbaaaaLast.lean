/- A region that draws its order, whose last operation stands behind all others; stages of calls that make memory alone. -/
import Derived.Test.YtnggdkpaofbaaaaPush
import Derived.Test.YtnggdkpaofbaaaaLedgerW
namespace Go.Proofs.Ytnggdkpaofbaaaa
open Go.RowKit
set_option linter.unusedVariables false

theorem wp_region_opsL {P : Program} {ops : Array Oper} {Q : Exit → Act → World → Prop} {id : Nat} {a : Act} {w : World} (I : (Nat → Bool) → Act → World → Prop) (L : Nat) (hm : P.follows .mixedOrders = true) (hb : backward .any ops = true) (hL : ops.size = L + 1)
    (hdep : ((ops[L]?).map fun o => (List.range L).all fun i => o.after.toList.any fun e => Region.binds .any e && e.on == i) = some true)
    (hI : I (fun _ => false) a w.drew)
    (hstep : EachOp (fun i o => ∀ f a w, I f a w → f i = false → (∀ e ∈ o.after, Region.binds .any e = true → f e.on = true) → (∀ j o', ops[j]? = some o' → (o'.after.toList.any fun e => Region.binds .any e && e.on == i) = true → f j = false) → ClosedF .any ops f → wpOp P ops Q i (I (upd f i)) a w) 0 (ops.toList.take L))
    (hfin : ∀ f a w, I f a w → (∀ i < L, f i = true) → wpOp P ops Q L (fun a' w' => Q .normal a' w') a w) : (Code.region id ops true).wp P Q a w := by
  refine wp_region_inv hm hb (fun f a w => (f L = false → I f a w) ∧ (f L = true → Q .normal a w)) ⟨fun _ => hI, fun h => by cases h⟩ (fun f a w h hcl i o ho hf hp => ?_) (fun f a w h hall hfar => h.2 (hall L (by omega)))
  have hlt : i < ops.size := (Array.getElem?_eq_some_iff.1 ho).1
  have hoL : ops[L]? = some (ops[L]'(by omega)) := Array.getElem?_eq_getElem (by omega)
  have hdeps : ∀ i < L, ((ops[L]'(by omega)).after.toList.any fun e => Region.binds .any e && e.on == i) = true := fun i hi => by
    rw [hoL, Option.map_some] at hdep
    exact List.all_eq_true.1 (Option.some.inj hdep) i (List.mem_range.2 hi)
  by_cases hiL : i = L
  · subst hiL
    have hall : ∀ j < i, f j = true := fun j hj => by
      obtain ⟨e, he, h2⟩ := List.any_eq_true.1 (hdeps j hj)
      simp only [Bool.and_eq_true, beq_iff_eq] at h2
      rw [← h2.2]
      rw [hoL] at ho
      cases ho
      exact hp e (by simpa using he) h2.1
    refine wpOp_mono (fun a' w' h' => ⟨fun h3 => ?_, fun _ => h'⟩) (hfin f a w (h.1 hf) hall)
    rw [upd_eq] at h3
    cases h3
  · have hfL : f L = false := by
      cases hfl : f L with
      | false => rfl
      | true =>
        obtain ⟨e, he, h2⟩ := List.any_eq_true.1 (hdeps i (by omega))
        simp only [Bool.and_eq_true, beq_iff_eq] at h2
        have := hcl L _ hoL hfl e (by simpa using he) h2.1
        rw [h2.2, hf] at this
        cases this
    have h1 := EachOp.get (ops.toList.take L) 0 hstep i o (by rw [List.getElem?_take, if_pos (by omega)]; simpa using ho)
    rw [Nat.zero_add] at h1
    refine wpOp_mono (fun a' w' h' => ⟨fun _ => h', fun h3 => ?_⟩) (h1 f a w (h.1 hfL) hf hp (fun j o' ho' hany => ?_) hcl)
    · rw [upd_ne f (fun e => hiL e.symm), hfL] at h3
      cases h3
    · rw [List.any_eq_true] at hany
      obtain ⟨e, he, h2⟩ := hany
      simp only [Bool.and_eq_true, beq_iff_eq] at h2
      cases hj : f j with
      | false => rfl
      | true =>
        have h3 := hcl j o' ho' hj e (by simpa using he) h2.1
        rw [h2.2, hf] at h3
        cases h3

def waits1 (o : Oper) (i : Nat) : Bool := o.after.toList.any fun e => Region.binds .any e && e.on == i
/-- The region's operation L waits for all others: for some of them through another. -/
def waits2 (ops : Array Oper) (L : Nat) : Bool :=
  ((ops[L]?).map fun o => (List.range L).all fun i => waits1 o i || (List.range L).any fun j => waits1 o j && ((ops[j]?).map fun p => waits1 p i).getD false).getD false
theorem waits1_on {o : Oper} {i : Nat} {f : Nat → Bool} (h : waits1 o i = true) (k : ∀ e ∈ o.after, Region.binds .any e = true → f e.on = true) : f i = true := by
  obtain ⟨e, he, h2⟩ := List.any_eq_true.1 h
  simp only [Bool.and_eq_true, beq_iff_eq] at h2
  rw [← h2.2]
  exact k e (by simpa using he) h2.1
theorem wp_region_opsL2 {P : Program} {ops : Array Oper} {Q : Exit → Act → World → Prop} {id : Nat} {a : Act} {w : World} (I : (Nat → Bool) → Act → World → Prop) (L : Nat) (hm : P.follows .mixedOrders = true) (hb : backward .any ops = true) (hL : ops.size = L + 1)
    (hdep : waits2 ops L = true)
    (hI : I (fun _ => false) a w.drew)
    (hstep : EachOp (fun i o => ∀ f a w, I f a w → f i = false → (∀ e ∈ o.after, Region.binds .any e = true → f e.on = true) → (∀ j o', ops[j]? = some o' → (o'.after.toList.any fun e => Region.binds .any e && e.on == i) = true → f j = false) → ClosedF .any ops f → wpOp P ops Q i (I (upd f i)) a w) 0 (ops.toList.take L))
    (hfin : ∀ f a w, I f a w → (∀ i < L, f i = true) → wpOp P ops Q L (fun a' w' => Q .normal a' w') a w) : (Code.region id ops true).wp P Q a w := by
  have hoL : ops[L]? = some (ops[L]'(by omega)) := Array.getElem?_eq_getElem (by omega)
  have hdeps : ∀ (f : Nat → Bool), ClosedF .any ops f → (∀ e ∈ (ops[L]'(by omega)).after, Region.binds .any e = true → f e.on = true) → ∀ i < L, f i = true := fun f hcl hp i hi => by
    unfold waits2 at hdep
    rw [hoL, Option.map_some, Option.getD_some] at hdep
    have := List.all_eq_true.1 hdep i (List.mem_range.2 hi)
    rcases Bool.or_eq_true_iff.1 this with h | h
    · exact waits1_on h hp
    · obtain ⟨j, _, h2⟩ := List.any_eq_true.1 h
      obtain ⟨h3, h4⟩ := Bool.and_eq_true_iff.1 h2
      have hj := waits1_on h3 hp
      cases ho : ops[j]? with
      | none => rw [ho] at h4; cases h4
      | some o =>
        rw [ho] at h4
        exact waits1_on h4 (fun e he hb => hcl j o ho hj e he hb)
  refine wp_region_inv hm hb (fun f a w => (f L = false → I f a w) ∧ (f L = true → Q .normal a w)) ⟨fun _ => hI, fun h => by cases h⟩ (fun f a w h hcl i o ho hf hp => ?_) (fun f a w h hall hfar => h.2 (hall L (by omega)))
  have hlt : i < ops.size := (Array.getElem?_eq_some_iff.1 ho).1
  by_cases hiL : i = L
  · subst hiL
    have hall : ∀ j < i, f j = true := fun j hj => hdeps f hcl (by rw [hoL] at ho; cases ho; exact hp) j hj
    refine wpOp_mono (fun a' w' h' => ⟨fun h3 => ?_, fun _ => h'⟩) (hfin f a w (h.1 hf) hall)
    rw [upd_eq] at h3
    cases h3
  · have hfL : f L = false := by
      cases hfl : f L with
      | false => rfl
      | true =>
        have := hdeps f hcl (fun e he hb => hcl L _ hoL hfl e he hb) i (by omega)
        rw [hf] at this
        cases this
    have h1 := EachOp.get (ops.toList.take L) 0 hstep i o (by rw [List.getElem?_take, if_pos (by omega)]; simpa using ho)
    rw [Nat.zero_add] at h1
    refine wpOp_mono (fun a' w' h' => ⟨fun _ => h', fun h3 => ?_⟩) (h1 f a w (h.1 hfL) hf hp (fun j o' ho' hany => ?_) hcl)
    · rw [upd_ne f (fun e => hiL e.symm), hfL] at h3
      cases h3
    · rw [List.any_eq_true] at hany
      obtain ⟨e, he, h2⟩ := hany
      simp only [Bool.and_eq_true, beq_iff_eq] at h2
      cases hj : f j with
      | false => rfl
      | true =>
        have h3 := hcl j o' ho' hj e (by simpa using he) h2.1
        rw [h2.2, hf] at h3
        cases h3

/-- What a fact on a value outlives: memory that grows. -/
def Mono (R : World → Value → Prop) : Prop := ∀ w w' v, R w v → Ext w w' → R w' v
/-- Stages that make memory alone: what each has yielded. -/
structure MonoW (w0 : World) (Rs : List (World → Value → Prop)) (xs : List Value) (u : World) : Prop where
  ext : Ext w0 u
  at_ : ∀ (i : Nat) (v : Value) (R : World → Value → Prop), xs[i]? = some v → Rs[i]? = some R → R u v
theorem MonoW.start (w0 : World) (Rs : List (World → Value → Prop)) {u : World} (h : Ext w0 u) : MonoW w0 Rs [] u := ⟨h, fun i v R h => by simp at h⟩
theorem MonoW.push {w0 u u' : World} {Rs : List (World → Value → Prop)} {xs : List Value} (h : MonoW w0 Rs xs u) (hm : ∀ R ∈ Rs, Mono R) (hx : Ext u u') {v : Value} (hv : ∀ R, Rs[xs.length]? = some R → R u' v) : MonoW w0 Rs (xs ++ [v]) u' := by
  refine ⟨h.ext.trans hx, fun i y R hy hR => ?_⟩
  by_cases hi : i < xs.length
  · rw [List.getElem?_append_left hi] at hy
    exact hm R (List.mem_of_getElem? hR) _ _ _ (h.at_ i y R hy hR) hx
  · have he : i = xs.length := by
      have := (List.getElem?_eq_some_iff.1 hy).1
      rw [List.length_append, List.length_singleton] at this
      omega
    subst he
    rw [List.getElem?_append_right (Nat.le_refl _)] at hy
    simp at hy
    subst hy
    exact hv R hR
theorem MonoW.get {w0 u : World} {Rs : List (World → Value → Prop)} {xs : List Value} (h : MonoW w0 Rs xs u) (j : Nat) (hj : j < xs.length) {R : World → Value → Prop} (hR : Rs[j]? = some R) : R u (xs.getD j undef) := by
  have hx : xs[j]? = some xs[j] := List.getElem?_eq_getElem hj
  have := h.at_ j _ R hx hR
  rw [List.getD_eq_getElem?_getD, hx]
  exact this
/-- A row of bytes of the call's own, as a fact on a value. -/
def isOwn (B : Nat) (bs : List UInt8) : World → Value → Prop := fun w v => Own B w v bs
theorem isOwn_mono (B : Nat) (bs : List UInt8) : Mono (isOwn B bs) := fun w w' v h hx => Own.ext h hx
def isVal (x : Value) : World → Value → Prop := fun _ v => v = x
theorem isVal_mono (x : Value) : Mono (isVal x) := fun _ _ _ h _ => h
theorem mono_two {R S : World → Value → Prop} (h : Mono R) (k : Mono S) : ∀ T ∈ [R, S], Mono T := by
  intro T hT
  simp only [List.mem_cons, List.not_mem_nil, or_false] at hT
  rcases hT with rfl | rfl
  · exact h
  · exact k
end Go.Proofs.Ytnggdkpaofbaaaa

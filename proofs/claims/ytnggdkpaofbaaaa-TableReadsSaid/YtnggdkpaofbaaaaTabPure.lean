/- Layer 10 in plain Lean: tables of writes. No program here. -/
import Derived.Test.YtnggdkpaofbaaaaCodePure
import Derived.Stop.BytesEq
namespace Go.Proofs.Ytnggdkpaofbaaaa
set_option linter.unusedVariables false

def blt (a b : List UInt8) : Bool := Op.bytesLess a b
theorem blt_total : ∀ x y : List UInt8, (!blt x y) = (blt y x || y == x)
  | [], [] => rfl
  | [], _ :: _ => rfl
  | _ :: _, [] => rfl
  | a :: x, b :: y => by
    have ih := blt_total x y
    unfold blt at ih ⊢
    simp only [Op.bytesLess, List.cons_beq_cons]
    by_cases h1 : a < b
    · have h2 : ¬ b < a := fun h => UInt8.lt_irrefl _ (UInt8.lt_trans h1 h)
      have h3 : (b == a) = false := by rw [beq_eq_false_iff_ne]; rintro rfl; exact UInt8.lt_irrefl _ h1
      simp [h1, h2, h3]
    · by_cases h2 : b < a
      · have h3 : (a == b) = false := by rw [beq_eq_false_iff_ne]; rintro rfl; exact UInt8.lt_irrefl _ h2
        simp [h1, h2, h3]
      · have e : a = b := UInt8.le_antisymm (UInt8.not_lt.1 h2) (UInt8.not_lt.1 h1)
        subst e
        simpa using ih
theorem blt_irrefl (x : List UInt8) : blt x x = false := by
  have h := blt_total x x
  rw [beq_self_eq_true, Bool.or_true] at h
  simpa using h
theorem blt_asymm {x y : List UInt8} (h : blt x y = true) : blt y x = false := by
  have h2 := blt_total x y
  rw [h] at h2
  cases hb : blt y x with
  | false => rfl
  | true => rw [hb] at h2; simp at h2
theorem blt_or {x y : List UInt8} (h : blt x y = false) (hne : y ≠ x) : blt y x = true := by
  have h2 := blt_total x y
  rw [h, beq_eq_false_iff_ne.2 hne, Bool.or_false] at h2
  exact h2.symm
theorem blt_trans : ∀ {x y z : List UInt8}, blt x y = true → blt y z = true → blt x z = true
  | [], [], _, h, _ => by cases h
  | [], _ :: _, [], _, h => by cases h
  | [], _ :: _, _ :: _, _, _ => rfl
  | _ :: _, [], _, h, _ => by cases h
  | _ :: _, _ :: _, [], _, h => by cases h
  | a :: x, b :: y, c :: z, h1, h2 => by
    unfold blt at h1 h2 ⊢
    simp only [Op.bytesLess, Bool.or_eq_true, decide_eq_true_eq, Bool.and_eq_true, beq_iff_eq] at h1 h2 ⊢
    rcases h1 with h1 | ⟨rfl, h1⟩
    · rcases h2 with h2 | ⟨rfl, h2⟩
      · exact .inl (UInt8.lt_trans h1 h2)
      · exact .inl h1
    · rcases h2 with h2 | ⟨rfl, h2⟩
      · exact .inl h2
      · exact .inr ⟨rfl, blt_trans (x := x) (y := y) (z := z) h1 h2⟩

def kl (s : ByteArray) : List UInt8 := s.toList
theorem kl_inj {a b : ByteArray} (h : kl a = kl b) : a = b := by
  unfold kl at h
  rw [ByteArray.toList_eq, ByteArray.toList_eq] at h
  exact ByteArray.ext (Array.ext' h)
/-- Keys in order. -/
def klt (a b : ByteArray) : Bool := blt (kl a) (kl b)
theorem klt_irrefl (a : ByteArray) : klt a a = false := blt_irrefl _
theorem klt_asymm {a b : ByteArray} (h : klt a b = true) : klt b a = false := blt_asymm h
theorem klt_or {a b : ByteArray} (h : klt a b = false) (hne : b ≠ a) : klt b a = true := blt_or h (fun e => hne (kl_inj e))
theorem klt_trans {a b c : ByteArray} (h : klt a b = true) (k : klt b c = true) : klt a c = true := blt_trans h k
theorem klt_ne {a b : ByteArray} (h : klt a b = true) : a ≠ b := fun e => by rw [e, klt_irrefl] at h; cases h

/-- A write: its key, its value, whether the key is gone. -/
abbrev W3 := ByteArray × ByteArray × Bool
def fixW (w : W3) : W3 := if w.2.2 then (w.1, ByteArray.empty, true) else w
theorem fixW_key (w : W3) : (fixW w).1 = w.1 := by unfold fixW; split <;> rfl
/-- The reference's Put: done tells whether the write stands already. -/
def ins (w : W3) : Bool → List W3 → List W3
  | done, [] => if done then [] else [w]
  | done, x :: l => (if !done && !klt x.1 w.1 then [w] else []) ++ ((if x.1 = w.1 then [] else [x]) ++ ins w (done || !klt x.1 w.1) l)
theorem ins_done (w : W3) : ∀ l : List W3, ins w true l = l.filter (fun x => decide (x.1 ≠ w.1))
  | [] => rfl
  | x :: l => by
    simp only [ins, Bool.not_true, Bool.false_and, Bool.true_or, ins_done w l]
    by_cases h : x.1 = w.1
    · simp [h]
    · simp [h]
def SortedW (l : List W3) : Prop := l.Pairwise fun a b => klt a.1 b.1 = true
theorem ins_lt {w x : W3} (l : List W3) (h : klt x.1 w.1 = true) : ins w false (x :: l) = x :: ins w false l := by
  simp [ins, h, klt_ne h]
theorem ins_ge {w x : W3} (l : List W3) (h : klt x.1 w.1 = false) : ins w false (x :: l) = w :: ((if x.1 = w.1 then [] else [x]) ++ l.filter (fun x => decide (x.1 ≠ w.1))) := by
  simp [ins, h, ins_done]
theorem mem_ins (w : W3) : ∀ (l : List W3) (x : W3), x ∈ ins w false l ↔ x = w ∨ (x ∈ l ∧ x.1 ≠ w.1)
  | [], x => by simp [ins]
  | y :: l, x => by
    cases h : klt y.1 w.1 with
    | true =>
      rw [ins_lt l h, List.mem_cons, mem_ins w l x]
      have hy := klt_ne h
      constructor
      · rintro (rfl | h1 | ⟨h1, h2⟩)
        · exact .inr ⟨List.mem_cons_self .., hy⟩
        · exact .inl h1
        · exact .inr ⟨List.mem_cons_of_mem _ h1, h2⟩
      · rintro (h1 | ⟨h1, h2⟩)
        · exact .inr (.inl h1)
        · rcases List.mem_cons.1 h1 with h1 | h1
          · exact .inl h1
          · exact .inr (.inr ⟨h1, h2⟩)
    | false =>
      rw [ins_ge l h]
      by_cases e : y.1 = w.1
      · rw [if_pos e, List.nil_append, List.mem_cons, List.mem_filter]
        constructor
        · rintro (h1 | ⟨h1, h2⟩)
          · exact .inl h1
          · exact .inr ⟨List.mem_cons_of_mem _ h1, by simpa using h2⟩
        · rintro (h1 | ⟨h1, h2⟩)
          · exact .inl h1
          · rcases List.mem_cons.1 h1 with rfl | h1
            · exact absurd e h2
            · exact .inr ⟨h1, by simpa using h2⟩
      · rw [if_neg e, List.singleton_append, List.mem_cons, List.mem_cons, List.mem_filter]
        constructor
        · rintro (h1 | rfl | ⟨h1, h2⟩)
          · exact .inl h1
          · exact .inr ⟨List.mem_cons_self .., e⟩
          · exact .inr ⟨List.mem_cons_of_mem _ h1, by simpa using h2⟩
        · rintro (h1 | ⟨h1, h2⟩)
          · exact .inl h1
          · rcases List.mem_cons.1 h1 with h1 | h1
            · exact .inr (.inl h1)
            · exact .inr (.inr ⟨h1, by simpa using h2⟩)
theorem sorted_ins (w : W3) : ∀ l : List W3, SortedW l → SortedW (ins w false l)
  | [], _ => by simp [ins, SortedW]
  | y :: l, hs => by
    obtain ⟨hy, hl⟩ := List.pairwise_cons.1 hs
    cases h : klt y.1 w.1 with
    | true =>
      rw [ins_lt l h]
      refine List.pairwise_cons.2 ⟨fun x hx => ?_, sorted_ins w l hl⟩
      rcases (mem_ins w l x).1 hx with rfl | ⟨h1, _⟩
      · exact h
      · exact hy x h1
    | false =>
      rw [ins_ge l h]
      have hf : SortedW (l.filter (fun x => decide (x.1 ≠ w.1))) := List.Pairwise.sublist List.filter_sublist hl
      by_cases e : y.1 = w.1
      · rw [if_pos e, List.nil_append]
        exact List.pairwise_cons.2 ⟨fun x hx => by rw [← e]; exact hy x (List.mem_filter.1 hx).1, hf⟩
      · rw [if_neg e, List.singleton_append]
        have hwy := klt_or h (Ne.symm e)
        refine List.pairwise_cons.2 ⟨fun x hx => ?_, List.pairwise_cons.2 ⟨fun x hx => hy x (List.mem_filter.1 hx).1, hf⟩⟩
        rcases List.mem_cons.1 hx with rfl | hx
        · exact hwy
        · exact klt_trans hwy (hy x (List.mem_filter.1 hx).1)
/-- The table of writes. -/
def tabOf (l : List W3) : List W3 := l.foldl (fun t w => ins (fixW w) false t) []
theorem tabOf_snoc (l : List W3) (w : W3) : tabOf (l ++ [w]) = ins (fixW w) false (tabOf l) := by simp [tabOf]
theorem tabOf_nil : tabOf [] = [] := rfl
theorem rev_ind {P : List W3 → Prop} (h0 : P []) (h1 : ∀ l w, P l → P (l ++ [w])) (l : List W3) : P l := by
  have : ∀ m : List W3, P m.reverse := by
    intro m
    induction m with
    | nil => exact h0
    | cons a m ih => rw [List.reverse_cons]; exact h1 _ _ ih
  have := this l.reverse
  rwa [List.reverse_reverse] at this
theorem tabOf_sorted (l : List W3) : SortedW (tabOf l) := by
  refine rev_ind (P := fun l => SortedW (tabOf l)) (by simp [tabOf, SortedW]) (fun l w ih => ?_) l
  rw [tabOf_snoc]
  exact sorted_ins _ _ ih
/-- The map of writes. -/
def putM (w : W3) : List W3 → List W3
  | [] => [w]
  | p :: L => if p.1 = w.1 then w :: L else p :: putM w L
def KeysND (L : List W3) : Prop := (L.map (·.1)).Nodup
theorem mem_putM (w : W3) : ∀ (L : List W3), KeysND L → ∀ x, x ∈ putM w L ↔ x = w ∨ (x ∈ L ∧ x.1 ≠ w.1)
  | [], _, x => by simp [putM]
  | p :: L, h, x => by
    have h' : (p.1 :: L.map (·.1)).Nodup := h
    obtain ⟨h1, h2⟩ := List.nodup_cons.1 h'
    simp only [putM]
    by_cases e : p.1 = w.1
    · rw [if_pos e, List.mem_cons]
      constructor
      · rintro (h3 | h3)
        · exact .inl h3
        · exact .inr ⟨List.mem_cons_of_mem _ h3, fun e2 => h1 (by rw [e, ← e2]; exact List.mem_map_of_mem h3)⟩
      · rintro (h3 | ⟨h3, h4⟩)
        · exact .inl h3
        · rcases List.mem_cons.1 h3 with rfl | h3
          · exact absurd e h4
          · exact .inr h3
    · rw [if_neg e, List.mem_cons, mem_putM w L h2 x]
      constructor
      · rintro (rfl | h3 | ⟨h3, h4⟩)
        · exact .inr ⟨List.mem_cons_self .., e⟩
        · exact .inl h3
        · exact .inr ⟨List.mem_cons_of_mem _ h3, h4⟩
      · rintro (h3 | ⟨h3, h4⟩)
        · exact .inr (.inl h3)
        · rcases List.mem_cons.1 h3 with h3 | h3
          · exact .inl h3
          · exact .inr (.inr ⟨h3, h4⟩)
theorem putM_keys (w : W3) : ∀ (L : List W3) (k : ByteArray), k ∈ (putM w L).map (·.1) → k = w.1 ∨ k ∈ L.map (·.1)
  | [], k, h => by simp only [putM, List.map_cons, List.map_nil, List.mem_singleton] at h; exact .inl h
  | p :: L, k, h => by
    simp only [putM] at h
    split at h
    · rcases List.mem_cons.1 h with h | h
      · exact .inl h
      · exact .inr (List.mem_cons_of_mem _ h)
    · rcases List.mem_cons.1 h with h | h
      · exact .inr (by rw [h]; exact List.mem_cons_self ..)
      · exact (putM_keys w L k h).imp id (List.mem_cons_of_mem _)
theorem putM_nd (w : W3) : ∀ (L : List W3), KeysND L → KeysND (putM w L)
  | [], _ => by simp [putM, KeysND]
  | p :: L, h => by
    have h' : (p.1 :: L.map (·.1)).Nodup := h
    obtain ⟨h1, h2⟩ := List.nodup_cons.1 h'
    unfold KeysND putM
    by_cases e : p.1 = w.1
    · rw [if_pos e]
      show (w.1 :: L.map (·.1)).Nodup
      rw [← e]
      exact h'
    · rw [if_neg e]
      show (p.1 :: (putM w L).map (·.1)).Nodup
      refine List.nodup_cons.2 ⟨fun hm => ?_, putM_nd w L h2⟩
      rcases putM_keys w L p.1 hm with h3 | h3
      · exact e h3
      · exact h1 h3
def mapOf (l : List W3) : List W3 := l.foldl (fun L w => putM (fixW w) L) []
theorem mapOf_snoc (l : List W3) (w : W3) : mapOf (l ++ [w]) = putM (fixW w) (mapOf l) := by simp [mapOf]
theorem mapOf_nd (l : List W3) : KeysND (mapOf l) := by
  refine rev_ind (P := fun l => KeysND (mapOf l)) (by simp [mapOf, KeysND]) (fun l w ih => ?_) l
  rw [mapOf_snoc]
  exact putM_nd _ _ ih
theorem mapOf_tabOf (l : List W3) : ∀ x, x ∈ mapOf l ↔ x ∈ tabOf l := by
  refine rev_ind (P := fun l => ∀ x, x ∈ mapOf l ↔ x ∈ tabOf l) (fun x => by simp [mapOf, tabOf]) (fun l w ih x => ?_) l
  rw [mapOf_snoc, tabOf_snoc, mem_putM _ _ (mapOf_nd l), mem_ins, ih]
/-- Two tables of the same writes are one. -/
theorem sorted_unique : ∀ (a b : List W3), SortedW a → SortedW b → (∀ x, x ∈ a ↔ x ∈ b) → a = b
  | [], [], _, _, _ => rfl
  | [], y :: b, _, _, h => by have := (h y).2 (List.mem_cons_self ..); cases this
  | x :: a, [], _, _, h => by have := (h x).1 (List.mem_cons_self ..); cases this
  | x :: a, y :: b, ha, hb, h => by
    obtain ⟨hx, ha'⟩ := List.pairwise_cons.1 ha
    obtain ⟨hy, hb'⟩ := List.pairwise_cons.1 hb
    have e : x = y := by
      rcases List.mem_cons.1 ((h x).1 (List.mem_cons_self ..)) with e | h1
      · exact e
      · rcases List.mem_cons.1 ((h y).2 (List.mem_cons_self ..)) with e | h2
        · exact e.symm
        · have k1 := hy x h1
          have k2 := hx y h2
          rw [klt_asymm k1] at k2
          cases k2
    subst e
    congr 1
    refine sorted_unique a b ha' hb' (fun z => ?_)
    constructor
    · intro hz
      rcases List.mem_cons.1 ((h z).1 (List.mem_cons_of_mem _ hz)) with rfl | h1
      · have := hx z hz
        rw [klt_irrefl] at this
        cases this
      · exact h1
    · intro hz
      rcases List.mem_cons.1 ((h z).2 (List.mem_cons_of_mem _ hz)) with rfl | h1
      · have := hy z hz
        rw [klt_irrefl] at this
        cases this
      · exact h1
/-- A sorted list of the map's writes is the table. -/
theorem sorted_is_tab (l d : List W3) (hd : SortedW d) (hm : ∀ x, x ∈ d ↔ x ∈ mapOf l) : d = tabOf l :=
  sorted_unique d _ hd (tabOf_sorted l) (fun x => (hm x).trans (mapOf_tabOf l x))
/-- What was written of a key last. -/
def lookW (k : ByteArray) (l : List W3) : Option W3 := (l.find? (fun w => decide (w.1 = k)))
theorem lookW_tab_snoc (k : ByteArray) (l : List W3) (w : W3) : lookW k (tabOf (l ++ [w])) = if w.1 = k then some (fixW w) else lookW k (tabOf l) := by
  have uniq : ∀ (t : List W3), SortedW t → ∀ x ∈ t, lookW x.1 t = some x := by
    intro t ht x hx
    unfold lookW
    induction t with
    | nil => cases hx
    | cons y t ih =>
      obtain ⟨hy, ht'⟩ := List.pairwise_cons.1 ht
      rcases List.mem_cons.1 hx with rfl | h
      · simp
      · have : y.1 ≠ x.1 := klt_ne (hy x h)
        rw [List.find?_cons_of_neg (by simpa using this)]
        exact ih ht' h
  have none_ : ∀ (t : List W3), (∀ x ∈ t, x.1 ≠ k) → lookW k t = none := by
    intro t ht
    unfold lookW
    rw [List.find?_eq_none]
    intro x hx
    simpa using ht x hx
  have hs := tabOf_sorted (l ++ [w])
  have hm := mem_ins (fixW w) (tabOf l)
  rw [tabOf_snoc] at hs ⊢
  by_cases e : w.1 = k
  · rw [if_pos e]
    have := uniq _ hs (fixW w) ((hm _).2 (.inl rfl))
    rw [fixW_key, e] at this
    exact this
  · rw [if_neg e]
    cases h : lookW k (tabOf l) with
    | none =>
      refine none_ _ (fun x hx => ?_)
      rcases (hm x).1 hx with rfl | ⟨h1, _⟩
      · rw [fixW_key]; exact e
      · intro e2
        have := uniq _ (tabOf_sorted l) x h1
        rw [e2, h] at this
        cases this
    | some x =>
      have hx := List.mem_of_find?_eq_some h
      have hk : x.1 = k := by simpa using List.find?_some h
      have := uniq _ hs x ((hm x).2 (.inr ⟨hx, by rw [fixW_key, hk]; exact fun e2 => e e2.symm⟩))
      rw [hk] at this
      exact this
end Go.Proofs.Ytnggdkpaofbaaaa

/- Writes sorted by their keys: the comparison, and slices.SortFunc on a row of the call's own. -/
import Derived.Test.YtnggdkpaofbaaaaMapStr
import Derived.Test.YtnggdkpaofbaaaaSortK
import Derived.Test.YtnggdkpaofbaaaaShelf
namespace Go.Proofs.Ytnggdkpaofbaaaa
open Go.RowKit Go.Sort Go.Shelf
set_option linter.unusedVariables false

def cmpW (a b : ByteArray) : Int := if klt a b then -1 else if klt b a then 1 else 0
set_option maxRecDepth 50000 in
theorem isNaN_calls (a : ByteArray) (w : World) : Calls Try.prog 71 #[.string a] w fun e w' => e = .returned (.bool false) ∧ w = w' := by
  go_enter Try.func71, Try.ntmps71
  go_wp2
  go_ret
  exact ⟨rfl, rfl⟩
set_option maxRecDepth 50000 in
theorem cmpStr_calls (a b : ByteArray) (w : World) : Calls Try.prog 31 #[.string a, .string b] w fun e w' => e = .returned (.int .i64 (cmpW a b)) ∧ w = w' := by
  cases h1 : klt a b with
  | true =>
    have h1' : Op.bytesLess a.toList b.toList = true := h1
    have hc : cmpW a b = -1 := by unfold cmpW; rw [h1]; rfl
    rw [hc]
    clear h1 hc
    go_enter Try.func31, Try.ntmps31
    go_wp2_with (first
      | (go_at_call 71; (with_reducible refine (isNaN_calls a w).mono ?_); rintro e w1 ⟨rfl, rfl⟩)
      | (go_at_call 71; (with_reducible refine (isNaN_calls b w).mono ?_); rintro e w1 ⟨rfl, rfl⟩))
    go_ret
    exact ⟨rfl, rfl⟩
  | false =>
    have h1' : Op.bytesLess a.toList b.toList = false := h1
    cases h2 : klt b a with
    | true =>
      have h2' : Op.bytesLess b.toList a.toList = true := h2
      have he : (a.toList == b.toList) = false := by rw [beq_eq_false_iff_ne]; intro e; exact klt_ne h2 (kl_inj e).symm
      have hc : cmpW a b = 1 := by unfold cmpW; rw [h1, h2]; rfl
      rw [hc]
      clear h1 h2 hc
      go_enter Try.func31, Try.ntmps31
      go_wp2_with (first
        | (go_at_call 71; (with_reducible refine (isNaN_calls a w).mono ?_); rintro e w1 ⟨rfl, rfl⟩)
        | (go_at_call 71; (with_reducible refine (isNaN_calls b w).mono ?_); rintro e w1 ⟨rfl, rfl⟩))
      go_ret
      exact ⟨rfl, rfl⟩
    | false =>
      have h2' : Op.bytesLess b.toList a.toList = false := h2
      have he : (a.toList == b.toList) = true := by
        by_cases e : b = a
        · rw [e]; exact beq_self_eq_true _
        · have := klt_or h1 e
          rw [h2] at this
          cases this
      have hc : cmpW a b = 0 := by unfold cmpW; rw [h1, h2]; rfl
      rw [hc]
      clear h1 h2 hc
      go_enter Try.func31, Try.ntmps31
      go_wp2_with (first
        | (go_at_call 71; (with_reducible refine (isNaN_calls a w).mono ?_); rintro e w1 ⟨rfl, rfl⟩)
        | (go_at_call 71; (with_reducible refine (isNaN_calls b w).mono ?_); rintro e w1 ⟨rfl, rfl⟩))
      go_ret
      exact ⟨rfl, rfl⟩
set_option maxRecDepth 50000 in
theorem cmpW_calls (x y : W3) (w : World) : Calls Try.prog 30 #[wV x, wV y] w fun e w' => e = .returned (.int .i64 (cmpW x.1 y.1)) ∧ ∃ q os', w' = grow (w.drewN q) os' := by
  have hcon := fun w' => cmpStr_calls x.1 y.1 w'
  generalize cmpW x.1 y.1 = r at hcon ⊢
  unfold wV wC
  go_enter Try.func30, Try.ntmps30
  go_wp2_with (go_at_call 31; refine (hcon _).mono ?_; rintro e w' ⟨rfl, rfl⟩)
  go_ret
  exact ⟨rfl, 0, _, by rw [alloc_eq_grow, alloc_eq_grow, grow_grow]; rfl⟩
theorem ltOf_cmpW (x y : W3) : ltOf (fun x y : W3 => cmpW x.1 y.1) x y = klt x.1 y.1 := by
  unfold ltOf cmpW
  cases h1 : klt x.1 y.1 with
  | true => simp [h1]
  | false => cases h2 : klt y.1 x.1 <;> simp [h1, h2]
theorem swoW : SWO (ltOf fun x y : W3 => cmpW x.1 y.1) where
  irrefl x := by rw [ltOf_cmpW]; exact klt_irrefl _
  trans x y z h1 h2 := by rw [ltOf_cmpW] at *; exact klt_trans h1 h2
  ntrans x y z h1 h2 := by
    rw [ltOf_cmpW] at *
    by_cases e1 : y.1 = x.1
    · rw [← e1]; exact h2
    · have k1 := klt_or h1 e1
      by_cases e2 : z.1 = y.1
      · rw [e2]; exact h1
      · have k2 := klt_or h2 e2
        exact klt_asymm (klt_trans k2 k1)
instance : Inhabited W3 := ⟨(ByteArray.empty, ByteArray.empty, false)⟩
theorem own_nd_sorted (d' : Array W3) (l : List W3) (hp : PermIn 0 l.length l.toArray d') (hs : SortedIn (ltOf fun x y : W3 => cmpW x.1 y.1) 0 l.length d') (hn : KeysND l) : SortedW d'.toList ∧ (∀ x, x ∈ d'.toList ↔ x ∈ l) ∧ d'.size = l.length := by
  obtain ⟨h1, _, h3⟩ := hp
  have hsz : d'.size = l.length := by simpa using h1
  have e1 : (d'.extract 0 l.length).toList = d'.toList := by rw [← hsz, Array.extract_size]
  have e2 : (l.toArray.extract 0 l.length).toList = l := by
    have : l.length = l.toArray.size := by simp
    rw [this, Array.extract_size]
  rw [e1, e2] at h3
  have hnd : KeysND d'.toList := (List.Perm.nodup_iff (h3.map (fun x : W3 => x.1))).2 hn
  refine ⟨List.pairwise_iff_getElem.2 (fun i j hi hj hij => ?_), fun x => h3.mem_iff, hsz⟩
  rw [Array.length_toList] at hi hj
  have := hs i j (Nat.zero_le _) hij (by rw [← hsz]; exact hj)
  rw [ltOf_cmpW, getElem!_pos d' j hj, getElem!_pos d' i hi] at this
  refine klt_or this (fun e => ?_)
  have hne := List.pairwise_iff_getElem.1 hnd i j (by simpa using hi) (by simpa using hj) hij
  exact hne (by simpa using e)
/-- slices.SortFunc on a row of writes of the call's own, no two of one key. -/
theorem sortW_calls (B : Nat) (w : World) (A : Option Addr) (n c : Nat) (l : List W3) (h : w.ownsRow B 46 3 (.slice A n c) n (l.map wC).flatten) (hn : l.length = n) (hk : KeysND l) (hsz : n < 4611686018427387904) :
    Calls Try.prog 29 #[.slice A n c, .func (.func 30) #[] #[]] w fun e w' => e = .returned (.tuple #[]) ∧ ∃ d : List W3, SortedW d ∧ (∀ x, x ∈ d ↔ x ∈ l) ∧ d.length = n ∧ w'.ownsRow B 46 3 (.slice A n c) n (d.map wC).flatten ∧ w.grownBy w' (Value.slice A n c).ownBlock := by
  rcases h.2 with ⟨e, h0⟩ | ⟨g, cap, cur, e, hb, hgg, _⟩
  · simp only [Value.slice.injEq] at e
    obtain ⟨rfl, rfl, rfl⟩ := e
    have hl : l = [] := List.eq_nil_of_length_eq_zero hn
    subst hl
    have hcon := AnyF.slices_SortFunc_none (P := Try.prog) Try.sortW none 0 (.func (.func 30) #[] #[]) w
    refine Calls.mono hcon (fun e w' ⟨h1, h2⟩ => ?_)
    subst h2
    exact ⟨h1, [], by simp [SortedW], fun x => Iff.rfl, rfl, h, World.grownBy.refl _ _⟩
  · simp only [Value.slice.injEq] at e
    obtain ⟨rfl, _, rfl⟩ := e
    have hg : g < w.heap.size := (Array.getElem?_eq_some_iff.1 hgg).1
    have hH := holdsK_own (C := wC) wC_len (by omega) h hn
    have hsz' : l.toArray.size = n := by simpa using hn
    have eg : ∀ args w, (callFunc 30 args).run Try.prog w = .ok (.enter 30 args) w := enters_of Try.func30 (by kernel_rfl) rfl
    have hcon := AnyQ.slices_SortFunc (P := Try.prog) Try.sortW 3 Try.isAgg46 Try.sizeOf46 wC wC_len wC_one (fun x y : W3 => cmpW x.1 y.1) swoW 30 #[] g 0 c l.toArray w eg (fun _ _ _ _ x y => cmpW_calls x y _) hH hg (by rw [hsz']; exact hsz)
    rw [hsz'] at hcon
    refine Calls.mono hcon (fun e w' ⟨h1, d', m, os, hp, hs, hw⟩ => ?_)
    rw [← hn] at hp hs
    obtain ⟨k1, k2, k3⟩ := own_nd_sorted d' l hp hs hk
    have hd : d'.size = n := k3.trans hn
    obtain ⟨h2, h3⟩ := sorted_own (C := wC) wC_len (by omega) (m := m) (os := os) h hd
    subst hw
    exact ⟨h1, d'.toList, k1, k2, by rw [Array.length_toList, hd], h2, h3⟩
end Go.Proofs.Ytnggdkpaofbaaaa

/- table.Get: slices.BinarySearchFunc by keys. -/
import Derived.Test.YtdhbnfhmcnacoaaTabMany
namespace Go.Proofs.Ytdhbnfhmcnacoaa
open Go.RowKit Go.Shelf
set_option linter.unusedVariables false

theorem cmpW_lt {a b : ByteArray} (h : klt a b = true) : cmpW a b = -1 := by unfold cmpW; rw [h]; rfl
theorem cmpW_eq (a : ByteArray) : cmpW a a = 0 := by unfold cmpW; rw [klt_irrefl]; rfl
theorem cmpW_gt {a b : ByteArray} (h : klt b a = true) : cmpW a b = 1 := by unfold cmpW; rw [klt_asymm h, h]; rfl
set_option maxRecDepth 50000 in
theorem cmpKey_calls (x : W3) (k : ByteArray) (w : World) : Calls Try.prog 50 #[.agg (wC x).toArray, .string k] w fun e w' => e = .returned (.int .i64 (cmpW x.1 k)) ∧ Ext w w' := by
  have hcon := fun w' => cmpStr_calls x.1 k w'
  generalize cmpW x.1 k = r at hcon ⊢
  have HC := Lib.hid hcon
  obtain ⟨x0, x1, x2⟩ := x
  unfold wC
  clear hcon
  go_enter Try.func50, Try.ntmps50
  go_wp2_with (go_at_call 33; refine (HC.out _).mono ?_; rintro e w' ⟨rfl, rfl⟩)
  go_ret
  exact ⟨rfl, (Ext.refl _).alloc _⟩
/-- What a binary search knows. -/
def Lower (l : List W3) (k : ByteArray) (i : Nat) : Prop := ∀ a x, l[a]? = some x → a < i → klt x.1 k = true
def Upper (l : List W3) (k : ByteArray) (j : Nat) : Prop := ∀ a x, l[a]? = some x → j ≤ a → klt x.1 k = false
theorem sorted_at {l : List W3} (hs : SortedW l) {a b : Nat} {x y : W3} (hx : l[a]? = some x) (hy : l[b]? = some y) (hab : a < b) : klt x.1 y.1 = true := by
  obtain ⟨ha, rfl⟩ := List.getElem?_eq_some_iff.1 hx
  obtain ⟨hb, rfl⟩ := List.getElem?_eq_some_iff.1 hy
  exact List.pairwise_iff_getElem.1 hs a b ha hb hab
theorem Lower.step {l : List W3} {k : ByteArray} {h : Nat} {y : W3} (hs : SortedW l) (hy : l[h]? = some y) (hk : klt y.1 k = true) : Lower l k (h + 1) := by
  intro a x hx ha
  by_cases e : a = h
  · subst e
    rw [hy] at hx
    cases hx
    exact hk
  · exact klt_trans (sorted_at hs hx hy (by omega)) hk
theorem Upper.step {l : List W3} {k : ByteArray} {h : Nat} {y : W3} (hs : SortedW l) (hy : l[h]? = some y) (hk : klt y.1 k = false) : Upper l k h := by
  intro a x hx ha
  by_cases e : a = h
  · subst e
    rw [hy] at hx
    cases hx
    exact hk
  · cases h1 : klt x.1 k with
    | false => rfl
    | true =>
      have := klt_trans (sorted_at hs hy hx (by omega)) h1
      rw [hk] at this
      cases this
theorem search_none {l : List W3} {k : ByteArray} {i : Nat} (hs : SortedW l) (h1 : Lower l k i) (h2 : Upper l k i) (hne : ∀ y, l[i]? = some y → y.1 ≠ k) : ∀ x ∈ l, x.1 ≠ k := by
  intro x hx e
  obtain ⟨a, ha, hax⟩ := List.getElem_of_mem hx
  have hx' : l[a]? = some x := by rw [List.getElem?_eq_getElem ha, hax]
  rcases Nat.lt_trichotomy a i with h | h | h
  · have := h1 a x hx' h
    rw [e, klt_irrefl] at this
    cases this
  · subst h
    exact hne x hx' e
  · have hi : i < l.length := by omega
    have hy : l[i]? = some l[i] := List.getElem?_eq_getElem hi
    have h3 := sorted_at hs hy hx' h
    have h4 := h2 i _ hy (Nat.le_refl _)
    rw [e, h4] at h3
    cases h3
theorem look_none {l : List W3} {k : ByteArray} (h : ∀ x ∈ l, x.1 ≠ k) : lookW k l = none := by
  cases h1 : lookW k l with
  | none => rfl
  | some x => exact absurd (lookW_mem h1).2 (h x (lookW_mem h1).1)
theorem look_some {l : List W3} {k : ByteArray} {i : Nat} {y : W3} (hs : SortedW l) (hy : l[i]? = some y) (e : y.1 = k) : lookW k l = some y := by
  subst e
  exact lookW_sorted hs (List.mem_of_getElem? hy)
set_option maxRecDepth 50000 in
set_option maxHeartbeats 8000000 in
theorem search_calls (l : List W3) (A : Option Addr) (n c : Nat) (k : ByteArray) (w : World) (hr : Row w A 3 (l.map wC)) (hn : l.length = n) (hl : n ≤ 1000000) (hs : SortedW l) :
    Calls Try.prog 49 #[.slice A n c, .string k, .func (.func 50) #[] #[]] w fun e w' =>
      ∃ (i : Nat) (b : Bool), e = .returned (.tuple #[.int .i64 i, .bool b]) ∧ Ext w w' ∧ (if b then ∃ y, l[i]? = some y ∧ y.1 = k else ∀ x ∈ l, x.1 ≠ k) := by
  have Hr := Lib.hid hr
  have Hn := Lib.hid hn
  have Hs := Lib.hid hs
  clear hr hn hs
  go_enter Try.func49, Try.ntmps49
  go_upto_region 3 with (fail)
  go_loopw [9, 10] (fun u v wr => ∃ (i j : Nat), i ≤ j ∧ j ≤ n ∧ u = .int .i64 i ∧ v = .int .i64 j ∧ Hid (Lower l k i) ∧ Hid (Upper l k j) ∧ Ext w wr) (fun u v _ => (intOf v).toNat - (intOf u).toNat)
  case atStart => exact ⟨0, n, Nat.zero_le _, Nat.le_refl _, rfl, rfl, Lib.hid (fun a x hx h => absurd h (by omega)), Lib.hid (fun a x hx h => by
    have := (List.getElem?_eq_some_iff.1 hx).1
    rw [Hn.out] at this
    omega), Ext.refl _⟩
  case round =>
    obtain ⟨i, j, hij, hjn, rfl, rfl, HL, HU, hx⟩ := hrel
    by_cases hlt : i < j
    · obtain ⟨m, hm⟩ : ∃ m, m = (i + j) / 2 := ⟨_, rfl⟩
      have hm1 : m < j := by omega
      have hm2 : i ≤ m := by omega
      have hmid : ((i : Int) + (j : Int)) / 2 = (m : Int) := by omega
      have hml : m < l.length := by rw [Hn.out]; omega
      obtain ⟨ad, rfl, hlc0⟩ := Hr.out.get (i := m) (by simpa using hml)
      rw [List.getElem_map] at hlc0
      obtain ⟨x, hxe⟩ : ∃ x, l[m]? = some x := ⟨_, List.getElem?_eq_getElem hml⟩
      rw [(List.getElem?_eq_some_iff.1 hxe).2] at hlc0
      have hlc : ∀ (a : Nat) (v : Value), (wC x)[a]? = some v → wr.cell? ((ad.add (m * 3)).add a) = some v := fun a v hv => hx.cell (hlc0 a v hv)
      have HXE := Lib.hid hxe
      have HMID := Lib.hid hmid
      clear hm hml hlc0 hxe hmid
      go_upto_region 5 with (fail)
      rw [HMID.out]
      have hp0 : (0 : Int) ≤ (m : Int) := by omega
      have hp1 : (m : Int) < (n : Int) := by omega
      cases hk : klt x.1 k with
      | true =>
        have hcmp := fun u => cmpKey_calls x k u
        rw [cmpW_lt hk] at hcmp
        have HC := Lib.hid hcmp
        have HL2 := Lib.hid (Lower.step Hs.out HXE.out hk)
        clear hcmp hk
        go_wp2_with (first
          | (refine wpList_load_row_ rfl 46 (.tmp 27) rfl (ad.add (m * 3)) rfl (wC x) _ hlc Try.underlying46 rfl (by rw [w_info]; rfl) ?_)
          | (go_at_call 50; (with_reducible refine Calls.mono (HC.out wr) ?_); rintro e w1 ⟨rfl, hx1⟩))
        go_roundw
        case rel => exact ⟨m + 1, j, by omega, hjn, by go_num, rfl, HL2, HU, hx.trans hx1⟩
        case measure => simp [intOf]; omega
      | false =>
        have hcmp := fun u => cmpKey_calls x k u
        have HU2 := Lib.hid (Upper.step Hs.out HXE.out hk)
        obtain ⟨z, hz, hz0⟩ : ∃ z, z = cmpW x.1 k ∧ 0 ≤ z ∧ z ≤ 1 := ⟨_, rfl, by unfold cmpW; rw [hk]; cases klt k x.1 <;> decide⟩
        rw [← hz] at hcmp
        have HC := Lib.hid hcmp
        obtain ⟨hz1, hz2⟩ := hz0
        clear hcmp hk hz
        go_wp2_with (first
          | (refine wpList_load_row_ rfl 46 (.tmp 27) rfl (ad.add (m * 3)) rfl (wC x) _ hlc Try.underlying46 rfl (by rw [w_info]; rfl) ?_)
          | (go_at_call 50; (with_reducible refine Calls.mono (HC.out wr) ?_); rintro e w1 ⟨rfl, hx1⟩))
        go_roundw
        case rel => exact ⟨i, m, hm2, by omega, rfl, rfl, HL, HU2, hx.trans hx1⟩
        case measure => simp [intOf]; omega
    · obtain rfl : i = j := by omega
      by_cases hin : i < n
      · have hml : i < l.length := by rw [Hn.out]; omega
        obtain ⟨ad, rfl, hlc0⟩ := Hr.out.get (i := i) (by simpa using hml)
        rw [List.getElem_map] at hlc0
        obtain ⟨x, hxe⟩ : ∃ x, l[i]? = some x := ⟨_, List.getElem?_eq_getElem hml⟩
        rw [(List.getElem?_eq_some_iff.1 hxe).2] at hlc0
        have hlc : ∀ (a : Nat) (v : Value), (wC x)[a]? = some v → wr.cell? ((ad.add (i * 3)).add a) = some v := fun a v hv => hx.cell (hlc0 a v hv)
        have hup := HU.out i x hxe (Nat.le_refl _)
        have hp0 : (0 : Int) ≤ (i : Int) := by omega
        have hp1 : (i : Int) < (n : Int) := by omega
        have hcmp := fun u => cmpKey_calls x k u
        by_cases hxk : x.1 = k
        · rw [hxk, cmpW_eq] at hcmp
          have HC := Lib.hid hcmp
          have HXE := Lib.hid (show ∃ y, l[i]? = some y ∧ y.1 = k from ⟨x, hxe, hxk⟩)
          clear hcmp hup hxe hxk hlc0 hml
          go_wp2_with (first
            | (refine wpList_load_row_g (g := 4) (d' := 39) rfl rfl rfl 46 (.tmp 43) rfl (ad.add (i * 3)) rfl (wC x) _ hlc Try.underlying46 rfl (by rw [w_info]; rfl) ?_)
            | (go_at_call 50; (with_reducible refine Calls.mono (HC.out wr) ?_); rintro e w1 ⟨rfl, hx1⟩))
          go_ret2
          exact ⟨i, true, rfl, hx.trans hx1, HXE.out⟩
        · have hgt : klt k x.1 = true := klt_or hup (Ne.symm hxk)
          rw [cmpW_gt hgt] at hcmp
          have HC := Lib.hid hcmp
          have HN := Lib.hid (search_none Hs.out HL.out HU.out (fun y hy => by rw [hxe] at hy; cases hy; exact hxk))
          clear hcmp hup hxe hxk hlc0 hml hgt
          go_wp2_with (first
            | (refine wpList_load_row_g (g := 4) (d' := 39) rfl rfl rfl 46 (.tmp 43) rfl (ad.add (i * 3)) rfl (wC x) _ hlc Try.underlying46 rfl (by rw [w_info]; rfl) ?_)
            | (go_at_call 50; (with_reducible refine Calls.mono (HC.out wr) ?_); rintro e w1 ⟨rfl, hx1⟩))
          go_ret2
          exact ⟨i, false, rfl, hx.trans hx1, HN.out⟩
      · have HN := Lib.hid (search_none Hs.out HL.out HU.out (fun y hy => by
          have := (List.getElem?_eq_some_iff.1 hy).1
          rw [Hn.out] at this
          omega))
        obtain rfl : i = n := by omega
        go_wp2
        go_ret2
        exact ⟨i, false, rfl, hx, HN.out⟩
end Go.Proofs.Ytdhbnfhmcnacoaa

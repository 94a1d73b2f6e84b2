/- The walks of code.Reader's methods, by the plain reader 'PR'. -/
import Derived.Test.YtcnhbodemabbdaaDoorQ01
import Derived.Test.YtcnhbodemabbdaaDoorQ09
import Derived.Test.YtcnhbodemabbdaaDoorQ11
import Derived.Test.YtcnhbodemabbdaaDoorQ08
namespace Go.Proofs.YtcnhbodemabbdaaDoor
open Go.RowKit
set_option linter.unusedVariables false

/-- Block g is a reader that has r. -/
def Rdr (w : World) (g : Nat) (r : PR) : Prop :=
  ∃ A c, Blk w g 153 #[.slice A r.b.length c, .bool r.bad] ∧ r.b.length ≤ c ∧ r.b.length ≤ 140737488351232 ∧ Cells w A (bv r.b) ∧ ∀ x, A = some x → x.block < g

theorem Rdr.ext {w w' : World} {g : Nat} {r : PR} (h : Rdr w g r) (k : Ext w w') : Rdr w' g r :=
  let ⟨A, c, h1, h2, h3, h4, h5⟩ := h; ⟨A, c, h1.ext k, h2, h3, h4.ext k, h5⟩

/-- A call that turns block g alone. -/
abbrev Turns (w w' : World) (g : Nat) : Prop := w.grownBy w' (some g)
theorem Turns.refl (w : World) (g : Nat) : Turns w w g := World.grownBy.refl w _
theorem Turns.trans {a b c : World} {g : Nat} (h : Turns a b g) (k : Turns b c g) : Turns a c g := World.grownBy.trans h k
theorem Turns.ext {w0 w w' : World} {g : Nat} (h : Turns w w' g) (k : Ext w0 w) (hg : w0.heap.size ≤ g) : Ext w0 w' := Below.grown k h k.size (fun j hj => by cases hj; exact hg)
theorem Turns.blk {w w' : World} {g g' : Nat} {t : TypeId} {cs : Array Value} (h : Turns w w' g) (hb : Blk w g' t cs) (hne : g' ≠ g) : Blk w' g' t cs := hb.grown h (fun e => hne (Option.some.inj e))
theorem Turns.cells {w w' : World} {g : Nat} {A : Option Addr} {cs : List Value} (h : Turns w w' g) (hc : Cells w A cs) (hne : ∀ x, A = some x → x.block ≠ g) : Cells w' A cs :=
  hc.grown h (fun x hx e => hne x hx (Option.some.inj e))
theorem Same.lt {A A' : Option Addr} (h : Same A A') {g : Nat} (hne : ∀ x, A = some x → x.block < g) : ∀ x, A' = some x → x.block < g := by
  intro x hx
  obtain ⟨y, hy, e⟩ := h x hx
  rw [e]
  exact hne y hy
theorem lt_ne {A : Option Addr} {g : Nat} (h : ∀ x, A = some x → x.block < g) : ∀ x, A = some x → x.block ≠ g := fun x hx => Nat.ne_of_lt (h x hx)
theorem Rdr.grown {w w' : World} {g : Nat} {r : PR} (h : Rdr w g r) {row : Option Nat} (hg : w.grownBy w' row) (hr : ∀ k, row = some k → g < k) : Rdr w' g r :=
  let ⟨A, c, h1, h2, h3, h4, h5⟩ := h
  ⟨A, c, h1.grown hg (fun e => absurd (hr g e.symm) (Nat.lt_irrefl _)), h2, h3, h4.grown hg (fun x hx e => absurd (h5 x hx) (Nat.not_lt.2 (Nat.le_of_lt (hr _ e.symm)))), h5⟩

theorem rfail_calls (g : Nat) (r : PR) (w : World) (h : Rdr w g r) :
    Calls Tryd.prog 90 #[.pointer (some ⟨g, 0, none⟩)] w fun e w' => e = .returned (.tuple #[]) ∧ Rdr w' g PR.fail ∧ Turns w w' g := by
  obtain ⟨A, c, h1, h2, h3, h4, h5⟩ := h
  have c0 : w.cell? ⟨g, 0, none⟩ = some (.slice A r.b.length c) := by rw [h1.cell]; rfl
  have c1 : w.cell? ⟨g, 1, none⟩ = some (.bool r.bad) := by rw [h1.cell]; rfl
  have f0 := h1.frozen 0
  have f1 := h1.frozen 1
  go_enter Tryd.func90, Tryd.ntmps90
  go_wp2
  go_end0
  refine ⟨rfl, ⟨none, 0, ?_, Nat.le_refl _, by simp [PR.fail], Cells.nil _ _, fun x hx => by cases hx⟩, (grown_set w g 1 _).trans (grown_set _ g 0 _)⟩
  exact (h1.set 1 (.bool true)).set 0 (.slice none 0 0)

theorem rfail_nil (w : World) :
    Calls Tryd.prog 90 #[.pointer none] w fun e w' => e = .returned (.tuple #[]) ∧ w = w' := by
  go_enter Tryd.func90, Tryd.ntmps90
  go_wp2
  go_end0
  exact ⟨rfl, rfl⟩


theorem rgood_calls (g : Nat) (r : PR) (w : World) (h : Rdr w g r) :
    Calls Tryd.prog 61 #[.pointer (some ⟨g, 0, none⟩)] w fun e w' => e = .returned (.bool (!r.bad)) ∧ w = w' := by
  obtain ⟨A, c, h1, h2, h3, h4, h5⟩ := h
  have c1 : w.cell? ⟨g, 1, none⟩ = some (.bool r.bad) := by rw [h1.cell]; rfl
  go_enter Tryd.func61, Tryd.ntmps61
  go_wp2
  go_ret
  exact ⟨rfl, rfl⟩
theorem rgood_nil (w : World) :
    Calls Tryd.prog 61 #[.pointer none] w fun e w' => e = .returned (.bool false) ∧ w = w' := by
  go_enter Tryd.func61, Tryd.ntmps61
  go_wp2
  go_ret
  exact ⟨rfl, rfl⟩

def PR.end_ (r : PR) : Bool := !r.bad && r.b.length == 0
theorem rend_calls (g : Nat) (r : PR) (w : World) (h : Rdr w g r) :
    Calls Tryd.prog 65 #[.pointer (some ⟨g, 0, none⟩)] w fun e w' => e = .returned (.bool r.end_) ∧ w = w' := by
  have hr := h
  obtain ⟨A, c, h1, h2, h3, h4, h5⟩ := h
  have c0 : w.cell? ⟨g, 0, none⟩ = some (.slice A r.b.length c) := by rw [h1.cell]; rfl
  cases hb : r.bad with
  | true =>
    have hg := rgood_calls g r w hr
    rw [hb] at hg
    go_enter Tryd.func65, Tryd.ntmps65
    go_wp2_with (go_at_call 61; refine hg.mono ?_; rintro e w' ⟨rfl, rfl⟩)
    go_ret
    exact ⟨ret_bool (by unfold PR.end_; rw [hb]; rfl), rfl⟩
  | false =>
    have hg := rgood_calls g r w hr
    rw [hb] at hg
    go_enter Tryd.func65, Tryd.ntmps65
    go_wp2_with (go_at_call 61; refine hg.mono ?_; rintro e w' ⟨rfl, rfl⟩)
    go_ret
    refine ⟨ret_bool ?_, rfl⟩
    unfold PR.end_
    rw [hb, Bool.eq_iff_iff]
    simp
theorem rend_nil (w : World) :
    Calls Tryd.prog 65 #[.pointer none] w fun e w' => e = .returned (.bool false) ∧ w = w' := by
  go_enter Tryd.func65, Tryd.ntmps65
  go_wp2_with (go_at_call 61; refine (rgood_nil _).mono ?_; rintro e w' ⟨rfl, rfl⟩)
  go_ret
  exact ⟨rfl, rfl⟩

theorem bs_info : (Tryd.prog.info? 5).map (·.size) = some 1 := by kernel_rfl

set_option maxRecDepth 50000 in
set_option maxHeartbeats 1000000 in
theorem ruint_calls (g : Nat) (r : PR) (w : World) (h : Rdr w g r) :
    Calls Tryd.prog 92 #[.pointer (some ⟨g, 0, none⟩)] w fun e w' => e = .returned (.int .u64 (r.uint.1 : Nat)) ∧ Rdr w' g r.uint.2 ∧ Turns w w' g := by
  have hr := h
  obtain ⟨A, c, h1, h2, h3, h4, h5⟩ := h
  have c0 : w.cell? ⟨g, 0, none⟩ = some (.slice A r.b.length c) := by rw [h1.cell]; rfl
  have f0 := h1.frozen 0
  go_enter Tryd.func92, Tryd.ntmps92
  go_wp2
  go_loopg [3, 13] (r.b.length) (fun k v i wr => ∃ (j acc : Nat), i = .int .i64 j ∧ v = .int .u64 acc ∧ j ≤ 9 ∧ j + k = r.b.length ∧ Aside (acc < 128 ^ j ∧ rUF j acc (r.b.drop j) = rUF 0 0 r.b) ∧ wr = w)
  case atStart => exact ⟨0, 0, rfl, rfl, by omega, by omega, ⟨by simp, rfl⟩, rfl⟩
  case round =>
    obtain ⟨j, acc, rfl, rfl, hj, hk, hA, rfl⟩ := hrel
    by_cases hlt : j < r.b.length
    · obtain ⟨x, hx, hcell⟩ := h4.byte hlt
      subst hx
      have hdrop : r.b.drop j = r.b[j] :: r.b.drop (j + 1) := List.drop_eq_getElem_cons hlt
      obtain ⟨b, hb⟩ : ∃ b, b = r.b[j] := ⟨_, rfl⟩
      rw [← hb] at hcell hdrop
      have HA := hA.out
      rw [hdrop] at HA
      simp only [rUF] at HA
      have hb8 : b.toNat < 256 := b.toNat_lt
      by_cases hbad : (j = 9 ∧ 1 < b.toNat) ∨ (0 < j ∧ b.toNat = 0)
      · have hnone : rUF 0 0 r.b = none := by rw [← HA.2, if_pos hbad]
        have hres : r.uint = (0, PR.fail) := by unfold PR.uint; rw [hnone]
        have HR := Lib.hid hres
        clear hres hnone HA hA hdrop hb
        by_cases h9 : j = 9 ∧ 1 < b.toNat
        · have e9 : (((j : Int) == 9) : Bool) = true := by rw [beq_iff_eq]; omega
          have hb1 : 1 < b.toNat := h9.2
          clear h9 hbad
          go_wp2_with (go_at_call 90; (with_reducible refine (rfail_calls g r _ hr).mono ?_); rintro e w2 ⟨rfl, hr2, ht2⟩)
          go_ret
          rw [HR.out]
          exact ⟨rfl, hr2, ht2⟩
        · have h0 : 0 < j := by omega
          have ez : (((b.toNat : Int) == 0) : Bool) = true := by rw [beq_iff_eq]; omega
          have hb1 : b.toNat < 1 := by omega
          clear hbad h9
          cases e9 : (((j : Int) == 9) : Bool) with
          | true =>
            go_wp2_with (go_at_call 90; (with_reducible refine (rfail_calls g r _ hr).mono ?_); rintro e w2 ⟨rfl, hr2, ht2⟩)
            go_ret
            rw [HR.out]
            exact ⟨rfl, hr2, ht2⟩
          | false =>
            go_wp2_with (go_at_call 90; (with_reducible refine (rfail_calls g r _ hr).mono ?_); rintro e w2 ⟨rfl, hr2, ht2⟩)
            go_ret
            rw [HR.out]
            exact ⟨rfl, hr2, ht2⟩
      · rw [if_neg hbad] at HA
        -- the three ways to the number's next digit
        have hc3 : (((j : Int) == 9) = true ∧ b.toNat ≤ 1 ∧ 0 < j ∧ (((b.toNat : Int) == 0) : Bool) = false) ∨ (((j : Int) == 9) = false ∧ 0 < j ∧ j < 9 ∧ (((b.toNat : Int) == 0) : Bool) = false) ∨ (((j : Int) == 9) = false ∧ ¬ 0 < j) := by
          rcases Nat.lt_or_ge 0 j with h0 | h0
          · have hz : (((b.toNat : Int) == 0) : Bool) = false := by rw [beq_eq_false_iff_ne]; omega
            rcases Nat.lt_or_ge j 9 with h9 | h9
            · exact .inr (.inl ⟨by rw [beq_eq_false_iff_ne]; omega, h0, h9, hz⟩)
            · exact .inl ⟨by rw [beq_iff_eq]; omega, by omega, h0, hz⟩
          · exact .inr (.inr ⟨by rw [beq_eq_false_iff_ne]; omega, by omega⟩)
        have hor := digit_or j acc b hj hA.out.1 (fun h => by omega)
        obtain ⟨acc', hacc'⟩ : ∃ acc', acc' = acc + b.toNat % 128 * 128 ^ j := ⟨_, rfl⟩
        rw [← hacc'] at hor HA
        by_cases h128 : b.toNat < 128
        · rw [if_pos h128] at HA
          have hres : r.uint = (acc', ⟨r.b.drop (j + 1), r.bad⟩) := by unfold PR.uint; rw [← HA.2]
          have HH := Lib.hid hres
          clear HA hbad hdrop hb hres hA hacc'
          rcases hc3 with ⟨e9, hb1, h0, ez⟩ | ⟨e9, h0, h9, ez⟩ | ⟨e9, h0⟩
          all_goals
            go_wp2_with (refine wpList_slice_from rfl 87 5 (.tmp 46) (.tmp 48) rfl Tryd.underlying87 1 bs_info (some x) r.b.length c (j + 1) .i64 rfl rfl (by omega) h2 h4 (by rw [bv_length, Nat.mul_one]) ?_; intro A' hA' hS')
            go_ret
            rw [HH.out]
            refine ⟨rfl, ⟨A', c - (j + 1), ?_, by simp; omega, by simp; omega, ?_, hS'.lt h5⟩, grown_set wr g 0 _⟩
            · have := h1.set 0 (.slice A' (r.b.length - (j + 1)) (c - (j + 1)))
              rw [List.length_drop]
              exact this
            · have := hA'
              rw [Nat.mul_one] at this
              have e : bv (r.b.drop (j + 1)) = (bv r.b).drop (j + 1) := by simp [bv]
              rw [e]
              exact this.far (hS'.ne (lt_ne h5)) _
        · rw [if_neg h128] at HA
          have hlt' : acc' < 128 ^ (j + 1) := by
            have hp : 0 < 128 ^ j := Nat.pow_pos (by omega)
            have : b.toNat % 128 * 128 ^ j ≤ 127 * 128 ^ j := Nat.mul_le_mul_right _ (by omega)
            have := hA.out.1
            rw [Nat.pow_succ]
            omega
          have h9 : j < 9 := by omega
          have HB := Lib.hid (And.intro hlt' HA.2)
          clear HA hbad hdrop hb hA hacc' hlt'
          obtain ⟨k, rfl⟩ : ∃ k, gk = k + 1 := ⟨gk - 1, by omega⟩
          rcases hc3 with ⟨e9, hb1, h0, ez⟩ | ⟨e9, h0, h9, ez⟩ | ⟨e9, h0⟩
          · omega
          all_goals
            go_wp2
            go_roundg k
            case measure => omega
            case rel => exact ⟨j + 1, acc', by go_num, rfl, by omega, by omega, HB.out, rfl⟩
    · have hnone : rUF 0 0 r.b = none := by
        have := hA.out.2
        rw [List.drop_of_length_le (by omega)] at this
        rw [← this]; rfl
      have hres : r.uint = (0, PR.fail) := by unfold PR.uint; rw [hnone]
      have HR := Lib.hid hres
      clear hres hnone hA
      go_wp2_with (go_at_call 90; (with_reducible refine (rfail_calls g r _ hr).mono ?_); rintro e w2 ⟨rfl, hr2, ht2⟩)
      go_ret
      rw [HR.out]
      exact ⟨rfl, hr2, ht2⟩


theorem rint_calls (g : Nat) (r : PR) (w : World) (h : Rdr w g r) :
    Calls Tryd.prog 64 #[.pointer (some ⟨g, 0, none⟩)] w fun e w' => e = .returned (.int .i64 r.int.1) ∧ Rdr w' g r.int.2 ∧ Turns w w' g := by
  obtain ⟨m, hm⟩ : ∃ m, m = r.uint.1 := ⟨_, rfl⟩
  have hu := ruint_calls g r w h
  rw [← hm] at hu
  have HM := Lib.hid hm
  clear hm
  go_enter Tryd.func64, Tryd.ntmps64
  go_wp2_with (go_at_call 92; refine hu.mono ?_; rintro e w1 ⟨rfl, hr1, ht1⟩)
  go_ret
  refine ⟨ret_int ?_, hr1, ht1⟩
  have hlt := r.uint_lt
  rw [← HM.out] at hlt
  unfold PR.int
  rw [← HM.out]
  exact zag_int m hlt

set_option maxRecDepth 50000 in
theorem rtake_calls (g : Nat) (r : PR) (n : Int) (w : World) (h : Rdr w g r) :
    Calls Tryd.prog 60 #[.pointer (some ⟨g, 0, none⟩), .int .i64 n] w fun e w' => e = .returned (.string (bstr (r.take n).1)) ∧ Rdr w' g (r.take n).2 ∧ Turns w w' g := by
  have hr := h
  obtain ⟨A, c, h1, h2, h3, h4, h5⟩ := h
  have c0 : w.cell? ⟨g, 0, none⟩ = some (.slice A r.b.length c) := by rw [h1.cell]; rfl
  have c1 : w.cell? ⟨g, 1, none⟩ = some (.bool r.bad) := by rw [h1.cell]; rfl
  have f0 := h1.frozen 0
  by_cases hbad : r.bad = true ∨ n < 0 ∨ (r.b.length : Int) < n
  · have hres : r.take n = ([], PR.fail) := by unfold PR.take; rw [if_pos hbad]
    rw [hres]
    have hes : (bstr ([] : List UInt8)) = ⟨#[]⟩ := rfl
    cases hb : r.bad with
    | true =>
      rw [hb] at c1
      go_enter Tryd.func60, Tryd.ntmps60
      go_wp2_with (go_at_call 90; (with_reducible refine (rfail_calls g r _ hr).mono ?_); rintro e w2 ⟨rfl, hr2, ht2⟩)
      go_ret
      exact ⟨rfl, hr2, ht2⟩
    | false =>
      rw [hb] at c1
      rw [hb] at hbad
      by_cases h0 : n < 0
      · go_enter Tryd.func60, Tryd.ntmps60
        go_wp2_with (go_at_call 90; (with_reducible refine (rfail_calls g r _ hr).mono ?_); rintro e w2 ⟨rfl, hr2, ht2⟩)
        go_ret
        exact ⟨rfl, hr2, ht2⟩
      · have hl : (r.b.length : Int) < n := by rcases hbad with h | h | h <;> first | cases h | omega
        clear hbad
        go_enter Tryd.func60, Tryd.ntmps60
        go_wp2_with (go_at_call 90; (with_reducible refine (rfail_calls g r _ hr).mono ?_); rintro e w2 ⟨rfl, hr2, ht2⟩)
        go_ret
        exact ⟨rfl, hr2, ht2⟩
  · have hres : r.take n = (r.b.take n.toNat, ⟨r.b.drop n.toNat, r.bad⟩) := by unfold PR.take; rw [if_neg hbad]
    simp only [not_or, Int.not_lt] at hbad
    obtain ⟨hb, h0, hl⟩ := hbad
    obtain ⟨k, rfl⟩ := Int.eq_ofNat_of_zero_le h0
    have hk : k ≤ r.b.length := by omega
    rw [hres, Int.toNat_natCast]
    rw [Bool.not_eq_true] at hb
    rw [hb] at c1
    have hcv := conv_str (P := Tryd.prog) Tryd.underlying87 Tryd.underlying5 Tryd.underlying9 (c := c) (bs := r.b.take k) (n := k) (by rw [List.length_take]; omega) (by have := h4.take k; rw [bv, List.map_take]; exact this)
    clear h0 hl hres
    go_enter Tryd.func60, Tryd.ntmps60
    go_wp2_with (refine wpList_slice_from rfl 87 5 (.tmp 40) (.tmp 41) rfl Tryd.underlying87 1 bs_info A r.b.length c k .i64 rfl rfl hk h2 h4 (by rw [bv_length, Nat.mul_one]) ?_; intro A' hA' hS')
    go_ret
    refine ⟨rfl, ⟨A', c - k, ?_, by simp; omega, by simp; omega, ?_, hS'.lt h5⟩, grown_set w g 0 _⟩
    · have := h1.set 0 (.slice A' (r.b.length - k) (c - k))
      rw [List.length_drop]
      exact this
    · have := hA'
      rw [Nat.mul_one] at this
      have e : bv (r.b.drop k) = (bv r.b).drop k := by simp [bv]
      rw [e]
      exact this.far (hS'.ne (lt_ne h5)) _

theorem PR.int_lo (r : PR) : -9223372036854775808 ≤ r.int.1 ∧ r.int.1 ≤ 9223372036854775807 := zag_lo (by simpa using r.uint_lt)


theorem rtext_calls (g : Nat) (r : PR) (most : Int) (w : World) (h : Rdr w g r) (hmost : most ≤ 9223372036854775807) :
    Calls Tryd.prog 63 #[.pointer (some ⟨g, 0, none⟩), .int .i64 most] w fun e w' => e = .returned (.string (bstr (r.text most).1)) ∧ Rdr w' g (r.text most).2 ∧ Turns w w' g := by
  obtain ⟨m, hm⟩ : ∃ m, m = r.uint.1 := ⟨_, rfl⟩
  have hu := ruint_calls g r w h
  rw [← hm] at hu
  have HMO := Lib.hid hmost
  clear hmost
  by_cases hbad : most < 0 ∨ most < (m : Int)
  · have hres : r.text most = ([], PR.fail) := by unfold PR.text; rw [if_pos (by rw [← hm]; exact hbad)]
    rw [hres]
    clear hm
    by_cases h0 : most < 0
    · go_enter Tryd.func63, Tryd.ntmps63
      go_wp2_with (first
        | (go_at_call 92; refine hu.mono ?_; rintro e w1 ⟨rfl, hr1, ht1⟩)
        | (go_at_call 90; (with_reducible refine (rfail_calls g _ _ hr1).mono ?_); rintro e w2 ⟨rfl, hr2, ht2⟩))
      go_ret
      exact ⟨rfl, hr2, ht1.trans ht2⟩
    · have hlt : most < (m : Int) := by omega
      clear hbad
      have hwr : IntKind.u64.wrap most = most := by rw [IntKind.wrap_u64]; have := HMO.out; omega
      go_enter Tryd.func63, Tryd.ntmps63
      go_wp2_with (first
        | (go_at_call 92; refine hu.mono ?_; rintro e w1 ⟨rfl, hr1, ht1⟩)
        | (go_at_call 90; (with_reducible refine (rfail_calls g _ _ hr1).mono ?_); rintro e w2 ⟨rfl, hr2, ht2⟩))
      go_ret
      exact ⟨rfl, hr2, ht1.trans ht2⟩
  · have hres : r.text most = r.uint.2.take m := by unfold PR.text; rw [if_neg (by rw [← hm]; exact hbad), ← hm]
    rw [hres]
    clear hm
    have h0 : 0 ≤ most := by omega
    have hlt : (m : Int) ≤ most := by omega
    clear hbad
    have hwr : IntKind.u64.wrap most = most := by rw [IntKind.wrap_u64]; have := HMO.out; omega
    have hw2 : wrap64 (m : Int) = m := by unfold wrap64; have := HMO.out; omega
    go_enter Tryd.func63, Tryd.ntmps63
    go_wp2_with (first
      | (go_at_call 92; refine hu.mono ?_; rintro e w1 ⟨rfl, hr1, ht1⟩)
      | (go_at_call 60; (with_reducible refine (rtake_calls g _ m _ hr1).mono ?_); rintro e w2 ⟨rfl, hr2, ht2⟩))
    go_ret
    exact ⟨rfl, hr2, ht1.trans ht2⟩
end Go.Proofs.YtcnhbodemabbdaaDoor
